import Derived.Test.YtgamnldjlncdlaaZA4
import Derived.Test.YtgamnldjlncdlaaZA14
import Derived.Test.YtgamnldjlncdlaaRows
/- Types of the program, and functions of it: printed by a program, checked by the kernel. -/
set_option linter.all false
set_option maxRecDepth 100000
namespace Go.Ax
open Go.Proofs Go.Proofs.Ytgamnldjlncdlaa
theorem aX : Try.prog.follows .mixedOrders = true := by kernel_rfl
theorem af : eA aR ax := .flat (fun _ => rfl) fun _ => rfl
theorem BZ (x : Int) (d : D) (h : d ∈ aR x) : d.scal = true := by
  simp only [aR,List.mem_singleton] at h; subst h; rfl
theorem zz : eA H2 tE := .flat (fun _ => rfl) fun _ => rfl
theorem Bj (x : ByteArray) (d : D) (h : d ∈ tc x) : d.scal = true := by
  simp only [tc,List.mem_singleton] at h; subst h; rfl
structure aF where
  Year : Int
  Amount : Int
def bY : aF := ⟨(0 : Int),(0 : Int)⟩
def dn (x : aF) : List D := [(di x.Year),(di x.Amount)]
def cz : List D → aF
  | [.lit (.int .i64 a1), .lit (.int .i64 a2)] => (aF.mk a1 a2)
  | _ => bY
theorem fa : eA dn cz := .flat (fun _ => rfl) fun _ => rfl
def fD (x : (List Int)) : List D := [(.sl 1 x.length (bP aR (0 : Int) x))]
def aM : List D → (List Int)
  | [d] => P5 ax d
  | _ => []
theorem eN : eA fD aM := by
  intro x ds h
  obtain ⟨d,ds,rfl,h1,h⟩ := h.cons_inv
  obtain rfl := h.nil_inv
  exact OK af h1
structure ae where
  From : Int
  Mode : Int
  Unit : Int
  Credits : (List Int)
  Series : (List Int)
  Lets : (List (List Int))
  Ifs : (List (List Int))
  Pays : (List (List Int))
  Cuts : (List (List Int))
  Twist : Int
structure aA where
  Mode : Int
  Unit : Int
def yN : aA := ⟨(0 : Int),(0 : Int)⟩
def tk (x : aA) : List D := [(di x.Mode),(di x.Unit)]
def xx : List D → aA
  | [.lit (.int .i64 a1), .lit (.int .i64 a2)] => (aA.mk a1 a2)
  | _ => yN
structure av where
  Kind : Int
  Limit : Int
def dA : av := ⟨(0 : Int),(0 : Int)⟩
def dh (x : av) : List D := [(di x.Kind),(di x.Limit)]
def aV : List D → av
  | [.lit (.int .i64 a1), .lit (.int .i64 a2)] => (av.mk a1 a2)
  | _ => dA
theorem bI : eA dh aV := .flat (fun _ => rfl) fun _ => rfl
structure aq where
  Num : Int
  Den : Int
def bz : aq := ⟨(0 : Int),(0 : Int)⟩
def cl (x : aq) : List D := [(di x.Num),(di x.Den)]
def yI : List D → aq
  | [.lit (.int .i64 a1), .lit (.int .i64 a2)] => (aq.mk a1 a2)
  | _ => bz
structure aD where
  Year : Int
  Factor : aq
def cg : aD := ⟨(0 : Int),bz⟩
def eo (x : aD) : List D := [(di x.Year),(di x.Factor.Num),(di x.Factor.Den)]
def bc : List D → aD
  | [.lit (.int .i64 a1), .lit (.int .i64 a2), .lit (.int .i64 a3)] => (aD.mk a1 (aq.mk a2 a3))
  | _ => cg
theorem bW : eA eo bc := .flat (fun _ => rfl) fun _ => rfl
structure ar where
  Op : Int
  Value : aq
  Dim : Int
  Name : ByteArray
  Args : (List ar)
def ap : ar := ⟨(0 : Int),bz,(0 : Int),(ao []),([] : List ar)⟩
def ar.s_Value (x : ar) (v : aq) : ar := ⟨x.Op,v,x.Dim,x.Name,x.Args⟩
def ar.s_Args (x : ar) (v : (List ar)) : ar := ⟨x.Op,x.Value,x.Dim,x.Name,v⟩
mutual
def eGExprR : ar → List D
  | ⟨x0,x1,x2,x3,x4⟩ => [(di x0),(di x1.Num),(di x1.Den),(di x2),(ds x3),(.sl 6 x4.length (aGExpr x4))]
def aGExpr : List ar → Nat → List D
  | [] => fun _ => []
  | x :: r => fun i => match i with | 0 => eGExprR x | j + 1 => aGExpr r j
end
def du (x : ar) : List D := [(di x.Op),(di x.Value.Num),(di x.Value.Den),(di x.Dim),(ds x.Name),(.sl 6 x.Args.length (aGExpr x.Args))]
theorem DL (x : ar) : eGExprR x = du x := by cases x; unfold eGExprR; rfl
theorem lX : ∀ (l : List ar) (i : Nat),i < l.length → aGExpr l i = du (l.getD i ap)
  | [],i,h => by simp at h
  | x :: r,0,_ => by unfold aGExpr; exact DL x
  | x :: r,i + 1,h => by unfold aGExpr; rw [List.getD_cons_succ]; exact lX r i (by simpa using h)
theorem aj.aGExpr (l : List ar) : aj du ap l.length (aGExpr l) l := ⟨rfl,fun i hi => .of_eq (lX l i hi)⟩
theorem iO {k' k n : Nat} {el : Nat → List D} {l : List ar} (hk : 0 < n → k = k') (h : aj du ap n el l) : je (.sl k n el) (.sl k' l.length (aGExpr l)) := .row h.len hk fun i hi => by rw [lX l i (h.len ▸ hi)]; exact h.els i hi
mutual
def dGExpr : List D → ar
  | [.lit (.int .i64 a1), .lit (.int .i64 a2), .lit (.int .i64 a3), .lit (.int .i64 a4), .lit (.string a5),q] => ⟨a1,(aq.mk a2 a3),a4,a5,dGExprs q⟩
  | _ => ap
def dGExprs : D → List ar
  | .sl _ n el => (List.range n).map fun i => dGExpr (el i)
  | _ => []
end
theorem cB : eA du dGExpr := by
  have key : ∀ (n : Nat) (x : ar),SizeOf.sizeOf x < n → ∀ ds,bn ds (du x) → dGExpr ds = x := by
    intro n
    induction n with
    | zero => intro x h; omega
    | succ n ih =>
      intro x hx ds h
      obtain ⟨d1,ds,rfl,h1,h⟩ := h.cons_inv
      obtain ⟨d2,ds,rfl,h2,h⟩ := h.cons_inv
      obtain ⟨d3,ds,rfl,h3,h⟩ := h.cons_inv
      obtain ⟨d4,ds,rfl,h4,h⟩ := h.cons_inv
      obtain ⟨d5,ds,rfl,h5,h⟩ := h.cons_inv
      obtain ⟨d6,ds,rfl,h6,h⟩ := h.cons_inv
      obtain rfl := h.nil_inv
      obtain rfl := h1.lit_inv rfl
      obtain rfl := h2.lit_inv rfl
      obtain rfl := h3.lit_inv rfl
      obtain rfl := h4.lit_inv rfl
      obtain rfl := h5.lit_inv rfl
      have e : dGExprs d6 = x.Args := by
        rcases h6.nil_or with ⟨rfl,h0⟩ | ⟨k,el,rfl,h1⟩
        · unfold dGExprs; exact (List.eq_nil_of_length_eq_zero h0).symm
        · unfold dGExprs
          refine List.ext_getElem (by simp) fun i a b => ?_
          have hs : SizeOf.sizeOf (x.Args[i]) < n := by
            have s1 := List.sizeOf_lt_of_mem (List.getElem_mem b)
            have s2 : SizeOf.sizeOf x.Args < SizeOf.sizeOf x := by cases x; simp; omega
            omega
          have := ih _ hs (el i) (by have := h1 i b; rw [lX _ i b,List.getD_eq_getElem?_getD,List.getElem?_eq_getElem b] at this; exact this)
          simpa using this
      unfold dGExpr
      rw [e]
      cases x; rfl
  exact fun x ds h => key _ x (Nat.lt_succ_self _) ds h
theorem o7 {d : D} {k : Nat} {l : List ar} (h : je d (.sl k l.length (aGExpr l))) : dGExprs d = l := by
  rcases h.nil_or with ⟨rfl,h0⟩ | ⟨k,el,rfl,h1⟩
  · unfold dGExprs; exact (List.eq_nil_of_length_eq_zero h0).symm
  · unfold dGExprs
    refine List.ext_getElem (by simp) fun i a b => ?_
    have := cB _ (el i) (by have := h1 i b; rw [lX _ i b,List.getD_eq_getElem?_getD,List.getElem?_eq_getElem b] at this; exact this)
    simpa using this
theorem ar.eta (x : ar) : (ar.mk x.Op (aq.mk x.Value.Num x.Value.Den) x.Dim x.Name x.Args) = x := by cases x; rfl
structure bk where
  Name : ByteArray
  Body : ar
def gk : bk := ⟨(ao []),ap⟩
def bk.s_Name (x : bk) (v : ByteArray) : bk := ⟨v,x.Body⟩
def bk.s_Body (x : bk) (v : ar) : bk := ⟨x.Name,v⟩
def gI (x : bk) : List D := [(ds x.Name),(di x.Body.Op),(di x.Body.Value.Num),(di x.Body.Value.Den),(di x.Body.Dim),(ds x.Body.Name),(.sl 6 x.Body.Args.length (aGExpr x.Body.Args))]
def bp : List D → bk
  | [.lit (.string a1), .lit (.int .i64 a2), .lit (.int .i64 a3), .lit (.int .i64 a4), .lit (.int .i64 a5), .lit (.string a6),a7] => (bk.mk a1 (ar.mk a2 (aq.mk a3 a4) a5 a6 (dGExprs a7)))
  | _ => gk
theorem cA : eA gI bp := by
  intro x ds h
  obtain ⟨d1,ds,rfl,h1,h⟩ := h.cons_inv
  obtain ⟨d2,ds,rfl,h2,h⟩ := h.cons_inv
  obtain ⟨d3,ds,rfl,h3,h⟩ := h.cons_inv
  obtain ⟨d4,ds,rfl,h4,h⟩ := h.cons_inv
  obtain ⟨d5,ds,rfl,h5,h⟩ := h.cons_inv
  obtain ⟨d6,ds,rfl,h6,h⟩ := h.cons_inv
  obtain ⟨d7,ds,rfl,h7,h⟩ := h.cons_inv
  obtain rfl := h.nil_inv
  obtain rfl := h1.lit_inv rfl
  obtain rfl := h2.lit_inv rfl
  obtain rfl := h3.lit_inv rfl
  obtain rfl := h4.lit_inv rfl
  obtain rfl := h5.lit_inv rfl
  obtain rfl := h6.lit_inv rfl
  simp only [bp,o7 h7,ar.eta]
structure bf where
  Benefit : Int
  If : ar
  Pay : ar
def dk : bf := ⟨(0 : Int),ap,ap⟩
def bf.s_Benefit (x : bf) (v : Int) : bf := ⟨v,x.If,x.Pay⟩
def bf.s_Pay (x : bf) (v : ar) : bf := ⟨x.Benefit,x.If,v⟩
def dP (x : bf) : List D := [(di x.Benefit),(di x.If.Op),(di x.If.Value.Num),(di x.If.Value.Den),(di x.If.Dim),(ds x.If.Name),(.sl 6 x.If.Args.length (aGExpr x.If.Args)),(di x.Pay.Op),(di x.Pay.Value.Num),(di x.Pay.Value.Den),(di x.Pay.Dim),(ds x.Pay.Name),(.sl 6 x.Pay.Args.length (aGExpr x.Pay.Args))]
def ba : List D → bf
  | [.lit (.int .i64 a1), .lit (.int .i64 a2), .lit (.int .i64 a3), .lit (.int .i64 a4), .lit (.int .i64 a5), .lit (.string a6),a7, .lit (.int .i64 a8), .lit (.int .i64 a9), .lit (.int .i64 a10), .lit (.int .i64 a11), .lit (.string a12),a13] => (bf.mk a1 (ar.mk a2 (aq.mk a3 a4) a5 a6 (dGExprs a7)) (ar.mk a8 (aq.mk a9 a10) a11 a12 (dGExprs a13)))
  | _ => dk
theorem bV : eA dP ba := by
  intro x ds h
  obtain ⟨d1,ds,rfl,h1,h⟩ := h.cons_inv
  obtain ⟨d2,ds,rfl,h2,h⟩ := h.cons_inv
  obtain ⟨d3,ds,rfl,h3,h⟩ := h.cons_inv
  obtain ⟨d4,ds,rfl,h4,h⟩ := h.cons_inv
  obtain ⟨d5,ds,rfl,h5,h⟩ := h.cons_inv
  obtain ⟨d6,ds,rfl,h6,h⟩ := h.cons_inv
  obtain ⟨d7,ds,rfl,h7,h⟩ := h.cons_inv
  obtain ⟨d8,ds,rfl,h8,h⟩ := h.cons_inv
  obtain ⟨d9,ds,rfl,h9,h⟩ := h.cons_inv
  obtain ⟨d10,ds,rfl,h10,h⟩ := h.cons_inv
  obtain ⟨d11,ds,rfl,h11,h⟩ := h.cons_inv
  obtain ⟨d12,ds,rfl,h12,h⟩ := h.cons_inv
  obtain ⟨d13,ds,rfl,h13,h⟩ := h.cons_inv
  obtain rfl := h.nil_inv
  obtain rfl := h1.lit_inv rfl
  obtain rfl := h2.lit_inv rfl
  obtain rfl := h3.lit_inv rfl
  obtain rfl := h4.lit_inv rfl
  obtain rfl := h5.lit_inv rfl
  obtain rfl := h6.lit_inv rfl
  obtain rfl := h8.lit_inv rfl
  obtain rfl := h9.lit_inv rfl
  obtain rfl := h10.lit_inv rfl
  obtain rfl := h11.lit_inv rfl
  obtain rfl := h12.lit_inv rfl
  simp only [ba,o7 h7,o7 h13,ar.eta]
structure bJ where
  Benefit : Int
  By : ar
def jO : bJ := ⟨(0 : Int),ap⟩
def ef (x : bJ) : List D := [(di x.Benefit),(di x.By.Op),(di x.By.Value.Num),(di x.By.Value.Den),(di x.By.Dim),(ds x.By.Name),(.sl 6 x.By.Args.length (aGExpr x.By.Args))]
def aU : List D → bJ
  | [.lit (.int .i64 a1), .lit (.int .i64 a2), .lit (.int .i64 a3), .lit (.int .i64 a4), .lit (.int .i64 a5), .lit (.string a6),a7] => (bJ.mk a1 (ar.mk a2 (aq.mk a3 a4) a5 a6 (dGExprs a7)))
  | _ => jO
theorem bH : eA ef aU := by
  intro x ds h
  obtain ⟨d1,ds,rfl,h1,h⟩ := h.cons_inv
  obtain ⟨d2,ds,rfl,h2,h⟩ := h.cons_inv
  obtain ⟨d3,ds,rfl,h3,h⟩ := h.cons_inv
  obtain ⟨d4,ds,rfl,h4,h⟩ := h.cons_inv
  obtain ⟨d5,ds,rfl,h5,h⟩ := h.cons_inv
  obtain ⟨d6,ds,rfl,h6,h⟩ := h.cons_inv
  obtain ⟨d7,ds,rfl,h7,h⟩ := h.cons_inv
  obtain rfl := h.nil_inv
  obtain rfl := h1.lit_inv rfl
  obtain rfl := h2.lit_inv rfl
  obtain rfl := h3.lit_inv rfl
  obtain rfl := h4.lit_inv rfl
  obtain rfl := h5.lit_inv rfl
  obtain rfl := h6.lit_inv rfl
  simp only [aU,o7 h7,ar.eta]
structure am where
  From : Int
  Rounding : aA
  Credits : (List av)
  Series : (List aD)
  Lets : (List bk)
  Grants : (List bf)
  Reduces : (List bJ)
def bh : am := ⟨(0 : Int),yN,([] : List av),([] : List aD),([] : List bk),([] : List bf),([] : List bJ)⟩
structure aN where
  hi : Int
  lo : Int
def bG : aN := ⟨(0 : Int),(0 : Int)⟩
def dB (x : aN) : List D := [(.lit (.int .u64 x.hi)),(.lit (.int .u64 x.lo))]
def nH : List D → aN
  | [.lit (.int .u64 a1), .lit (.int .u64 a2)] => (aN.mk a1 a2)
  | _ => bG
structure al where
  Name : ByteArray
  Dim : Int
def cf : al := ⟨(ao []),(0 : Int)⟩
def dm (x : al) : List D := [(ds x.Name),(di x.Dim)]
def aJ : List D → al
  | [.lit (.string a1), .lit (.int .i64 a2)] => (al.mk a1 a2)
  | _ => cf
theorem ai : eA dm aJ := .flat (fun _ => rfl) fun _ => rfl
structure ab where
  l : (List Int)
  at_ : Int
  left : Int
def aa : ab := ⟨([] : List Int),(0 : Int),(0 : Int)⟩
def ab.s_l (x : ab) (v : (List Int)) : ab := ⟨v,x.at_,x.left⟩
def ab.s_at_ (x : ab) (v : Int) : ab := ⟨x.l,v,x.left⟩
def ab.s_left (x : ab) (v : Int) : ab := ⟨x.l,x.at_,v⟩
structure j2 where
  From : Int
  To : Int
def GC : j2 := ⟨(0 : Int),(0 : Int)⟩
def Bu (x : j2) : List D := [(di x.From),(di x.To)]
def Gg : List D → j2
  | [.lit (.int .i64 a1), .lit (.int .i64 a2)] => (j2.mk a1 a2)
  | _ => GC
structure fq where
  Issuer : Int
  Number : Int
  Version : Int
  Withdrawn : Bool
  Person : Int
  Kind : Int
  State : Int
  Span : j2
  Seat : Int
  Share : Int
  Currency : Int
  Amount : Int
  Ref : Int
def Nr : fq := ⟨(0 : Int),(0 : Int),(0 : Int),false,(0 : Int),(0 : Int),(0 : Int),GC,(0 : Int),(0 : Int),(0 : Int),(0 : Int),(0 : Int)⟩
def ml (x : fq) : List D := [(di x.Issuer),(di x.Number),(di x.Version),(db x.Withdrawn),(di x.Person),(di x.Kind),(di x.State),(di x.Span.From),(di x.Span.To),(di x.Seat),(di x.Share),(di x.Currency),(di x.Amount),(di x.Ref)]
def Fr : List D → fq
  | [.lit (.int .i64 a1), .lit (.int .i64 a2), .lit (.int .i64 a3), .lit (.bool a4), .lit (.int .i64 a5), .lit (.int .i64 a6), .lit (.int .i64 a7), .lit (.int .i64 a8), .lit (.int .i64 a9), .lit (.int .i64 a10), .lit (.int .i64 a11), .lit (.int .i64 a12), .lit (.int .i64 a13), .lit (.int .i64 a14)] => (fq.mk a1 a2 a3 a4 a5 a6 a7 (j2.mk a8 a9) a10 a11 a12 a13 a14)
  | _ => Nr
abbrev aQ (l : List Int) : Nat → List D := bP aR (0 : Int) l
abbrev aC (l : List Int) : V := .c (.sl 1 l.length (bP aR (0 : Int) l))
abbrev jq (o t : Nat) (l : List Int) : Nat × Option Ob := (o,some (.row t 1 l.length (bP aR (0 : Int) l)))
abbrev bs (l : List Int) : Prop := aT aR ax 1 1 l.length (bP aR (0 : Int) l)
abbrev Ns : AC (List Int) := aL aR ax (0 : Int) 1
abbrev Ew (l : List ByteArray) : Nat → List D := bP tc (ao []) l
abbrev jk (o t : Nat) (l : List ByteArray) : Nat × Option Ob := (o,some (.row t 1 l.length (bP tc (ao []) l)))
abbrev lB (l : List aF) : Nat → List D := bP dn bY l
abbrev cq (l : List aF) : V := .c (.sl 2 l.length (bP dn bY l))
abbrev lG (o t : Nat) (l : List aF) : Nat × Option Ob := (o,some (.row t 2 l.length (bP dn bY l)))
def sS : List D → Bool
  | [.lit (.int .i64 _), .lit (.int .i64 _)] => true
  | _ => false
theorem CO (ds : List D) (h : sS ds = true) : tk (xx ds) = ds := by
  unfold sS at h
  split at h
  · rfl
  · cases h
abbrev DO : AC aA := aG sS tk xx CO
abbrev dy (l : List av) : Nat → List D := bP dh dA l
abbrev bU (l : List av) : V := .c (.sl 2 l.length (bP dh dA l))
abbrev bO (o t : Nat) (l : List av) : Nat × Option Ob := (o,some (.row t 2 l.length (bP dh dA l)))
abbrev iL (l : List av) : Prop := aT dh aV 2 2 l.length (bP dh dA l)
def s5 : List D → Bool
  | [.lit (.int .i64 _), .lit (.int .i64 _)] => true
  | _ => false
theorem C1 (ds : List D) (h : s5 ds = true) : cl (yI ds) = ds := by
  unfold s5 at h
  split at h
  · rfl
  · cases h
abbrev ke : AC aq := aG s5 cl yI C1
abbrev eK (l : List aD) : Nat → List D := bP eo cg l
abbrev bZ (l : List aD) : V := .c (.sl 3 l.length (bP eo cg l))
abbrev cy (o t : Nat) (l : List aD) : Nat × Option Ob := (o,some (.row t 3 l.length (bP eo cg l)))
abbrev j6 (l : List aD) : Prop := aT eo bc 3 3 l.length (bP eo cg l)
abbrev cQ (l : List ar) : Nat → List D := bP du ap l
abbrev bd (l : List ar) : V := .c (.sl 6 l.length (bP du ap l))
abbrev rB (o t : Nat) (l : List ar) : Nat × Option Ob := (o,some (.row t 6 l.length (bP du ap l)))
abbrev yw (l : List ar) : Prop := aT du dGExpr 6 6 l.length (bP du ap l)
abbrev gm (l : List bk) : Nat → List D := bP gI gk l
abbrev cv (l : List bk) : V := .c (.sl 7 l.length (bP gI gk l))
abbrev eB (o t : Nat) (l : List bk) : Nat × Option Ob := (o,some (.row t 7 l.length (bP gI gk l)))
abbrev pn (l : List bk) : Prop := aT gI bp 7 7 l.length (bP gI gk l)
abbrev dR (l : List bf) : Nat → List D := bP dP dk l
abbrev ck (l : List bf) : V := .c (.sl 13 l.length (bP dP dk l))
abbrev en (o t : Nat) (l : List bf) : Nat × Option Ob := (o,some (.row t 13 l.length (bP dP dk l)))
abbrev j7 (l : List bf) : Prop := aT dP ba 13 13 l.length (bP dP dk l)
abbrev ee (l : List bJ) : Nat → List D := bP ef jO l
abbrev bT (l : List bJ) : V := .c (.sl 7 l.length (bP ef jO l))
abbrev gZ (o t : Nat) (l : List bJ) : Nat × Option Ob := (o,some (.row t 7 l.length (bP ef jO l)))
abbrev i6 (l : List bJ) : Prop := aT ef aU 7 7 l.length (bP ef jO l)
def jQ : List D → Bool
  | [.lit (.int .u64 _), .lit (.int .u64 _)] => true
  | _ => false
theorem uf (ds : List D) (h : jQ ds = true) : dB (nH ds) = ds := by
  unfold jQ at h
  split at h
  · rfl
  · cases h
abbrev fB : AC aN := aG jQ dB nH uf
abbrev aY (l : List al) : Nat → List D := bP dm cf l
abbrev bm (o t : Nat) (l : List al) : Nat × Option Ob := (o,some (.row t 2 l.length (bP dm cf l)))
abbrev aZ (l : List al) : Prop := aT dm aJ 2 2 l.length (bP dm cf l)
def BF : List D → Bool
  | [.lit (.int .i64 _), .lit (.int .i64 _)] => true
  | _ => false
theorem IQ (ds : List D) (h : BF ds = true) : Bu (Gg ds) = ds := by
  unfold BF at h
  split at h
  · rfl
  · cases h
abbrev Nt : AC j2 := aG BF Bu Gg IQ
def BK : List D → Bool
  | [.lit (.int .i64 _), .lit (.int .i64 _), .lit (.int .i64 _), .lit (.bool _), .lit (.int .i64 _), .lit (.int .i64 _), .lit (.int .i64 _), .lit (.int .i64 _), .lit (.int .i64 _), .lit (.int .i64 _), .lit (.int .i64 _), .lit (.int .i64 _), .lit (.int .i64 _), .lit (.int .i64 _)] => true
  | _ => false
theorem K6 (ds : List D) (h : BK ds = true) : ml (Fr ds) = ds := by
  unfold BK at h
  split at h
  · rfl
  · cases h
abbrev GS : AC fq := aG BK ml Fr K6
abbrev x6 (l : List (List Int)) : Nat → List D := bP fD ([] : List Int) l
abbrev aw (l : List (List Int)) : V := .c (.sl 1 l.length (bP fD ([] : List Int) l))
abbrev yP (l : List (List Int)) : Prop := aT fD aM 1 1 l.length (bP fD ([] : List Int) l)
noncomputable def Qn : List Code := be (aH Try.f4)
def Ao (x_1 : Int) : cm := .data (i64 x_1)
def Nw (x_1 : Int) : St := ⟨[sv 4 (i64 x_1)],[],0⟩
def O6 (n k : Int) : St := ⟨[sv 0 (i64 n),sv 1 (i64 k)],[],0⟩
noncomputable def mf (n k : Int) : Option (Int) := (bif (decide (k < 1)) then (some 0) else gd (k ≠ 0) (gd (k ≠ 0) ((some (Int.tmod (ak ((Int.tmod n k) + k)) k)))))
theorem O0 {n k : Int} {K : KT} (h : W (mf n k) (rE Nw K)) : au Try.prog 14 (List.drop 0 Qn) K (O6 n k) :=
  au.qE aX [] [4] 0 5 (.nx (fun K => (bif (decide (k < 1)) then wK K .ret (Nw 0) else (k ≠ 0) ∧ (k ≠ 0) ∧ (wK K .ret (Nw (Int.tmod (ak ((Int.tmod n k) + k)) k))))) (an h (fun _ h => (l0 h)) (fun _ h => (bX h fun _ h => (bX h fun _ h => (l0 h))))))
noncomputable def bb (n k : Int) : Option (Int) := mf n k
noncomputable def wk : ct := jr (aI .i64) (aI .i64) bb (0 : Int) Ao
theorem Cn : br Try.prog 4 wk := fQ Try.f4 (aH Try.f4) [.tmp 4] 14 fun u0 u1 y h => @O0 u0 u1 _ (bF.2 ⟨y,h,(dG (i64 y) (VLe.rfl' _))⟩)
noncomputable abbrev e4 : FE Try.prog := ⟨4, .pure wk,Cn⟩
noncomputable def PZ : List Code := be (aH Try.f18)
def Ah (x_1 : Int) : cm := .data (.c (.lit (.int .u64 x_1)))
def HA (x_1 : Int) : St := ⟨[sv 2 (.c (.lit (.int .u64 x_1)))],[],0⟩
def NX (n : Int) : St := ⟨[sv 0 (i64 n)],[],0⟩
noncomputable def l7 (n : Int) : Option (Int) := (bif (decide (n < 0)) then (some (IntKind.u64.wrap ((IntKind.u64.wrap (ak (0 - (ak (n + 1))))) + 1))) else (some (IntKind.u64.wrap n)))
theorem Km {n : Int} {K : KT} (h : W (l7 n) (rE HA K)) : au Try.prog 12 (List.drop 0 PZ) K (NX n) :=
  au.qE aX [] [2] 0 5 (.nx (fun K => (bif (decide (n < 0)) then wK K .ret (HA (IntKind.u64.wrap ((IntKind.u64.wrap (ak (0 - (ak (n + 1))))) + 1))) else wK K .ret (HA (IntKind.u64.wrap n)))) (an h (fun _ h => (l0 h)) (fun _ h => (l0 h))))
noncomputable def dl (n : Int) : Option (Int) := l7 n
noncomputable def wM : ct := gj (aI .i64) dl (0 : Int) Ah
theorem Cx : br Try.prog 18 wM := dW Try.f18 (aH Try.f18) [.tmp 2] 12 fun u0 y h => @Km u0 _ (bF.2 ⟨y,h,(dG (.c (.lit (.int .u64 y))) (VLe.rfl' _))⟩)
noncomputable abbrev bw : FE Try.prog := ⟨18, .pure wM,Cx⟩
noncomputable def AZ : List Code := be (aH Try.f58)
def ui (x_5 : Int) : cm := .data (i64 x_5)
def Cm (x_5 : Int) : St := ⟨[sv 2 (i64 x_5)],[],0⟩
def Ce (x_4 n_2 : Int) : St := ⟨[sv 0 (.c (.lit (.int .u64 x_4))),sv 2 (i64 n_2)],[],0⟩
noncomputable def jE (x_4 n_2 : Int) : Option (Int) := gd (0 ≤ (IntKind.u8.wrap x_4) ∧ (IntKind.u8.wrap x_4) < ((ao [0,1,2,2,3,3,3,3,4,4,4,4,4,4,4,4,5,5,5,5,5,5,5,5,5,5,5,5,5,5,5,5,6,6,6,6,6,6,6,6,6,6,6,6,6,6,6,6,6,6,6,6,6,6,6,6,6,6,6,6,6,6,6,6,7,7,7,7,7,7,7,7,7,7,7,7,7,7,7,7,7,7,7,7,7,7,7,7,7,7,7,7,7,7,7,7,7,7,7,7,7,7,7,7,7,7,7,7,7,7,7,7,7,7,7,7,7,7,7,7,7,7,7,7,7,7,7,7,8,8,8,8,8,8,8,8,8,8,8,8,8,8,8,8,8,8,8,8,8,8,8,8,8,8,8,8,8,8,8,8,8,8,8,8,8,8,8,8,8,8,8,8,8,8,8,8,8,8,8,8,8,8,8,8,8,8,8,8,8,8,8,8,8,8,8,8,8,8,8,8,8,8,8,8,8,8,8,8,8,8,8,8,8,8,8,8,8,8,8,8,8,8,8,8,8,8,8,8,8,8,8,8,8,8,8,8,8,8,8,8,8,8,8,8,8,8,8,8,8,8,8,8,8,8,8,8]).size : Int)) ((some (ak (n_2 + (ak (((ao [0,1,2,2,3,3,3,3,4,4,4,4,4,4,4,4,5,5,5,5,5,5,5,5,5,5,5,5,5,5,5,5,6,6,6,6,6,6,6,6,6,6,6,6,6,6,6,6,6,6,6,6,6,6,6,6,6,6,6,6,6,6,6,6,7,7,7,7,7,7,7,7,7,7,7,7,7,7,7,7,7,7,7,7,7,7,7,7,7,7,7,7,7,7,7,7,7,7,7,7,7,7,7,7,7,7,7,7,7,7,7,7,7,7,7,7,7,7,7,7,7,7,7,7,7,7,7,7,8,8,8,8,8,8,8,8,8,8,8,8,8,8,8,8,8,8,8,8,8,8,8,8,8,8,8,8,8,8,8,8,8,8,8,8,8,8,8,8,8,8,8,8,8,8,8,8,8,8,8,8,8,8,8,8,8,8,8,8,8,8,8,8,8,8,8,8,8,8,8,8,8,8,8,8,8,8,8,8,8,8,8,8,8,8,8,8,8,8,8,8,8,8,8,8,8,8,8,8,8,8,8,8,8,8,8,8,8,8,8,8,8,8,8,8,8,8,8,8,8,8,8,8,8,8,8,8]).data.getD (Int.toNat (IntKind.u8.wrap x_4)) 0).toNat : Int))))))
theorem De {x_4 n_2 : Int} {K : KT} (h : W (jE x_4 n_2) (rE Cm K)) : au Try.prog 25 (List.drop 7 AZ) K (Ce x_4 n_2) :=
  au.qE aX [] [2] 7 2 (.nx (fun K => let a1_ := ao [0,1,2,2,3,3,3,3,4,4,4,4,4,4,4,4,5,5,5,5,5,5,5,5,5,5,5,5,5,5,5,5,6,6,6,6,6,6,6,6,6,6,6,6,6,6,6,6,6,6,6,6,6,6,6,6,6,6,6,6,6,6,6,6,7,7,7,7,7,7,7,7,7,7,7,7,7,7,7,7,7,7,7,7,7,7,7,7,7,7,7,7,7,7,7,7,7,7,7,7,7,7,7,7,7,7,7,7,7,7,7,7,7,7,7,7,7,7,7,7,7,7,7,7,7,7,7,7,8,8,8,8,8,8,8,8,8,8,8,8,8,8,8,8,8,8,8,8,8,8,8,8,8,8,8,8,8,8,8,8,8,8,8,8,8,8,8,8,8,8,8,8,8,8,8,8,8,8,8,8,8,8,8,8,8,8,8,8,8,8,8,8,8,8,8,8,8,8,8,8,8,8,8,8,8,8,8,8,8,8,8,8,8,8,8,8,8,8,8,8,8,8,8,8,8,8,8,8,8,8,8,8,8,8,8,8,8,8,8,8,8,8,8,8,8,8,8,8,8,8,8,8,8,8,8,8]; let a2_ := IntKind.u8.wrap x_4; (0 ≤ a2_) ∧ (a2_ < (a1_.size : Int)) ∧ (wK K .ret (Cm (ak (n_2 + (ak ((a1_.data.getD (Int.toNat a2_) 0).toNat : Int))))))) (bD h fun _ h => (l0 h)))
def BD (x_3 n_1 : Int) : St := ⟨[sv 0 (.c (.lit (.int .u64 x_3))),sv 2 (i64 n_1)],[],0⟩
noncomputable def jT (x_3 n_1 : Int) : Option (Int) := (bif (decide (256 ≤ x_3)) then (jE (Int.fdiv x_3 (2 ^ min (Int.toNat (8 : Int)) 64)) (ak (n_1 + 8))) else (jE x_3 n_1))
theorem DB {x_3 n_1 : Int} {K : KT} (h : W (jT x_3 n_1) (rE Cm K)) : au Try.prog 25 (List.drop 5 AZ) K (BD x_3 n_1) :=
  au.qD aX [] [0,2] 5 2 7 (.nx (fun K => (bif (decide (256 ≤ x_3)) then (0 ≤ (8 : Int)) ∧ (wK K .normal (Ce (Int.fdiv x_3 (2 ^ min (Int.toNat (8 : Int)) 64)) (ak (n_1 + 8)))) else wK K .normal (Ce x_3 n_1))) (an h (fun _ h => ⟨(by decide),(l0 (De h))⟩) (fun _ h => (l0 (De h)))))
def BC (x_2 n : Int) : St := ⟨[sv 0 (.c (.lit (.int .u64 x_2))),sv 2 (i64 n)],[],0⟩
noncomputable def jG (x_2 n : Int) : Option (Int) := (bif (decide (65536 ≤ x_2)) then (jT (Int.fdiv x_2 (2 ^ min (Int.toNat (16 : Int)) 64)) (ak (n + 16))) else (jT x_2 n))
theorem Da {x_2 n : Int} {K : KT} (h : W (jG x_2 n) (rE Cm K)) : au Try.prog 25 (List.drop 3 AZ) K (BC x_2 n) :=
  au.qD aX [] [0,2] 3 2 5 (.nx (fun K => (bif (decide (65536 ≤ x_2)) then (0 ≤ (16 : Int)) ∧ (wK K .normal (BD (Int.fdiv x_2 (2 ^ min (Int.toNat (16 : Int)) 64)) (ak (n + 16)))) else wK K .normal (BD x_2 n))) (an h (fun _ h => ⟨(by decide),(l0 (DB h))⟩) (fun _ h => (l0 (DB h)))))
def OT (x_1 : Int) : St := ⟨[sv 0 (.c (.lit (.int .u64 x_1)))],[],0⟩
noncomputable def n4 (x_1 : Int) : Option (Int) := (bif (decide (4294967296 ≤ x_1)) then (jG (Int.fdiv x_1 (2 ^ min (Int.toNat (32 : Int)) 64)) 32) else (jG x_1 0))
theorem IS {x_1 : Int} {K : KT} (h : W (n4 x_1) (rE Cm K)) : au Try.prog 25 (List.drop 0 AZ) K (OT x_1) :=
  au.qD aX [] [0,2] 0 3 3 (.nx (fun K => (bif (decide (4294967296 ≤ x_1)) then (0 ≤ (32 : Int)) ∧ (wK K .normal (BC (Int.fdiv x_1 (2 ^ min (Int.toNat (32 : Int)) 64)) 32)) else wK K .normal (BC x_1 0))) (an h (fun _ h => ⟨(by decide),(l0 (Da h))⟩) (fun _ h => (l0 (Da h)))))
noncomputable def jt (x_1 : Int) : Option (Int) := n4 x_1
noncomputable def oE : ct := gj (aI .u64) jt (0 : Int) ui
theorem uE : br Try.prog 58 oE := dW Try.f58 (aH Try.f58) [.tmp 2] 25 fun u0 y h => @IS u0 _ (bF.2 ⟨y,h,(dG (i64 y) (VLe.rfl' _))⟩)
noncomputable abbrev Q1 : FE Try.prog := ⟨58, .pure oE,uE⟩
noncomputable def PA : List Code := be (aH Try.f40)
def mE (x_2 : Int) : cm := .data (i64 x_2)
def ON (x_2 : Int) : St := ⟨[sv 2 (i64 x_2)],[],0⟩
def OA (x_1 : Int) : St := ⟨[sv 0 (.c (.lit (.int .u64 x_1)))],[],0⟩
noncomputable def iD (x_1 : Int) : Option (Int) := (jt x_1).bind fun r_1 => ((some (ak (64 - r_1))))
theorem Ka {x_1 : Int} {K : KT} (h : W (iD x_1) (rE ON K)) : au Try.prog 6 (List.drop 0 PA) K (OA x_1) :=
  au.qE aX [Q1] [2] 0 3 (.nx (fun K => ((jt x_1).isSome = true) ∧ (wK K .ret (ON (ak (64 - ((jt x_1).getD 0)))))) (az 0 h fun _ h => (l0 h)))
noncomputable def eE (x_1 : Int) : Option (Int) := iD x_1
noncomputable def ja : ct := gj (aI .u64) eE (0 : Int) mE
theorem nU : br Try.prog 40 ja := dW Try.f40 (aH Try.f40) [.tmp 2] 6 fun u0 y h => @Ka u0 _ (bF.2 ⟨y,h,(dG (i64 y) (VLe.rfl' _))⟩)
noncomputable abbrev QW : FE Try.prog := ⟨40, .pure ja,nU⟩
noncomputable def gN : List Code := be (aH Try.f25)
noncomputable def Id : List Code := be (aE (aE (bS gN 17)))
noncomputable def HX : List Code := be (aE (aE (bS gN 21)))
def ua (x_1 : (Int × Int)) : cm := .data (.tup [(.c (.lit (.int .u64 x_1.1))),(.c (.lit (.int .u64 x_1.2)))])
def uD (x_1 : (Int × Int)) : St := ⟨[sv 6 (.c (.lit (.int .u64 x_1.1))),sv 7 (.c (.lit (.int .u64 x_1.2)))],[],0⟩
def xp (y_1 s_1 yn1 yn0 un32 un1 un0 q1 rhat : Int) (s : (Int × Int)) : St := match s with | (q1_2,rhat_1) => ⟨[sv 2 (.c (.lit (.int .u64 y_1))),sv 8 (.c (.lit (.int .u64 s_1))),sv 9 (.c (.lit (.int .u64 yn1))),sv 10 (.c (.lit (.int .u64 yn0))),sv 11 (.c (.lit (.int .u64 un32))),sv 13 (.c (.lit (.int .u64 un1))),sv 14 (.c (.lit (.int .u64 un0))),sv 15 (.c (.lit (.int .u64 q1_2))),sv 16 (.c (.lit (.int .u64 rhat_1)))],[],0⟩
def JG (y_1 s_1 yn1 yn0 un32 un1 un0 q1 rhat : Int) (s : Int) : St := match s with | q1_1 => ⟨[sv 2 (.c (.lit (.int .u64 y_1))),sv 8 (.c (.lit (.int .u64 s_1))),sv 9 (.c (.lit (.int .u64 yn1))),sv 10 (.c (.lit (.int .u64 yn0))),sv 11 (.c (.lit (.int .u64 un32))),sv 13 (.c (.lit (.int .u64 un1))),sv 14 (.c (.lit (.int .u64 un0))),sv 15 (.c (.lit (.int .u64 q1_1)))],[],0⟩
def sn (y_1 s_1 yn1 yn0 un32 un1 un0 q1 rhat : Int) (r : ((Int))) (K : KT) : Prop := match r with | s => K (.exit 0) (JG y_1 s_1 yn1 yn0 un32 un1 un0 q1 rhat s)
def MV (y_1 s_1 yn1 yn0 un32 un1 un0 q1_2 rhat_1 : Int) : St := ⟨[sv 2 (.c (.lit (.int .u64 y_1))),sv 8 (.c (.lit (.int .u64 s_1))),sv 9 (.c (.lit (.int .u64 yn1))),sv 10 (.c (.lit (.int .u64 yn0))),sv 11 (.c (.lit (.int .u64 un32))),sv 13 (.c (.lit (.int .u64 un1))),sv 14 (.c (.lit (.int .u64 un0))),sv 15 (.c (.lit (.int .u64 q1_2))),sv 16 (.c (.lit (.int .u64 rhat_1)))],[],0⟩
noncomputable def nL (y_1 s_1 yn1 yn0 un32 un1 un0 q1_2 rhat_1 : Int) : Option ((Int × Int) ⊕ ((Int))) := (bif (bif (decide (4294967296 ≤ q1_2)) then true else (decide ((IntKind.u64.wrap ((IntKind.u64.wrap (4294967296 * rhat_1)) + un1)) < (IntKind.u64.wrap (q1_2 * yn0))))) then (bif (decide (4294967296 ≤ (IntKind.u64.wrap (rhat_1 + yn1)))) then (some (Sum.inr (IntKind.u64.wrap (q1_2 - 1)))) else (some (Sum.inl ((IntKind.u64.wrap (q1_2 - 1)),(IntKind.u64.wrap (rhat_1 + yn1)))))) else (some (Sum.inr q1_2)))
theorem Lk {y_1 s_1 yn1 yn0 un32 un1 un0 q1_2 rhat_1 q1 rhat : Int} {K : KT} (h : W (nL y_1 s_1 yn1 yn0 un32 un1 un0 q1_2 rhat_1) (nE (xp y_1 s_1 yn1 yn0 un32 un1 un0 q1 rhat) (sn y_1 s_1 yn1 yn0 un32 un1 un0 q1 rhat) K)) : au Try.prog 135 (List.drop 0 Id) K (MV y_1 s_1 yn1 yn0 un32 un1 un0 q1_2 rhat_1) :=
  au.qE aX [] [2,8,9,10,11,13,14,15,16,70,71,72,73,74,75,76,77,105,106,107,108,109,110,111,112] 0 3 (.nx (fun K => let a1_ := IntKind.u64.wrap (rhat_1 + yn1); let a2_ := IntKind.u64.wrap (q1_2 - 1); (bif (bif (decide (4294967296 ≤ q1_2)) then true else (decide ((IntKind.u64.wrap ((IntKind.u64.wrap (4294967296 * rhat_1)) + un1)) < (IntKind.u64.wrap (q1_2 * yn0))))) then (bif (decide (4294967296 ≤ a1_)) then wK K (.exit 0) (⟨[sv 2 (.c (.lit (.int .u64 y_1))),sv 8 (.c (.lit (.int .u64 s_1))),sv 9 (.c (.lit (.int .u64 yn1))),sv 10 (.c (.lit (.int .u64 yn0))),sv 11 (.c (.lit (.int .u64 un32))),sv 13 (.c (.lit (.int .u64 un1))),sv 14 (.c (.lit (.int .u64 un0))),sv 15 (.c (.lit (.int .u64 a2_))),sv 16 (.c (.lit (.int .u64 a1_))),un 70,un 71,un 72,un 73,un 74,un 75,un 76,un 77],[],0⟩) else wK K .normal (⟨[sv 2 (.c (.lit (.int .u64 y_1))),sv 8 (.c (.lit (.int .u64 s_1))),sv 9 (.c (.lit (.int .u64 yn1))),sv 10 (.c (.lit (.int .u64 yn0))),sv 11 (.c (.lit (.int .u64 un32))),sv 13 (.c (.lit (.int .u64 un1))),sv 14 (.c (.lit (.int .u64 un0))),sv 15 (.c (.lit (.int .u64 a2_))),sv 16 (.c (.lit (.int .u64 a1_))),un 70,un 71,un 72,un 73,un 74,un 75,un 76,un 77],[],0⟩)) else wK K (.exit 0) (⟨[sv 2 (.c (.lit (.int .u64 y_1))),sv 8 (.c (.lit (.int .u64 s_1))),sv 9 (.c (.lit (.int .u64 yn1))),sv 10 (.c (.lit (.int .u64 yn0))),sv 11 (.c (.lit (.int .u64 un32))),sv 13 (.c (.lit (.int .u64 un1))),sv 14 (.c (.lit (.int .u64 un0))),sv 15 (.c (.lit (.int .u64 q1_2))),sv 16 (.c (.lit (.int .u64 rhat_1))),un 70,un 71,un 72,un 73,un 74,un 75,un 76,un 77],[],0⟩))) (an h (fun _ h => (an h (fun _ h => (lf h (.cn [2,8,9,10,11,13,14,15]))) (fun _ h => (lf h (.cn [2,8,9,10,11,13,14,15,16]))))) (fun _ h => (lf h (.cn [2,8,9,10,11,13,14,15])))))
noncomputable def jS (y_1 s_1 yn1 yn0 un32 un1 un0 q1 rhat : Int) (s : (Int × Int)) : Option ((Int × Int) ⊕ ((Int))) := match s with | (q1_2,rhat_1) => nL y_1 s_1 yn1 yn0 un32 un1 un0 q1_2 rhat_1
theorem J0 (y_1 s_1 yn1 yn0 un32 un1 un0 q1 rhat : Int) (s : (Int × Int)) : Pp Try.prog 135 (List.drop 0 Id) (xp y_1 s_1 yn1 yn0 un32 un1 un0 q1 rhat s) (jS y_1 s_1 yn1 yn0 un32 un1 un0 q1 rhat s) (dK (xp y_1 s_1 yn1 yn0 un32 un1 un0 q1 rhat) (sn y_1 s_1 yn1 yn0 un32 un1 un0 q1 rhat)) := fun K h => match s,h with | (q1_2,rhat_1),h => (Lk h)
theorem DU (y_1 s_1 yn1 yn0 un32 un1 un0 q1 rhat : Int) : ∀ (r : ((Int))) (J : St → Prop) (K : KT),sn y_1 s_1 yn1 yn0 un32 un1 un0 q1 rhat r K → sn y_1 s_1 yn1 yn0 un32 un1 un0 q1 rhat r (bB J K)
  | s,_,_,h => h
def yL (y_1 s_1 yn1 yn0 un0 q1_1 rhat_2 un21 q0 : Int) (s : (Int × Int)) : St := match s with | (rhat_3,q0_2) => ⟨[sv 2 (.c (.lit (.int .u64 y_1))),sv 8 (.c (.lit (.int .u64 s_1))),sv 9 (.c (.lit (.int .u64 yn1))),sv 10 (.c (.lit (.int .u64 yn0))),sv 14 (.c (.lit (.int .u64 un0))),sv 15 (.c (.lit (.int .u64 q1_1))),sv 16 (.c (.lit (.int .u64 rhat_3))),sv 17 (.c (.lit (.int .u64 un21))),sv 18 (.c (.lit (.int .u64 q0_2)))],[],0⟩
def Lh (y_1 s_1 yn1 yn0 un0 q1_1 rhat_2 un21 q0 : Int) (s : Int) : St := match s with | q0_1 => ⟨[sv 2 (.c (.lit (.int .u64 y_1))),sv 8 (.c (.lit (.int .u64 s_1))),sv 14 (.c (.lit (.int .u64 un0))),sv 15 (.c (.lit (.int .u64 q1_1))),sv 17 (.c (.lit (.int .u64 un21))),sv 18 (.c (.lit (.int .u64 q0_1)))],[],0⟩
def rF (y_1 s_1 yn1 yn0 un0 q1_1 rhat_2 un21 q0 : Int) (r : ((Int))) (K : KT) : Prop := match r with | s => K (.exit 2) (Lh y_1 s_1 yn1 yn0 un0 q1_1 rhat_2 un21 q0 s)
def MC (y_1 s_1 yn1 yn0 un0 q1_1 rhat_3 un21 q0_2 : Int) : St := ⟨[sv 2 (.c (.lit (.int .u64 y_1))),sv 8 (.c (.lit (.int .u64 s_1))),sv 9 (.c (.lit (.int .u64 yn1))),sv 10 (.c (.lit (.int .u64 yn0))),sv 14 (.c (.lit (.int .u64 un0))),sv 15 (.c (.lit (.int .u64 q1_1))),sv 16 (.c (.lit (.int .u64 rhat_3))),sv 17 (.c (.lit (.int .u64 un21))),sv 18 (.c (.lit (.int .u64 q0_2)))],[],0⟩
noncomputable def nK (y_1 s_1 yn1 yn0 un0 q1_1 rhat_3 un21 q0_2 : Int) : Option ((Int × Int) ⊕ ((Int))) := (bif (bif (decide (4294967296 ≤ q0_2)) then true else (decide ((IntKind.u64.wrap ((IntKind.u64.wrap (4294967296 * rhat_3)) + un0)) < (IntKind.u64.wrap (q0_2 * yn0))))) then (bif (decide (4294967296 ≤ (IntKind.u64.wrap (rhat_3 + yn1)))) then (some (Sum.inr (IntKind.u64.wrap (q0_2 - 1)))) else (some (Sum.inl ((IntKind.u64.wrap (rhat_3 + yn1)),(IntKind.u64.wrap (q0_2 - 1)))))) else (some (Sum.inr q0_2)))
theorem Lv {y_1 s_1 yn1 yn0 un0 q1_1 rhat_3 un21 q0_2 rhat_2 q0 : Int} {K : KT} (h : W (nK y_1 s_1 yn1 yn0 un0 q1_1 rhat_3 un21 q0_2) (nE (yL y_1 s_1 yn1 yn0 un0 q1_1 rhat_2 un21 q0) (rF y_1 s_1 yn1 yn0 un0 q1_1 rhat_2 un21 q0) K)) : au Try.prog 135 (List.drop 0 HX) K (MC y_1 s_1 yn1 yn0 un0 q1_1 rhat_3 un21 q0_2) :=
  au.qE aX [] [2,8,9,10,14,15,16,17,18,105,106,107,108,109,110,111,112] 0 3 (.nx (fun K => let a1_ := IntKind.u64.wrap (rhat_3 + yn1); let a2_ := IntKind.u64.wrap (q0_2 - 1); (bif (bif (decide (4294967296 ≤ q0_2)) then true else (decide ((IntKind.u64.wrap ((IntKind.u64.wrap (4294967296 * rhat_3)) + un0)) < (IntKind.u64.wrap (q0_2 * yn0))))) then (bif (decide (4294967296 ≤ a1_)) then wK K (.exit 2) (⟨[sv 2 (.c (.lit (.int .u64 y_1))),sv 8 (.c (.lit (.int .u64 s_1))),sv 9 (.c (.lit (.int .u64 yn1))),sv 10 (.c (.lit (.int .u64 yn0))),sv 14 (.c (.lit (.int .u64 un0))),sv 15 (.c (.lit (.int .u64 q1_1))),sv 16 (.c (.lit (.int .u64 a1_))),sv 17 (.c (.lit (.int .u64 un21))),sv 18 (.c (.lit (.int .u64 a2_))),un 105,un 106,un 107,un 108,un 109,un 110,un 111,un 112],[],0⟩) else wK K .normal (⟨[sv 2 (.c (.lit (.int .u64 y_1))),sv 8 (.c (.lit (.int .u64 s_1))),sv 9 (.c (.lit (.int .u64 yn1))),sv 10 (.c (.lit (.int .u64 yn0))),sv 14 (.c (.lit (.int .u64 un0))),sv 15 (.c (.lit (.int .u64 q1_1))),sv 16 (.c (.lit (.int .u64 a1_))),sv 17 (.c (.lit (.int .u64 un21))),sv 18 (.c (.lit (.int .u64 a2_))),un 105,un 106,un 107,un 108,un 109,un 110,un 111,un 112],[],0⟩)) else wK K (.exit 2) (⟨[sv 2 (.c (.lit (.int .u64 y_1))),sv 8 (.c (.lit (.int .u64 s_1))),sv 9 (.c (.lit (.int .u64 yn1))),sv 10 (.c (.lit (.int .u64 yn0))),sv 14 (.c (.lit (.int .u64 un0))),sv 15 (.c (.lit (.int .u64 q1_1))),sv 16 (.c (.lit (.int .u64 rhat_3))),sv 17 (.c (.lit (.int .u64 un21))),sv 18 (.c (.lit (.int .u64 q0_2))),un 105,un 106,un 107,un 108,un 109,un 110,un 111,un 112],[],0⟩))) (an h (fun _ h => (an h (fun _ h => (lf h (.cn [2,8,14,15,17,18]))) (fun _ h => (lf h (.cn [2,8,9,10,14,15,16,17,18]))))) (fun _ h => (lf h (.cn [2,8,14,15,17,18])))))
noncomputable def jR (y_1 s_1 yn1 yn0 un0 q1_1 rhat_2 un21 q0 : Int) (s : (Int × Int)) : Option ((Int × Int) ⊕ ((Int))) := match s with | (rhat_3,q0_2) => nK y_1 s_1 yn1 yn0 un0 q1_1 rhat_3 un21 q0_2
theorem KW (y_1 s_1 yn1 yn0 un0 q1_1 rhat_2 un21 q0 : Int) (s : (Int × Int)) : Pp Try.prog 135 (List.drop 0 HX) (yL y_1 s_1 yn1 yn0 un0 q1_1 rhat_2 un21 q0 s) (jR y_1 s_1 yn1 yn0 un0 q1_1 rhat_2 un21 q0 s) (dK (yL y_1 s_1 yn1 yn0 un0 q1_1 rhat_2 un21 q0) (rF y_1 s_1 yn1 yn0 un0 q1_1 rhat_2 un21 q0)) := fun K h => match s,h with | (rhat_3,q0_2),h => (Lv h)
theorem DW (y_1 s_1 yn1 yn0 un0 q1_1 rhat_2 un21 q0 : Int) : ∀ (r : ((Int))) (J : St → Prop) (K : KT),rF y_1 s_1 yn1 yn0 un0 q1_1 rhat_2 un21 q0 r K → rF y_1 s_1 yn1 yn0 un0 q1_1 rhat_2 un21 q0 r (bB J K)
  | s,_,_,h => h
def E6 (y_1 s_1 un0 q1_1 un21 q0_1 : Int) : St := ⟨[sv 2 (.c (.lit (.int .u64 y_1))),sv 8 (.c (.lit (.int .u64 s_1))),sv 14 (.c (.lit (.int .u64 un0))),sv 15 (.c (.lit (.int .u64 q1_1))),sv 17 (.c (.lit (.int .u64 un21))),sv 18 (.c (.lit (.int .u64 q0_1)))],[],0⟩
noncomputable def nX (y_1 s_1 un0 q1_1 un21 q0_1 : Int) : Option ((Int × Int)) := gd (0 ≤ s_1) ((some ((IntKind.u64.wrap ((IntKind.u64.wrap (q1_1 * 4294967296)) + q0_1)),(Int.fdiv (IntKind.u64.wrap ((IntKind.u64.wrap ((IntKind.u64.wrap (un21 * 4294967296)) + un0)) - (IntKind.u64.wrap (q0_1 * y_1)))) (2 ^ min (Int.toNat s_1) 64)))))
theorem K0 {y_1 s_1 un0 q1_1 un21 q0_1 : Int} {K : KT} (h : W (nX y_1 s_1 un0 q1_1 un21 q0_1) (rE uD K)) : au Try.prog 135 (List.drop 22 gN) K (E6 y_1 s_1 un0 q1_1 un21 q0_1) :=
  au.qE aX [] [6,7] 22 2 (.nx (fun K => (0 ≤ s_1) ∧ (wK K .ret (uD ((IntKind.u64.wrap ((IntKind.u64.wrap (q1_1 * 4294967296)) + q0_1)),(Int.fdiv (IntKind.u64.wrap ((IntKind.u64.wrap ((IntKind.u64.wrap (un21 * 4294967296)) + un0)) - (IntKind.u64.wrap (q0_1 * y_1)))) (2 ^ min (Int.toNat s_1) 64)))))) (bX h fun _ h => (l0 h)))
def EX (y_1 s_1 yn1 yn0 un0 q1_1 rhat_2 un21 q0 : Int) : St := ⟨[sv 2 (.c (.lit (.int .u64 y_1))),sv 8 (.c (.lit (.int .u64 s_1))),sv 9 (.c (.lit (.int .u64 yn1))),sv 10 (.c (.lit (.int .u64 yn0))),sv 14 (.c (.lit (.int .u64 un0))),sv 15 (.c (.lit (.int .u64 q1_1))),sv 16 (.c (.lit (.int .u64 rhat_2))),sv 17 (.c (.lit (.int .u64 un21))),sv 18 (.c (.lit (.int .u64 q0)))],[],0⟩
noncomputable def lN (y_1 s_1 yn1 yn0 un0 q1_1 rhat_2 un21 q0 : Int) (r : ((Int))) : Option ((Int × Int)) := match r with | q0_1 => (nX y_1 s_1 un0 q1_1 un21 q0_1)
noncomputable def nG (y_1 s_1 yn1 yn0 un0 q1_1 rhat_2 un21 q0 : Int) : Option ((Int × Int)) := (fixL (jR y_1 s_1 yn1 yn0 un0 q1_1 rhat_2 un21 q0) (rhat_2,q0)).bind (lN y_1 s_1 yn1 yn0 un0 q1_1 rhat_2 un21 q0)
theorem Kd : List.drop 21 gN = .block 2 (.loop (aE (aE (bS gN 21)))) :: List.drop 22 gN := by kernel_rfl
theorem NC (y_1 s_1 yn1 yn0 un0 q1_1 rhat_2 un21 q0 : Int) (K : KT) : ∀ r : ((Int)),W (lN y_1 s_1 yn1 yn0 un0 q1_1 rhat_2 un21 q0 r) (rE uD K) → rF y_1 s_1 yn1 yn0 un0 q1_1 rhat_2 un21 q0 r (wK (cO 2 (bB (au Try.prog 135 (List.drop 22 gN) K) K)))
  | q0_1,h => ⟨(E6 y_1 s_1 un0 q1_1 un21 q0_1),(.refl _),(K0 h)⟩
theorem JW {y_1 s_1 yn1 yn0 un0 q1_1 rhat_2 un21 q0 : Int} {K : KT} (h : W (nG y_1 s_1 yn1 yn0 un0 q1_1 rhat_2 un21 q0) (rE uD K)) : au Try.prog 135 (List.drop 21 gN) K (EX y_1 s_1 yn1 yn0 un0 q1_1 rhat_2 un21 q0) :=
  au.at_ Kd (au.cons_loop (bg.weak (bg.ent (.refl _) (bg.loopF (x := aE (aE (bS gN 21))) (f := jR y_1 s_1 yn1 yn0 un0 q1_1 rhat_2 un21 q0) (emb := yL y_1 s_1 yn1 yn0 un0 q1_1 rhat_2 un21 q0) (E := rF y_1 s_1 yn1 yn0 un0 q1_1 rhat_2 un21 q0) (KW y_1 s_1 yn1 yn0 un0 q1_1 rhat_2 un21 q0) (DW y_1 s_1 yn1 yn0 un0 q1_1 rhat_2 un21 q0) (dq h (NC y_1 s_1 yn1 yn0 un0 q1_1 rhat_2 un21 q0 K))))))
def GQ (y_1 s_1 yn1 yn0 un32 un1 un0 q1_1 : Int) : St := ⟨[sv 2 (.c (.lit (.int .u64 y_1))),sv 8 (.c (.lit (.int .u64 s_1))),sv 9 (.c (.lit (.int .u64 yn1))),sv 10 (.c (.lit (.int .u64 yn0))),sv 11 (.c (.lit (.int .u64 un32))),sv 13 (.c (.lit (.int .u64 un1))),sv 14 (.c (.lit (.int .u64 un0))),sv 15 (.c (.lit (.int .u64 q1_1)))],[],0⟩
noncomputable def nY (y_1 s_1 yn1 yn0 un32 un1 un0 q1_1 : Int) : Option ((Int × Int)) := gd (yn1 ≠ 0) ((nG y_1 s_1 yn1 yn0 un0 q1_1 (IntKind.u64.wrap ((IntKind.u64.wrap ((IntKind.u64.wrap ((IntKind.u64.wrap (un32 * 4294967296)) + un1)) - (IntKind.u64.wrap (q1_1 * y_1)))) - (IntKind.u64.wrap ((IntKind.u64.wrap (Int.tdiv (IntKind.u64.wrap ((IntKind.u64.wrap ((IntKind.u64.wrap (un32 * 4294967296)) + un1)) - (IntKind.u64.wrap (q1_1 * y_1)))) yn1)) * yn1)))) (IntKind.u64.wrap ((IntKind.u64.wrap ((IntKind.u64.wrap (un32 * 4294967296)) + un1)) - (IntKind.u64.wrap (q1_1 * y_1)))) (IntKind.u64.wrap (Int.tdiv (IntKind.u64.wrap ((IntKind.u64.wrap ((IntKind.u64.wrap (un32 * 4294967296)) + un1)) - (IntKind.u64.wrap (q1_1 * y_1)))) yn1))))
theorem Jl {y_1 s_1 yn1 yn0 un32 un1 un0 q1_1 : Int} {K : KT} (h : W (nY y_1 s_1 yn1 yn0 un32 un1 un0 q1_1) (rE uD K)) : au Try.prog 135 (List.drop 18 gN) K (GQ y_1 s_1 yn1 yn0 un32 un1 un0 q1_1) :=
  au.qD aX [] [2,8,9,10,14,15,16,17,18,105,106,107,108,109,110,111,112] 18 3 21 (.nx (fun K => let a1_ := IntKind.u64.wrap ((IntKind.u64.wrap ((IntKind.u64.wrap (un32 * 4294967296)) + un1)) - (IntKind.u64.wrap (q1_1 * y_1))); let a2_ := IntKind.u64.wrap (Int.tdiv a1_ yn1); (yn1 ≠ 0) ∧ (wK K .normal (EX y_1 s_1 yn1 yn0 un0 q1_1 (IntKind.u64.wrap (a1_ - (IntKind.u64.wrap (a2_ * yn1)))) a1_ a2_))) (bX h fun _ h => (l0 (JW h))))
def NL (y_1 s_1 yn1 yn0 un32 un1 un0 q1 rhat : Int) : St := ⟨[sv 2 (.c (.lit (.int .u64 y_1))),sv 8 (.c (.lit (.int .u64 s_1))),sv 9 (.c (.lit (.int .u64 yn1))),sv 10 (.c (.lit (.int .u64 yn0))),sv 11 (.c (.lit (.int .u64 un32))),sv 13 (.c (.lit (.int .u64 un1))),sv 14 (.c (.lit (.int .u64 un0))),sv 15 (.c (.lit (.int .u64 q1))),sv 16 (.c (.lit (.int .u64 rhat)))],[],0⟩
noncomputable def lL (y_1 s_1 yn1 yn0 un32 un1 un0 q1 rhat : Int) (r : ((Int))) : Option ((Int × Int)) := match r with | q1_1 => (nY y_1 s_1 yn1 yn0 un32 un1 un0 q1_1)
noncomputable def nQ (y_1 s_1 yn1 yn0 un32 un1 un0 q1 rhat : Int) : Option ((Int × Int)) := (fixL (jS y_1 s_1 yn1 yn0 un32 un1 un0 q1 rhat) (q1,rhat)).bind (lL y_1 s_1 yn1 yn0 un32 un1 un0 q1 rhat)
theorem Lp : List.drop 17 gN = .block 0 (.loop (aE (aE (bS gN 17)))) :: List.drop 18 gN := by kernel_rfl
theorem LV (y_1 s_1 yn1 yn0 un32 un1 un0 q1 rhat : Int) (K : KT) : ∀ r : ((Int)),W (lL y_1 s_1 yn1 yn0 un32 un1 un0 q1 rhat r) (rE uD K) → sn y_1 s_1 yn1 yn0 un32 un1 un0 q1 rhat r (wK (cO 0 (bB (au Try.prog 135 (List.drop 18 gN) K) K)))
  | q1_1,h => ⟨(GQ y_1 s_1 yn1 yn0 un32 un1 un0 q1_1),(.refl _),(Jl h)⟩
theorem KZ {y_1 s_1 yn1 yn0 un32 un1 un0 q1 rhat : Int} {K : KT} (h : W (nQ y_1 s_1 yn1 yn0 un32 un1 un0 q1 rhat) (rE uD K)) : au Try.prog 135 (List.drop 17 gN) K (NL y_1 s_1 yn1 yn0 un32 un1 un0 q1 rhat) :=
  au.at_ Lp (au.cons_loop (bg.weak (bg.ent (.refl _) (bg.loopF (x := aE (aE (bS gN 17))) (f := jS y_1 s_1 yn1 yn0 un32 un1 un0 q1 rhat) (emb := xp y_1 s_1 yn1 yn0 un32 un1 un0 q1 rhat) (E := sn y_1 s_1 yn1 yn0 un32 un1 un0 q1 rhat) (J0 y_1 s_1 yn1 yn0 un32 un1 un0 q1 rhat) (DU y_1 s_1 yn1 yn0 un32 un1 un0 q1 rhat) (dq h (LV y_1 s_1 yn1 yn0 un32 un1 un0 q1 rhat K))))))
def M9 (hi lo y : Int) : St := ⟨[sv 0 (.c (.lit (.int .u64 hi))),sv 1 (.c (.lit (.int .u64 lo))),sv 2 (.c (.lit (.int .u64 y)))],[],0⟩
noncomputable def gO (hi lo y : Int) : Option ((Int × Int)) := (bif (y == 0) then none else (bif (decide (y ≤ hi)) then none else (bif (hi == 0) then gd (y ≠ 0) (gd (y ≠ 0) ((some ((IntKind.u64.wrap (Int.tdiv lo y)),(Int.tmod lo y))))) else (eE y).bind fun r_1 => (gd (0 ≤ (IntKind.u64.wrap r_1)) (gd (0 ≤ (IntKind.u64.wrap r_1)) (gd (0 ≤ (IntKind.u64.wrap (64 - (IntKind.u64.wrap r_1)))) (gd (0 ≤ (IntKind.u64.wrap r_1)) (gd ((Int.fdiv (IntKind.u64.wrap (y * 2 ^ min (Int.toNat (IntKind.u64.wrap r_1)) 64)) (2 ^ min (Int.toNat (32 : Int)) 64)) ≠ 0) ((nQ (IntKind.u64.wrap (y * 2 ^ min (Int.toNat (IntKind.u64.wrap r_1)) 64)) (IntKind.u64.wrap r_1) (Int.fdiv (IntKind.u64.wrap (y * 2 ^ min (Int.toNat (IntKind.u64.wrap r_1)) 64)) (2 ^ min (Int.toNat (32 : Int)) 64)) (IntKind.u64.wrap (BitVec.ofInt 64 (IntKind.u64.wrap (y * 2 ^ min (Int.toNat (IntKind.u64.wrap r_1)) 64)) &&& BitVec.ofInt 64 (4294967295 : Int)).toNat) (IntKind.u64.wrap (BitVec.ofInt 64 (IntKind.u64.wrap (hi * 2 ^ min (Int.toNat (IntKind.u64.wrap r_1)) 64)) ||| BitVec.ofInt 64 (Int.fdiv lo (2 ^ min (Int.toNat (IntKind.u64.wrap (64 - (IntKind.u64.wrap r_1)))) 64))).toNat) (Int.fdiv (IntKind.u64.wrap (lo * 2 ^ min (Int.toNat (IntKind.u64.wrap r_1)) 64)) (2 ^ min (Int.toNat (32 : Int)) 64)) (IntKind.u64.wrap (BitVec.ofInt 64 (IntKind.u64.wrap (lo * 2 ^ min (Int.toNat (IntKind.u64.wrap r_1)) 64)) &&& BitVec.ofInt 64 (4294967295 : Int)).toNat) (IntKind.u64.wrap (Int.tdiv (IntKind.u64.wrap (BitVec.ofInt 64 (IntKind.u64.wrap (hi * 2 ^ min (Int.toNat (IntKind.u64.wrap r_1)) 64)) ||| BitVec.ofInt 64 (Int.fdiv lo (2 ^ min (Int.toNat (IntKind.u64.wrap (64 - (IntKind.u64.wrap r_1)))) 64))).toNat) (Int.fdiv (IntKind.u64.wrap (y * 2 ^ min (Int.toNat (IntKind.u64.wrap r_1)) 64)) (2 ^ min (Int.toNat (32 : Int)) 64)))) (IntKind.u64.wrap ((IntKind.u64.wrap (BitVec.ofInt 64 (IntKind.u64.wrap (hi * 2 ^ min (Int.toNat (IntKind.u64.wrap r_1)) 64)) ||| BitVec.ofInt 64 (Int.fdiv lo (2 ^ min (Int.toNat (IntKind.u64.wrap (64 - (IntKind.u64.wrap r_1)))) 64))).toNat) - (IntKind.u64.wrap ((IntKind.u64.wrap (Int.tdiv (IntKind.u64.wrap (BitVec.ofInt 64 (IntKind.u64.wrap (hi * 2 ^ min (Int.toNat (IntKind.u64.wrap r_1)) 64)) ||| BitVec.ofInt 64 (Int.fdiv lo (2 ^ min (Int.toNat (IntKind.u64.wrap (64 - (IntKind.u64.wrap r_1)))) 64))).toNat) (Int.fdiv (IntKind.u64.wrap (y * 2 ^ min (Int.toNat (IntKind.u64.wrap r_1)) 64)) (2 ^ min (Int.toNat (32 : Int)) 64)))) * (Int.fdiv (IntKind.u64.wrap (y * 2 ^ min (Int.toNat (IntKind.u64.wrap r_1)) 64)) (2 ^ min (Int.toNat (32 : Int)) 64))))))))))))))))
theorem I7 {hi lo y : Int} {K : KT} (h : W (gO hi lo y) (rE uD K)) : au Try.prog 135 (List.drop 0 gN) K (M9 hi lo y) :=
  au.qD aX [QW] [2,6,7,8,9,10,11,13,14,15,16,70,71,72,73,74,75,76,77,105,106,107,108,109,110,111,112] 0 17 17 (.nx (fun K => let a1_ := IntKind.u64.wrap ((eE y).getD 0); let a2_ := IntKind.u64.wrap (BitVec.ofInt 64 (IntKind.u64.wrap (hi * 2 ^ min (Int.toNat a1_) 64)) ||| BitVec.ofInt 64 (Int.fdiv lo (2 ^ min (Int.toNat (IntKind.u64.wrap (64 - a1_))) 64))).toNat; let a5_ := IntKind.u64.wrap (y * 2 ^ min (Int.toNat a1_) 64); let a3_ := Int.fdiv a5_ (2 ^ min (Int.toNat (32 : Int)) 64); let a4_ := IntKind.u64.wrap (lo * 2 ^ min (Int.toNat a1_) 64); let a6_ := IntKind.u64.wrap (Int.tdiv a2_ a3_); (bif (y == 0) then False else (bif (decide (y ≤ hi)) then False else (bif (hi == 0) then (y ≠ 0) ∧ (y ≠ 0) ∧ (wK K .ret (⟨[sv 2 (.c (.lit (.int .u64 y))),sv 6 (.c (.lit (.int .u64 (IntKind.u64.wrap (Int.tdiv lo y))))),sv 7 (.c (.lit (.int .u64 (Int.tmod lo y))))],[],0⟩)) else ((eE y).isSome = true) ∧ ((0 ≤ a1_) ∧ ((0 ≤ (32 : Int)) ∧ ((0 ≤ a1_) ∧ (0 ≤ (IntKind.u64.wrap (64 - a1_))) ∧ ((0 ≤ a1_) ∧ ((0 ≤ (32 : Int)) ∧ ((a3_ ≠ 0) ∧ (wK K .normal (⟨[sv 2 (.c (.lit (.int .u64 a5_))),sv 6 (.c (.lit (.int .u64 0))),sv 7 (.c (.lit (.int .u64 0))),sv 8 (.c (.lit (.int .u64 a1_))),sv 9 (.c (.lit (.int .u64 a3_))),sv 10 (.c (.lit (.int .u64 (IntKind.u64.wrap (BitVec.ofInt 64 a5_ &&& BitVec.ofInt 64 (4294967295 : Int)).toNat)))),sv 11 (.c (.lit (.int .u64 a2_))),sv 13 (.c (.lit (.int .u64 (Int.fdiv a4_ (2 ^ min (Int.toNat (32 : Int)) 64))))),sv 14 (.c (.lit (.int .u64 (IntKind.u64.wrap (BitVec.ofInt 64 a4_ &&& BitVec.ofInt 64 (4294967295 : Int)).toNat)))),sv 15 (.c (.lit (.int .u64 a6_))),sv 16 (.c (.lit (.int .u64 (IntKind.u64.wrap (a2_ - (IntKind.u64.wrap (a6_ * a3_)))))))],[],0⟩)))))))))))) (an h (fun _ h => h) (fun _ h => (an h (fun _ h => h) (fun _ h => (an h (fun _ h => (bX h fun _ h => (bX h fun _ h => (lf h (.cn [6,7]))))) (fun _ h => (az 0 h fun _ h => (bX h fun _ h => ⟨(by decide),(bX h fun _ h => (bX h fun _ h => (bX h fun _ h => ⟨(by decide),(bX h fun _ h => (lf (KZ h) (.cn [2,8,9,10,11,13,14,15,16])))⟩)))⟩)))))))))
noncomputable def eF (hi lo y : Int) : Option ((Int × Int)) := gO hi lo y
noncomputable def oH : ct := Cp (aI .u64) (aI .u64) (aI .u64) eF ((0 : Int),(0 : Int)) ua
theorem vn : br Try.prog 25 oH := Cf Try.f25 (aH Try.f25) [.tmp 6, .tmp 7] 135 fun u0 u1 u2 y h => @I7 u0 u1 u2 _ (bF.2 ⟨y,h,(dG (.tup [(.c (.lit (.int .u64 y.1))),(.c (.lit (.int .u64 y.2)))]) (VLe.tup (VLes.cons (VLe.rfl' _) (VLes.cons (VLe.rfl' _) (VLes.nil)))))⟩)
noncomputable abbrev NH : FE Try.prog := ⟨25, .pure oH,vn⟩
noncomputable def Pl : List Code := be (aH Try.f30)
def uK (x_1 : (aN × Int)) : cm := .data (.tup [(.agg [(.c (.lit (.int .u64 x_1.1.hi))),(.c (.lit (.int .u64 x_1.1.lo)))]),(.c (.lit (.int .u64 x_1.2)))])
def NW (x_1 : (aN × Int)) : St := ⟨[sv 4 (.ptr 0 2 0 0),sv 5 (.c (.lit (.int .u64 x_1.2)))],[(0,some (.box [(.c (.lit (.int .u64 x_1.1.hi))),(.c (.lit (.int .u64 x_1.1.lo)))]))],1⟩
def NQ (w : aN) (d_1 : Int) : St := ⟨[sv 0 (.ag (dB w)),sv 1 (.c (.lit (.int .u64 d_1)))],[],0⟩
noncomputable def ib (w : aN) (d_1 : Int) : Option ((aN × Int)) := gd (d_1 ≠ 0) ((eF (Int.tmod w.hi d_1) w.lo d_1).bind fun r_1 => (gd (d_1 ≠ 0) ((some ((aN.mk (IntKind.u64.wrap (Int.tdiv w.hi d_1)) r_1.1),r_1.2)))))
theorem KB {w : aN} {d_1 : Int} {K : KT} (h : W (ib w d_1) (rE NW K)) : au Try.prog 26 (List.drop 0 Pl) K (NQ w d_1) :=
  au.qE aX [NH] [4,5] 0 4 (.nx (fun K => let a1_ := eF (Int.tmod w.hi d_1) w.lo d_1; (d_1 ≠ 0) ∧ (a1_.isSome = true) ∧ ((d_1 ≠ 0) ∧ (wK K .ret (NW ((aN.mk (IntKind.u64.wrap (Int.tdiv w.hi d_1)) (a1_.getD (0,0)).1),(a1_.getD (0,0)).2))))) (bX h fun _ h => (az (0,0) h fun _ h => (bX h fun _ h => (l0 h)))))
noncomputable def cP (w : aN) (d_1 : Int) : Option ((aN × Int)) := ib w d_1
noncomputable def pR : ct := jr fB (aI .u64) cP (bG,(0 : Int)) uK
theorem v5 : br Try.prog 30 pR := fQ Try.f30 (aH Try.f30) [.cell 4 81, .tmp 5] 26 fun u0 u1 y h => @KB u0 u1 _ (bF.2 ⟨y,h,(dG (.tup [(.agg [(.c (.lit (.int .u64 y.1.hi))),(.c (.lit (.int .u64 y.1.lo)))]),(.c (.lit (.int .u64 y.2)))]) (VLe.tup (VLes.cons (VLe.rfl' _) (VLes.cons (VLe.rfl' _) (VLes.nil)))))⟩)
noncomputable abbrev P2 : FE Try.prog := ⟨30, .pure pR,v5⟩
noncomputable def po : List Code := be (aH Try.f31)
noncomputable def IH : List Code := be (aE (aE (bS po 1)))
def Cr (x_1 : Int) : cm := .data (.c (.lit (.int .u64 x_1)))
def BB (x_1 : Int) : St := ⟨[sv 4 (.c (.lit (.int .u64 x_1)))],[],0⟩
def uH (a b : Int) (s : (Int × Int)) : St := match s with | (a_1,b_1) => ⟨[sv 0 (.c (.lit (.int .u64 a_1))),sv 1 (.c (.lit (.int .u64 b_1)))],[],0⟩
def JT (a b : Int) (s : Int) : St := match s with | a_2 => ⟨[sv 0 (.c (.lit (.int .u64 a_2)))],[],0⟩
def rZ (a b : Int) (r : ((Int))) (K : KT) : Prop := match r with | s => K (.exit 0) (JT a b s)
def LY (a_1 b_1 : Int) : St := ⟨[sv 0 (.c (.lit (.int .u64 a_1))),sv 1 (.c (.lit (.int .u64 b_1)))],[],0⟩
noncomputable def wi (a_1 b_1 : Int) : Option ((Int × Int) ⊕ ((Int))) := (bif (b_1 != 0) then gd (b_1 ≠ 0) ((some (Sum.inl (b_1,(Int.tmod a_1 b_1))))) else (some (Sum.inr a_1)))
theorem K4 {a_1 b_1 a b : Int} {K : KT} (h : W (wi a_1 b_1) (nE (uH a b) (rZ a b) K)) : au Try.prog 12 (List.drop 0 IH) K (LY a_1 b_1) :=
  au.qE aX [] [0,1] 0 3 (.nx (fun K => (bif (b_1 != 0) then (b_1 ≠ 0) ∧ (wK K .normal (uH a b (b_1,(Int.tmod a_1 b_1)))) else wK K (.exit 0) (⟨[sv 0 (.c (.lit (.int .u64 a_1))),sv 1 (.c (.lit (.int .u64 b_1)))],[],0⟩))) (an h (fun _ h => (bX h fun _ h => (l0 h))) (fun _ h => (lf h (.cn [0])))))
noncomputable def kD (a b : Int) (s : (Int × Int)) : Option ((Int × Int) ⊕ ((Int))) := match s with | (a_1,b_1) => wi a_1 b_1
theorem K5 (a b : Int) (s : (Int × Int)) : Pp Try.prog 12 (List.drop 0 IH) (uH a b s) (kD a b s) (dK (uH a b) (rZ a b)) := fun K h => match s,h with | (a_1,b_1),h => (K4 h)
theorem EE (a b : Int) : ∀ (r : ((Int))) (J : St → Prop) (K : KT),rZ a b r K → rZ a b r (bB J K)
  | s,_,_,h => h
def Fa (a_3 : Int) : St := ⟨[sv 0 (.c (.lit (.int .u64 a_3)))],[],0⟩
noncomputable def wH (a_3 : Int) : Option (Int) := (some a_3)
theorem Ls {a_3 : Int} {K : KT} (h : W (wH a_3) (rE BB K)) : au Try.prog 12 (List.drop 2 po) K (Fa a_3) :=
  au.qE aX [] [4] 2 2 (.nx (fun K => wK K .ret (BB a_3)) (l0 h))
def FN (a b : Int) : St := ⟨[sv 0 (.c (.lit (.int .u64 a))),sv 1 (.c (.lit (.int .u64 b)))],[],0⟩
noncomputable def ow (a b : Int) (r : ((Int))) : Option (Int) := match r with | a_2 => (wH a_2)
noncomputable def wI (a b : Int) : Option (Int) := (fixL (kD a b) (a,b)).bind (ow a b)
theorem Lu : List.drop 1 po = .block 0 (.loop (aE (aE (bS po 1)))) :: List.drop 2 po := by kernel_rfl
theorem Oi (a b : Int) (K : KT) : ∀ r : ((Int)),W (ow a b r) (rE BB K) → rZ a b r (wK (cO 0 (bB (au Try.prog 12 (List.drop 2 po) K) K)))
  | a_2,h => ⟨(Fa a_2),(.refl _),(Ls h)⟩
theorem Lj {a b : Int} {K : KT} (h : W (wI a b) (rE BB K)) : au Try.prog 12 (List.drop 1 po) K (FN a b) :=
  au.at_ Lu (au.cons_loop (bg.weak (bg.ent (.refl _) (bg.loopF (x := aE (aE (bS po 1))) (f := kD a b) (emb := uH a b) (E := rZ a b) (K5 a b) (EE a b) (dq h (Oi a b K))))))
def M2 (a b : Int) : St := ⟨[sv 0 (.c (.lit (.int .u64 a))),sv 1 (.c (.lit (.int .u64 b)))],[],0⟩
noncomputable def wF (a b : Int) : Option (Int) := (wI a b)
theorem Jf {a b : Int} {K : KT} (h : W (wF a b) (rE BB K)) : au Try.prog 12 (List.drop 0 po) K (M2 a b) :=
  au.qD aX [] [0,1] 0 1 1 (.nx (fun K => wK K .normal (FN a b)) (l0 (Lj h)))
noncomputable def iX (a b : Int) : Option (Int) := wF a b
noncomputable def yF : ct := jr (aI .u64) (aI .u64) iX (0 : Int) Cr
theorem C0 : br Try.prog 31 yF := fQ Try.f31 (aH Try.f31) [.tmp 4] 12 fun u0 u1 y h => @Jf u0 u1 _ (bF.2 ⟨y,h,(dG (.c (.lit (.int .u64 y))) (VLe.rfl' _))⟩)
noncomputable abbrev Qh : FE Try.prog := ⟨31, .pure yF,C0⟩
noncomputable def PI : List Code := be (aH Try.f17)
def yi (x_1 : (aq × Int)) : cm := .data (.tup [(.agg [(i64 x_1.1.Num),(i64 x_1.1.Den)]),(i64 x_1.2)])
def Eb (x_1 : (aq × Int)) : St := ⟨[sv 6 (.ptr 0 2 0 0),sv 7 (i64 x_1.2)],[(0,some (.box [(i64 x_1.1.Num),(i64 x_1.1.Den)]))],1⟩
def LH (negative : Bool) (n : aN) (d_1 : Int) : St := ⟨[sv 0 (bl negative),sv 1 (.ag (dB n)),sv 2 (.c (.lit (.int .u64 d_1)))],[],0⟩
noncomputable def kd (negative : Bool) (n : aN) (d_1 : Int) : Option ((aq × Int)) := (cP n d_1).bind fun r_1 => ((iX d_1 r_1.2).bind fun r_2 => ((cP n r_2).bind fun r_3 => (gd (r_2 ≠ 0) ((bif (bif (bif (r_3.1.hi != 0) then true else (decide (1000000000000000 < r_3.1.lo))) then true else (decide (1000000000 < (IntKind.u64.wrap (Int.tdiv d_1 r_2))))) then (some ((aq.mk 0 0),2)) else (bif negative then (some ((aq.mk (ak (0 - (ak r_3.1.lo))) (ak (IntKind.u64.wrap (Int.tdiv d_1 r_2)))),0)) else (some ((aq.mk (ak r_3.1.lo) (ak (IntKind.u64.wrap (Int.tdiv d_1 r_2)))),0))))))))
theorem Kj {negative : Bool} {n : aN} {d_1 : Int} {K : KT} (h : W (kd negative n d_1) (rE Eb K)) : au Try.prog 55 (List.drop 0 PI) K (LH negative n d_1) :=
  au.qE aX [P2,Qh] [6,7] 0 12 (.nx (fun K => let a1_ := (iX d_1 (((cP n d_1).getD (bG,0)).2)).getD 0; let a2_ := ((cP n a1_).getD (bG,0)).1; let a3_ := IntKind.u64.wrap (Int.tdiv d_1 a1_); ((cP n d_1).isSome = true) ∧ (((iX d_1 (((cP n d_1).getD (bG,0)).2)).isSome = true) ∧ (((cP n a1_).isSome = true) ∧ ((a1_ ≠ 0) ∧ ((bif (bif (bif (a2_.hi != 0) then true else (decide (1000000000000000 < a2_.lo))) then true else (decide (1000000000 < a3_))) then wK K .ret (Eb ((aq.mk 0 0),2)) else (bif negative then wK K .ret (Eb ((aq.mk (ak (0 - (ak a2_.lo))) (ak a3_)),0)) else wK K .ret (Eb ((aq.mk (ak a2_.lo) (ak a3_)),0))))))))) (az (bG,0) h fun _ h => (az 0 h fun _ h => (az (bG,0) h fun _ h => (bX h fun _ h => (an h (fun _ h => (l0 h)) (fun _ h => (an h (fun _ h => (l0 h)) (fun _ h => (l0 h))))))))))
noncomputable def nC (negative : Bool) (n : aN) (d_1 : Int) : Option ((aq × Int)) := kd negative n d_1
noncomputable def tM : ct := Cp aB fB (aI .u64) nC (bz,(0 : Int)) yi
theorem zq : br Try.prog 17 tM := Cf Try.f17 (aH Try.f17) [.cell 6 49, .tmp 7] 55 fun u0 u1 u2 y h => @Kj u0 u1 u2 _ (bF.2 ⟨y,h,(dG (.tup [(.agg [(i64 y.1.Num),(i64 y.1.Den)]),(i64 y.2)]) (VLe.tup (VLes.cons (VLe.rfl' _) (VLes.cons (VLe.rfl' _) (VLes.nil)))))⟩)
noncomputable abbrev Q4 : FE Try.prog := ⟨17, .pure tM,zq⟩
noncomputable def Pj : List Code := be (aH Try.f10)
def rN (x_1 : (aq × Int)) : cm := .data (.tup [(.agg [(i64 x_1.1.Num),(i64 x_1.1.Den)]),(i64 x_1.2)])
def Hg (x_1 : (aq × Int)) : St := ⟨[sv 4 (.ptr 0 2 0 0),sv 5 (i64 x_1.2)],[(0,some (.box [(i64 x_1.1.Num),(i64 x_1.1.Den)]))],1⟩
def MO (num den : Int) : St := ⟨[sv 0 (i64 num),sv 1 (i64 den)],[],0⟩
noncomputable def fW (num den : Int) : Option ((aq × Int)) := (bif (den == 0) then (some ((aq.mk 0 0),3)) else (dl num).bind fun r_1 => ((dl den).bind fun r_2 => ((nC (!((decide (num < 0)) == (decide (den < 0)))) (aN.mk 0 r_1) r_2).bind fun r_3 => ((some (r_3.1,r_3.2))))))
theorem K8 {num den : Int} {K : KT} (h : W (fW num den) (rE Hg K)) : au Try.prog 22 (List.drop 0 Pj) K (MO num den) :=
  au.qE aX [Q4,bw] [4,5] 0 5 (.nx (fun K => let a1_ := nC (!((decide (num < 0)) == (decide (den < 0)))) (aN.mk 0 ((dl num).getD 0)) ((dl den).getD 0); (bif (den == 0) then wK K .ret (Hg ((aq.mk 0 0),3)) else ((dl num).isSome = true) ∧ ((dl den).isSome = true) ∧ (a1_.isSome = true) ∧ (wK K .ret (Hg ((a1_.getD (bz,0)).1,(a1_.getD (bz,0)).2))))) (an h (fun _ h => (l0 h)) (fun _ h => (az 0 h fun _ h => (az 0 h fun _ h => (az (bz,0) h fun _ h => (l0 h)))))))
noncomputable def cM (num den : Int) : Option ((aq × Int)) := fW num den
noncomputable def mx : ct := jr (aI .i64) (aI .i64) cM (bz,(0 : Int)) rN
theorem tg : br Try.prog 10 mx := fQ Try.f10 (aH Try.f10) [.cell 4 49, .tmp 5] 22 fun u0 u1 y h => @K8 u0 u1 _ (bF.2 ⟨y,h,(dG (.tup [(.agg [(i64 y.1.Num),(i64 y.1.Den)]),(i64 y.2)]) (VLe.tup (VLes.cons (VLe.rfl' _) (VLes.cons (VLe.rfl' _) (VLes.nil)))))⟩)
noncomputable abbrev LF : FE Try.prog := ⟨10, .pure mx,tg⟩
noncomputable def Iw : List Code := be (aH Try.f11)
def xk (x_1 : ByteArray) : cm := .data (aW x_1)
def NN (x_1 : ByteArray) : St := ⟨[sv 2 (aW x_1)],[],0⟩
def GX (i_1 : Int) : St := ⟨[sv 0 (i64 i_1)],[],0⟩
noncomputable def l8 (i_1 : Int) : Option (ByteArray) := (some (pu ([(IntKind.u8.wrap (ak (112 + (Int.tmod i_1 8)))),95,(IntKind.u8.wrap (ak (48 + (ak (Int.tdiv i_1 8)))))] : List Int)))
theorem KN (i_1 : Int) (K : KT) {L1_ : List Int} (hL1_ : lst tE 3 (fun i => (fun i => (List.take 1 (List.drop (i * 1) [(.lit (.int .u8 (IntKind.u8.wrap (ak (112 + (Int.tmod i_1 8)))))),(.lit (.int .u8 95)),(.lit (.int .u8 (IntKind.u8.wrap (ak (48 + (ak (Int.tdiv i_1 8)))))))]))) (0 + i)) = L1_) :
    ev Try.prog (dx (P := Try.prog) []) 13 (ofItems ((List.drop 0 Iw).take 3)) (cN [2] K) (GX i_1) =
    (let a1_ := IntKind.u8.wrap (ak (48 + (ak (Int.tdiv i_1 8)))); let a2_ := IntKind.u8.wrap (ak (112 + (Int.tmod i_1 8))); ((8 : Int) ≠ 0) ∧ ((8 : Int) ≠ 0) ∧ ((0 < 3 → 1 = 1)) ∧ ((∀ i,i < 3 → (fun i => (fun i => (List.take 1 (List.drop (i * 1) [(.lit (.int .u8 a2_)),(.lit (.int .u8 95)),(.lit (.int .u8 a1_))]))) (0 + i)) i = H2 (tE ((fun i => (fun i => (List.take 1 (List.drop (i * 1) [(.lit (.int .u8 a2_)),(.lit (.int .u8 95)),(.lit (.int .u8 a1_))]))) (0 + i)) i)))) ∧ (wK K .ret (NN (pu L1_)))) := by subst hL1_; kernel_rfl
theorem I3 {i_1 : Int} {K : KT} (h : W (l8 i_1) (rE NN K)) : au Try.prog 13 (List.drop 0 Iw) K (GX i_1) :=
  au.qE aX [] [2] 0 3 (.of (KN i_1 _ (lr zz (aj.zero (aj.lits (el := (fun i => (List.take 1 (List.drop (i * 1) [(.lit (.int .u8 (IntKind.u8.wrap (ak (112 + (Int.tmod i_1 8)))))),(.lit (.int .u8 95)),(.lit (.int .u8 (IntKind.u8.wrap (ak (48 + (ak (Int.tdiv i_1 8)))))))])))) (z := (0 : Int)) (l := ([(IntKind.u8.wrap (ak (112 + (Int.tmod i_1 8)))),95,(IntKind.u8.wrap (ak (48 + (ak (Int.tdiv i_1 8)))))] : List Int)) ⟨.refl _, .refl _, .refl _,trivial⟩)))) (⟨(by decide),⟨(by decide),⟨(aj.ok (k := 1) zz (aj.zero (aj.lits (el := (fun i => (List.take 1 (List.drop (i * 1) [(.lit (.int .u8 (IntKind.u8.wrap (ak (112 + (Int.tmod i_1 8)))))),(.lit (.int .u8 95)),(.lit (.int .u8 (IntKind.u8.wrap (ak (48 + (ak (Int.tdiv i_1 8)))))))])))) (z := (0 : Int)) (l := ([(IntKind.u8.wrap (ak (112 + (Int.tmod i_1 8)))),95,(IntKind.u8.wrap (ak (48 + (ak (Int.tdiv i_1 8)))))] : List Int)) ⟨.refl _, .refl _, .refl _,trivial⟩))).1,⟨(aT.eq (aj.ok (k := 1) zz (aj.zero (aj.lits (el := (fun i => (List.take 1 (List.drop (i * 1) [(.lit (.int .u8 (IntKind.u8.wrap (ak (112 + (Int.tmod i_1 8)))))),(.lit (.int .u8 95)),(.lit (.int .u8 (IntKind.u8.wrap (ak (48 + (ak (Int.tdiv i_1 8)))))))])))) (z := (0 : Int)) (l := ([(IntKind.u8.wrap (ak (112 + (Int.tmod i_1 8)))),95,(IntKind.u8.wrap (ak (48 + (ak (Int.tdiv i_1 8)))))] : List Int)) ⟨.refl _, .refl _, .refl _,trivial⟩))) fun _ => rfl),(l0 h)⟩⟩⟩⟩))
noncomputable def eu (i_1 : Int) : Option (ByteArray) := l8 i_1
noncomputable def r9 : ct := gj (aI .i64) eu (ao []) xk
theorem xH : br Try.prog 11 r9 := dW Try.f11 (aH Try.f11) [.tmp 2] 13 fun u0 y h => @I3 u0 _ (bF.2 ⟨y,h,(dG (aW y) (VLe.rfl' _))⟩)
noncomputable abbrev Qg : FE Try.prog := ⟨11, .pure r9,xH⟩
noncomputable def jV : List V → List Ob → Option ((ab × Int) × List Prop)
  | [(.ptr p1 k2 i3 j4),(.c (.lit (.int .i64 a5)))],[.box [(.c (.sl k6 n7 e8)),(.c (.lit (.int .i64 a9))),(.c (.lit (.int .i64 a10)))]] => bif Nat.beq p1 0 && Nat.beq k2 3 && Nat.beq i3 0 && Nat.beq j4 0 then some (((ab.mk (lst ax n7 e8) a9 a10),a5),[aT aR ax 1 k6 n7 e8]) else none
  | _,_ => none
def iJ (x_1 : (Int × ab)) : V := (i64 x_1.1)
def iG (os : List Ob) (x_1 : (Int × ab)) : List Ob := [(.box [(aC x_1.2.l),(i64 x_1.2.at_),(i64 x_1.2.left)])]
noncomputable def H8 : List Code := be (aH Try.f32)
def D0 (x_1 : (Int × ab)) : St := ⟨[sv 4 (i64 x_1.1),sv 1000000 (.ptr 0 3 0 0)],[(0,some (.box [(aC x_1.2.l),(i64 x_1.2.at_),(i64 x_1.2.left)]))],1⟩
theorem OF (x_1 : (Int × ab)) {ps : List Prop} {c0 : List V} (h0 : c0.length = 3) : hG Try.prog [.tmp 4] (fun σ v => ∃ qs,kT true [.box c0] ⟨ps,iJ x_1,iG [.box c0] x_1,[false]⟩ qs σ v) .ret (D0 x_1) :=
  hG.intro (v := (i64 x_1.1)) (by kernel_rfl) ⟨[0],rfl,rfl,VLe.rfl' _,(.inl rfl),⟨⟨_,rfl,show VLes _ _ from VLes.rfl' _,rfl,rfl,(.inl rfl), .inr ⟨trivial,by rw [cH,h0]; rfl⟩⟩,trivial⟩⟩
def Cq (k n : Int) (s_1 : ab) : St := ⟨[sv 0 (.ptr 0 3 0 0),sv 1 (i64 k),sv 5 (i64 n),sv 1000000 (.ptr 0 3 0 0)],[(0,some (.box [(aC s_1.l),(i64 s_1.at_),(i64 s_1.left)]))],1⟩
noncomputable def eX (k n : Int) (s_1 : ab) : Option ((Int × ab)) := (bb n k).bind fun r_1 => ((some (r_1,(ab.mk s_1.l (ak (s_1.at_ + 1)) s_1.left))))
theorem Df {k n : Int} {s_1 : ab} {K : KT} (h : W (eX k n s_1) (rE D0 K)) : au Try.prog 36 (List.drop 4 H8) K (Cq k n s_1) :=
  au.qE aX [e4] [4,1000000] 4 3 (.nx (fun K => ((bb n k).isSome = true) ∧ (wK K .ret (D0 (((bb n k).getD 0),(ab.s_at_ s_1 (ak (s_1.at_ + 1))))))) (az 0 h fun _ h => (l0 h)))
def LL (k : Int) (s_1 : ab) : St := ⟨[sv 0 (.ptr 0 3 0 0),sv 1 (i64 k),sv 1000000 (.ptr 0 3 0 0)],[(0,some (.box [(aC s_1.l),(i64 s_1.at_),(i64 s_1.left)]))],1⟩
noncomputable def jl (k : Int) (s_1 : ab) : Option ((Int × ab)) := (bif (decide (s_1.at_ < (s_1.l.length : Int))) then gd (0 ≤ s_1.at_ ∧ s_1.at_ < (s_1.l.length : Int)) ((eX k (s_1.l.getD (Int.toNat s_1.at_) (0 : Int)) s_1)) else (eX k 0 s_1))
theorem IY {k : Int} {s_1 : ab} {K : KT} (h : W (jl k s_1) (rE D0 K)) : au Try.prog 36 (List.drop 0 H8) K (LL k s_1) :=
  au.qD aX [] [0,1,5,1000000] 0 4 4 (.nx (fun K => let a1_ := s_1.at_ < (s_1.l.length : Int); (bif (decide a1_) then (0 ≤ s_1.at_) ∧ a1_ ∧ (wK K .normal (Cq k (s_1.l.getD (Int.toNat s_1.at_) (0 : Int)) s_1)) else wK K .normal (Cq k 0 s_1))) (an h (fun _ h => (bD h fun _ h => (l0 (Df h)))) (fun _ h => (l0 (Df h)))))
noncomputable def ac (s_1 : ab) (k : Int) : Option ((Int × ab)) := jl k s_1
theorem uc : bR Try.prog 32 (.mut (ip true [true,false] (iw jV iJ iG [false] ((0 : Int),aa) (fun a => ac a.1 a.2)))) := by
  refine iM (fn := Try.f32) (c := aH Try.f32) (by kernel_rfl) (by kernel_rfl) (by kernel_rfl) (rs := [.tmp 4]) (by kernel_rfl) (nt := 36) (by kernel_rfl) fun vs os a ps h hp y hy qs => ?_
  unfold jV at h
  split at h
  · next p1 k2 i3 j4 a5 k6 n7 e8 a9 a10 =>
    cases hb : (Nat.beq p1 0 && Nat.beq k2 3 && Nat.beq i3 0 && Nat.beq j4 0) with
    | false => rw [hb] at h; cases h
    | true =>
      rw [hb] at h
      simp only [Bool.and_eq_true,Nat.beq_eq] at hb
      obtain ⟨⟨⟨rfl,rfl⟩,rfl⟩,rfl⟩ := hb
      cases h
      obtain ⟨g0,hp⟩ := bE hp
      exact ⟨[.ptr 0 3 0 0,(i64 a5)],(VLes.cons (VLe.rfl' _) (VLes.cons (VLe.rfl' _) VLes.nil)),rfl,au.ent (dt.of (co.cons rfl (VLe.rfl' _) (co.cons rfl (VLe.rfl' _) (co.cons rfl (VLe.rfl' _) co.nil))) (cG.box rfl (VLes.cons (VLe.slk g0.1 (aj.of_ok g0)) (VLes.cons (VLe.rfl' _) (VLes.cons (VLe.rfl' _) VLes.nil))) cG.nil) rfl) (@IY a5 (ab.mk (lst ax n7 e8) a9 a10) _ (bF.2 ⟨y,hy,OF y rfl⟩))⟩
  · cases h
noncomputable def nN := (ip true [true,false] (iw jV iJ iG [false] ((0 : Int),aa) (fun a => ac a.1 a.2)))
theorem sH : bR Try.prog 32 (.mut nN) := uc
noncomputable abbrev t2 : FE Try.prog := ⟨32, .mut nN,sH⟩
noncomputable def PR : List Code := be (aH Try.f54)
def zc (x_1 : (List ByteArray)) : cm := .own true 9 1 (x_1).length (bP tc (ao []) x_1)
def OY (x_1 : (List ByteArray)) : St := ⟨[sv 0 (.row 0 1 0 x_1.length)],[(jk 0 9 x_1)],1⟩
def ML : St := ⟨[],[],0⟩
noncomputable def tY : Option ((List ByteArray)) := (some ([(ao [97,103,101]),(ao [121,101,97,114]),(ao [99,104,105,108,100,114,101,110]),(ao [105,110,115,117,114,101,100]),(ao [119,111,114,107,101,100]),(ao [118,111,108,117,110,116,97,114,121]),(ao [115,101,114,118,105,99,101]),(ao [101,113,117,97,116,101,100]),(ao [114,97,105,115,105,110,103]),(ao [114,101,115,105,100,101,110,116]),(ao [98,97,115,101])] : List ByteArray))
theorem Jk {K : KT} (h : W (tY) (rE OY K)) : au Try.prog 2 (List.drop 0 PR) K (ML) :=
  au.qE aX [] [0] 0 3 (.nx (fun K => wK K .ret (OY ([(ao [97,103,101]),(ao [121,101,97,114]),(ao [99,104,105,108,100,114,101,110]),(ao [105,110,115,117,114,101,100]),(ao [119,111,114,107,101,100]),(ao [118,111,108,117,110,116,97,114,121]),(ao [115,101,114,118,105,99,101]),(ao [101,113,117,97,116,101,100]),(ao [114,97,105,115,105,110,103]),(ao [114,101,115,105,100,101,110,116]),(ao [98,97,115,101])] : List ByteArray))) (l0 h))
noncomputable def j3 : Option ((List ByteArray)) := tY
noncomputable def vk : ct := DI j3 ([] : List ByteArray) zc
theorem Aj : br Try.prog 54 vk := FK Try.f54 (aH Try.f54) [.tmp 0] 2 fun y h => @Jk _ (bF.2 ⟨y,h,(dG (.row 0 1 0 y.length) (⟨_,_,_,rfl,rfl,rfl,fun _ _ => rfl,fun _ i hi d hd => Bj _ d hd⟩))⟩)
noncomputable abbrev QF : FE Try.prog := ⟨54, .pure vk,Aj⟩
noncomputable def H9 : List Code := be (aH Try.f55)
def zM (x_1 : (Int × Bool)) : cm := .data (.tup [(i64 x_1.1),(bl x_1.2)])
def zd (x_1 : (Int × Bool)) : St := ⟨[sv 2 (i64 x_1.1),sv 3 (bl x_1.2)],[],0⟩
def MI : St := ⟨[],[],0⟩
noncomputable def bM : Option ((Int × Bool)) := (some (0,false))
theorem dj {K : KT} (h : W (bM) (rE zd K)) : au Try.prog 19 (List.drop 3 H9) K (MI) :=
  au.qE aX [] [2,3] 3 2 (.nx (fun K => wK K .ret (zd (0,false))) (l0 h))
def OW (name : ByteArray) : St := ⟨[sv 0 (aW name)],[],0⟩
noncomputable def oA (name : ByteArray) : Option ((Int × Bool)) := (bif (name.toList == (ao [97,103,101]).toList) then (bif (name.toList == (ao [97,103,101]).toList) then (some (2,true)) else (bif (name.toList == (ao [105,110,115,117,114,101,100]).toList) then (bif (name.toList == (ao [105,110,115,117,114,101,100]).toList) then (some (3,true)) else (bif (name.toList == (ao [98,97,115,101]).toList) then (some (4,true)) else bM)) else (bif (name.toList == (ao [119,111,114,107,101,100]).toList) then (bif (name.toList == (ao [119,111,114,107,101,100]).toList) then (some (3,true)) else (bif (name.toList == (ao [98,97,115,101]).toList) then (some (4,true)) else bM)) else (bif (name.toList == (ao [118,111,108,117,110,116,97,114,121]).toList) then (bif (name.toList == (ao [118,111,108,117,110,116,97,114,121]).toList) then (some (3,true)) else (bif (name.toList == (ao [98,97,115,101]).toList) then (some (4,true)) else bM)) else (bif (name.toList == (ao [115,101,114,118,105,99,101]).toList) then (bif (name.toList == (ao [115,101,114,118,105,99,101]).toList) then (some (3,true)) else (bif (name.toList == (ao [98,97,115,101]).toList) then (some (4,true)) else bM)) else (bif (name.toList == (ao [101,113,117,97,116,101,100]).toList) then (bif (name.toList == (ao [101,113,117,97,116,101,100]).toList) then (some (3,true)) else (bif (name.toList == (ao [98,97,115,101]).toList) then (some (4,true)) else bM)) else (bif (name.toList == (ao [114,97,105,115,105,110,103]).toList) then (bif (name.toList == (ao [114,97,105,115,105,110,103]).toList) then (some (3,true)) else (bif (name.toList == (ao [98,97,115,101]).toList) then (some (4,true)) else bM)) else (bif (name.toList == (ao [114,101,115,105,100,101,110,116]).toList) then (some (3,true)) else (bif (name.toList == (ao [98,97,115,101]).toList) then (some (4,true)) else bM))))))))) else (bif (name.toList == (ao [121,101,97,114]).toList) then (bif (name.toList == (ao [121,101,97,114]).toList) then (some (2,true)) else (bif (name.toList == (ao [105,110,115,117,114,101,100]).toList) then (bif (name.toList == (ao [105,110,115,117,114,101,100]).toList) then (some (3,true)) else (bif (name.toList == (ao [98,97,115,101]).toList) then (some (4,true)) else bM)) else (bif (name.toList == (ao [119,111,114,107,101,100]).toList) then (bif (name.toList == (ao [119,111,114,107,101,100]).toList) then (some (3,true)) else (bif (name.toList == (ao [98,97,115,101]).toList) then (some (4,true)) else bM)) else (bif (name.toList == (ao [118,111,108,117,110,116,97,114,121]).toList) then (bif (name.toList == (ao [118,111,108,117,110,116,97,114,121]).toList) then (some (3,true)) else (bif (name.toList == (ao [98,97,115,101]).toList) then (some (4,true)) else bM)) else (bif (name.toList == (ao [115,101,114,118,105,99,101]).toList) then (bif (name.toList == (ao [115,101,114,118,105,99,101]).toList) then (some (3,true)) else (bif (name.toList == (ao [98,97,115,101]).toList) then (some (4,true)) else bM)) else (bif (name.toList == (ao [101,113,117,97,116,101,100]).toList) then (bif (name.toList == (ao [101,113,117,97,116,101,100]).toList) then (some (3,true)) else (bif (name.toList == (ao [98,97,115,101]).toList) then (some (4,true)) else bM)) else (bif (name.toList == (ao [114,97,105,115,105,110,103]).toList) then (bif (name.toList == (ao [114,97,105,115,105,110,103]).toList) then (some (3,true)) else (bif (name.toList == (ao [98,97,115,101]).toList) then (some (4,true)) else bM)) else (bif (name.toList == (ao [114,101,115,105,100,101,110,116]).toList) then (some (3,true)) else (bif (name.toList == (ao [98,97,115,101]).toList) then (some (4,true)) else bM))))))))) else (bif (name.toList == (ao [99,104,105,108,100,114,101,110]).toList) then (some (2,true)) else (bif (name.toList == (ao [105,110,115,117,114,101,100]).toList) then (bif (name.toList == (ao [105,110,115,117,114,101,100]).toList) then (some (3,true)) else (bif (name.toList == (ao [98,97,115,101]).toList) then (some (4,true)) else bM)) else (bif (name.toList == (ao [119,111,114,107,101,100]).toList) then (bif (name.toList == (ao [119,111,114,107,101,100]).toList) then (some (3,true)) else (bif (name.toList == (ao [98,97,115,101]).toList) then (some (4,true)) else bM)) else (bif (name.toList == (ao [118,111,108,117,110,116,97,114,121]).toList) then (bif (name.toList == (ao [118,111,108,117,110,116,97,114,121]).toList) then (some (3,true)) else (bif (name.toList == (ao [98,97,115,101]).toList) then (some (4,true)) else bM)) else (bif (name.toList == (ao [115,101,114,118,105,99,101]).toList) then (bif (name.toList == (ao [115,101,114,118,105,99,101]).toList) then (some (3,true)) else (bif (name.toList == (ao [98,97,115,101]).toList) then (some (4,true)) else bM)) else (bif (name.toList == (ao [101,113,117,97,116,101,100]).toList) then (bif (name.toList == (ao [101,113,117,97,116,101,100]).toList) then (some (3,true)) else (bif (name.toList == (ao [98,97,115,101]).toList) then (some (4,true)) else bM)) else (bif (name.toList == (ao [114,97,105,115,105,110,103]).toList) then (bif (name.toList == (ao [114,97,105,115,105,110,103]).toList) then (some (3,true)) else (bif (name.toList == (ao [98,97,115,101]).toList) then (some (4,true)) else bM)) else (bif (name.toList == (ao [114,101,115,105,100,101,110,116]).toList) then (some (3,true)) else (bif (name.toList == (ao [98,97,115,101]).toList) then (some (4,true)) else bM)))))))))))
theorem KU {name : ByteArray} {K : KT} (h : W (oA name) (rE zd K)) : au Try.prog 19 (List.drop 0 H9) K (OW name) :=
  au.qD aX [] [2,3] 0 3 3 (.nx (fun K => let a1_ := name.toList == (ao [98,97,115,101]).toList; let a2_ := zd (3,true); let a3_ := zd (4,true); let a4_ := name.toList == (ao [118,111,108,117,110,116,97,114,121]).toList; let a5_ := name.toList == (ao [105,110,115,117,114,101,100]).toList; let a6_ := name.toList == (ao [115,101,114,118,105,99,101]).toList; let a7_ := name.toList == (ao [101,113,117,97,116,101,100]).toList; let a8_ := name.toList == (ao [114,97,105,115,105,110,103]).toList; let a9_ := name.toList == (ao [119,111,114,107,101,100]).toList; let a10_ := name.toList == (ao [114,101,115,105,100,101,110,116]).toList; let a11_ := name.toList == (ao [121,101,97,114]).toList; let a12_ := name.toList == (ao [97,103,101]).toList; let a13_ := zd (2,true); (bif a12_ then (bif a12_ then wK K .ret a13_ else (bif a5_ then (bif a5_ then wK K .ret a2_ else (bif a1_ then wK K .ret a3_ else wK K .normal (⟨[sv 2 (i64 0),sv 3 (bl false)],[],0⟩))) else (bif a9_ then (bif a9_ then wK K .ret a2_ else (bif a1_ then wK K .ret a3_ else wK K .normal (⟨[sv 2 (i64 0),sv 3 (bl false)],[],0⟩))) else (bif a4_ then (bif a4_ then wK K .ret a2_ else (bif a1_ then wK K .ret a3_ else wK K .normal (⟨[sv 2 (i64 0),sv 3 (bl false)],[],0⟩))) else (bif a6_ then (bif a6_ then wK K .ret a2_ else (bif a1_ then wK K .ret a3_ else wK K .normal (⟨[sv 2 (i64 0),sv 3 (bl false)],[],0⟩))) else (bif a7_ then (bif a7_ then wK K .ret a2_ else (bif a1_ then wK K .ret a3_ else wK K .normal (⟨[sv 2 (i64 0),sv 3 (bl false)],[],0⟩))) else (bif a8_ then (bif a8_ then wK K .ret a2_ else (bif a1_ then wK K .ret a3_ else wK K .normal (⟨[sv 2 (i64 0),sv 3 (bl false)],[],0⟩))) else (bif a10_ then wK K .ret a2_ else (bif a1_ then wK K .ret a3_ else wK K .normal (⟨[sv 2 (i64 0),sv 3 (bl false)],[],0⟩)))))))))) else (bif a11_ then (bif a11_ then wK K .ret a13_ else (bif a5_ then (bif a5_ then wK K .ret a2_ else (bif a1_ then wK K .ret a3_ else wK K .normal (⟨[sv 2 (i64 0),sv 3 (bl false)],[],0⟩))) else (bif a9_ then (bif a9_ then wK K .ret a2_ else (bif a1_ then wK K .ret a3_ else wK K .normal (⟨[sv 2 (i64 0),sv 3 (bl false)],[],0⟩))) else (bif a4_ then (bif a4_ then wK K .ret a2_ else (bif a1_ then wK K .ret a3_ else wK K .normal (⟨[sv 2 (i64 0),sv 3 (bl false)],[],0⟩))) else (bif a6_ then (bif a6_ then wK K .ret a2_ else (bif a1_ then wK K .ret a3_ else wK K .normal (⟨[sv 2 (i64 0),sv 3 (bl false)],[],0⟩))) else (bif a7_ then (bif a7_ then wK K .ret a2_ else (bif a1_ then wK K .ret a3_ else wK K .normal (⟨[sv 2 (i64 0),sv 3 (bl false)],[],0⟩))) else (bif a8_ then (bif a8_ then wK K .ret a2_ else (bif a1_ then wK K .ret a3_ else wK K .normal (⟨[sv 2 (i64 0),sv 3 (bl false)],[],0⟩))) else (bif a10_ then wK K .ret a2_ else (bif a1_ then wK K .ret a3_ else wK K .normal (⟨[sv 2 (i64 0),sv 3 (bl false)],[],0⟩)))))))))) else (bif (name.toList == (ao [99,104,105,108,100,114,101,110]).toList) then wK K .ret a13_ else (bif a5_ then (bif a5_ then wK K .ret a2_ else (bif a1_ then wK K .ret a3_ else wK K .normal (⟨[sv 2 (i64 0),sv 3 (bl false)],[],0⟩))) else (bif a9_ then (bif a9_ then wK K .ret a2_ else (bif a1_ then wK K .ret a3_ else wK K .normal (⟨[sv 2 (i64 0),sv 3 (bl false)],[],0⟩))) else (bif a4_ then (bif a4_ then wK K .ret a2_ else (bif a1_ then wK K .ret a3_ else wK K .normal (⟨[sv 2 (i64 0),sv 3 (bl false)],[],0⟩))) else (bif a6_ then (bif a6_ then wK K .ret a2_ else (bif a1_ then wK K .ret a3_ else wK K .normal (⟨[sv 2 (i64 0),sv 3 (bl false)],[],0⟩))) else (bif a7_ then (bif a7_ then wK K .ret a2_ else (bif a1_ then wK K .ret a3_ else wK K .normal (⟨[sv 2 (i64 0),sv 3 (bl false)],[],0⟩))) else (bif a8_ then (bif a8_ then wK K .ret a2_ else (bif a1_ then wK K .ret a3_ else wK K .normal (⟨[sv 2 (i64 0),sv 3 (bl false)],[],0⟩))) else (bif a10_ then wK K .ret a2_ else (bif a1_ then wK K .ret a3_ else wK K .normal (⟨[sv 2 (i64 0),sv 3 (bl false)],[],0⟩))))))))))))) (an h (fun _ h => (an h (fun _ h => (l0 h)) (fun _ h => (an h (fun _ h => (an h (fun _ h => (l0 h)) (fun _ h => (an h (fun _ h => (l0 h)) (fun _ h => (lf (dj h) (.cn []))))))) (fun _ h => (an h (fun _ h => (an h (fun _ h => (l0 h)) (fun _ h => (an h (fun _ h => (l0 h)) (fun _ h => (lf (dj h) (.cn []))))))) (fun _ h => (an h (fun _ h => (an h (fun _ h => (l0 h)) (fun _ h => (an h (fun _ h => (l0 h)) (fun _ h => (lf (dj h) (.cn []))))))) (fun _ h => (an h (fun _ h => (an h (fun _ h => (l0 h)) (fun _ h => (an h (fun _ h => (l0 h)) (fun _ h => (lf (dj h) (.cn []))))))) (fun _ h => (an h (fun _ h => (an h (fun _ h => (l0 h)) (fun _ h => (an h (fun _ h => (l0 h)) (fun _ h => (lf (dj h) (.cn []))))))) (fun _ h => (an h (fun _ h => (an h (fun _ h => (l0 h)) (fun _ h => (an h (fun _ h => (l0 h)) (fun _ h => (lf (dj h) (.cn []))))))) (fun _ h => (an h (fun _ h => (l0 h)) (fun _ h => (an h (fun _ h => (l0 h)) (fun _ h => (lf (dj h) (.cn []))))))))))))))))))))) (fun _ h => (an h (fun _ h => (an h (fun _ h => (l0 h)) (fun _ h => (an h (fun _ h => (an h (fun _ h => (l0 h)) (fun _ h => (an h (fun _ h => (l0 h)) (fun _ h => (lf (dj h) (.cn []))))))) (fun _ h => (an h (fun _ h => (an h (fun _ h => (l0 h)) (fun _ h => (an h (fun _ h => (l0 h)) (fun _ h => (lf (dj h) (.cn []))))))) (fun _ h => (an h (fun _ h => (an h (fun _ h => (l0 h)) (fun _ h => (an h (fun _ h => (l0 h)) (fun _ h => (lf (dj h) (.cn []))))))) (fun _ h => (an h (fun _ h => (an h (fun _ h => (l0 h)) (fun _ h => (an h (fun _ h => (l0 h)) (fun _ h => (lf (dj h) (.cn []))))))) (fun _ h => (an h (fun _ h => (an h (fun _ h => (l0 h)) (fun _ h => (an h (fun _ h => (l0 h)) (fun _ h => (lf (dj h) (.cn []))))))) (fun _ h => (an h (fun _ h => (an h (fun _ h => (l0 h)) (fun _ h => (an h (fun _ h => (l0 h)) (fun _ h => (lf (dj h) (.cn []))))))) (fun _ h => (an h (fun _ h => (l0 h)) (fun _ h => (an h (fun _ h => (l0 h)) (fun _ h => (lf (dj h) (.cn []))))))))))))))))))))) (fun _ h => (an h (fun _ h => (l0 h)) (fun _ h => (an h (fun _ h => (an h (fun _ h => (l0 h)) (fun _ h => (an h (fun _ h => (l0 h)) (fun _ h => (lf (dj h) (.cn []))))))) (fun _ h => (an h (fun _ h => (an h (fun _ h => (l0 h)) (fun _ h => (an h (fun _ h => (l0 h)) (fun _ h => (lf (dj h) (.cn []))))))) (fun _ h => (an h (fun _ h => (an h (fun _ h => (l0 h)) (fun _ h => (an h (fun _ h => (l0 h)) (fun _ h => (lf (dj h) (.cn []))))))) (fun _ h => (an h (fun _ h => (an h (fun _ h => (l0 h)) (fun _ h => (an h (fun _ h => (l0 h)) (fun _ h => (lf (dj h) (.cn []))))))) (fun _ h => (an h (fun _ h => (an h (fun _ h => (l0 h)) (fun _ h => (an h (fun _ h => (l0 h)) (fun _ h => (lf (dj h) (.cn []))))))) (fun _ h => (an h (fun _ h => (an h (fun _ h => (l0 h)) (fun _ h => (an h (fun _ h => (l0 h)) (fun _ h => (lf (dj h) (.cn []))))))) (fun _ h => (an h (fun _ h => (l0 h)) (fun _ h => (an h (fun _ h => (l0 h)) (fun _ h => (lf (dj h) (.cn [])))))))))))))))))))))))))
noncomputable def kc (name : ByteArray) : Option ((Int × Bool)) := oA name
noncomputable def vu : ct := gj aS kc ((0 : Int),false) zM
theorem Aw : br Try.prog 55 vu := dW Try.f55 (aH Try.f55) [.tmp 2, .tmp 3] 19 fun u0 y h => @KU u0 _ (bF.2 ⟨y,h,(dG (.tup [(i64 y.1),(bl y.2)]) (VLe.tup (VLes.cons (VLe.rfl' _) (VLes.cons (VLe.rfl' _) (VLes.nil)))))⟩)
noncomputable abbrev QI : FE Try.prog := ⟨55, .pure vu,Aw⟩
noncomputable def oS : List Code := be (aH Try.f37)
noncomputable def Ib : List Code := be (aE (aE (bS oS 4)))
def yj (x_1 : (List ByteArray)) : cm := .own true 9 1 (x_1).length (bP tc (ao []) x_1)
def Bx (x_1 : (List ByteArray)) : St := ⟨[sv 2 (.row 0 1 0 x_1.length)],[(jk 0 9 x_1)],1⟩
def u6 (dim : Int) (l : (List ByteArray)) (s : ((List ByteArray) × Int)) : St := match s with | (out_1,i_1) => ⟨[sv 0 (i64 dim),sv 3 (.row 0 1 0 l.length),sv 4 (.row 1 1 0 out_1.length),sv 5 (i64 i_1)],[(jk 0 9 l),(jk 1 9 out_1)],2⟩
def Jg (dim : Int) (l : (List ByteArray)) (s : (List ByteArray)) : St := match s with | out_2 => ⟨[sv 4 (.row 0 1 0 out_2.length)],[(jk 0 9 out_2)],1⟩
def sk (dim : Int) (l : (List ByteArray)) (r : (((List ByteArray)))) (K : KT) : Prop := match r with | s => K (.exit 0) (Jg dim l s)
def Ma (dim : Int) (l out_1 : (List ByteArray)) (i_1 : Int) : St := ⟨[sv 0 (i64 dim),sv 3 (.row 0 1 0 l.length),sv 4 (.row 1 1 0 out_1.length),sv 5 (i64 i_1)],[(jk 0 9 l),(jk 1 9 out_1)],2⟩
noncomputable def j8 (dim : Int) (l out_1 : (List ByteArray)) (i_1 : Int) : Option (((List ByteArray) × Int) ⊕ (((List ByteArray)))) := (bif (decide (i_1 < (l.length : Int))) then gd (0 ≤ i_1 ∧ i_1 < (l.length : Int)) ((kc (l.getD (0 + (Int.toNat i_1)) (ao []))).bind fun r_2 => ((bif (r_2.1 == dim) then gd (0 ≤ i_1 ∧ i_1 < (l.length : Int)) (gd (jF (out_1.length + 1) 16) ((some (Sum.inl ((out_1 ++ ([(l.getD (0 + (Int.toNat i_1)) (ao []))] : List ByteArray)),(ak (i_1 + 1))))))) else (some (Sum.inl (out_1,(ak (i_1 + 1)))))))) else (some (Sum.inr out_1)))
theorem JM {dim : Int} {l out_1 : (List ByteArray)} {i_1 : Int} {K : KT} (h : W (j8 dim l out_1 i_1) (nE (u6 dim l) (sk dim l) K)) : au Try.prog 34 (List.drop 0 Ib) K (Ma dim l out_1 i_1) :=
  au.qE aX [QI] [0,3,4,5] 0 4 (.nx (fun K => let a1_ := l.getD (0 + (Int.toNat i_1)) (ao []); let a2_ := out_1.length + 1; let a3_ := i_1 < (l.length : Int); (bif (decide a3_) then (0 ≤ i_1) ∧ a3_ ∧ ((kc a1_).isSome = true) ∧ ((bif (((kc a1_).getD (0,false)).1 == dim) then (0 ≤ i_1) ∧ a3_ ∧ (out_1.length = out_1.length) ∧ (a2_ * 16 ≤ 140737488355328) ∧ (a2_ ≤ 140737488355328) ∧ (wK K .normal (⟨[sv 0 (i64 dim),sv 3 (.row 0 1 0 l.length),sv 4 (.row 1 1 0 a2_),sv 5 (i64 (ak (i_1 + 1)))],[(jk 0 9 l),(1,some (.row 9 1 a2_ (fun i => bif Nat.blt i out_1.length then (Ew out_1) i else (fun i => (Ew ([a1_] : List ByteArray)) (0 + i)) (i - out_1.length))))],2⟩)) else wK K .normal (u6 dim l (out_1,(ak (i_1 + 1)))))) else wK K (.exit 0) (⟨[sv 0 (i64 dim),sv 3 (.row 0 1 0 l.length),sv 4 (.row 1 1 0 out_1.length),sv 5 (i64 i_1)],[(jk 0 9 l),(jk 1 9 out_1)],2⟩))) (an h (fun _ h => (bD h fun _ h => (az (0,false) h fun _ h => (an h (fun _ h => (bD h fun _ h => ⟨rfl,(bD h fun _ h => (lf h (.of (.q rfl (.q rfl (.cons rfl (.rown (fg rfl rfl)) (.q rfl .nil)))) (.same rfl (.row rfl (aj.app .b (aj.zero (aj.ls tc (ao []) ([(l.getD (0 + (Int.toNat i_1)) (ao []))] : List ByteArray)))) .nil rfl)) rfl)))⟩)) (fun _ h => (l0 h)))))) (fun _ h => (lf h (.cn [4])))))
noncomputable def mP (dim : Int) (l : (List ByteArray)) (s : ((List ByteArray) × Int)) : Option (((List ByteArray) × Int) ⊕ (((List ByteArray)))) := match s with | (out_1,i_1) => j8 dim l out_1 i_1
theorem I4 (dim : Int) (l : (List ByteArray)) (s : ((List ByteArray) × Int)) : Pp Try.prog 34 (List.drop 0 Ib) (u6 dim l s) (mP dim l s) (dK (u6 dim l) (sk dim l)) := fun K h => match s,h with | (out_1,i_1),h => (JM h)
theorem Eh (dim : Int) (l : (List ByteArray)) : ∀ (r : (((List ByteArray)))) (J : St → Prop) (K : KT),sk dim l r K → sk dim l r (bB J K)
  | s,_,_,h => h
def G5 (out_3 : (List ByteArray)) : St := ⟨[sv 4 (.row 0 1 0 out_3.length)],[(jk 0 9 out_3)],1⟩
noncomputable def r3 (out_3 : (List ByteArray)) : Option ((List ByteArray)) := (some out_3)
theorem Kf {out_3 : (List ByteArray)} {K : KT} (h : W (r3 out_3) (rE Bx K)) : au Try.prog 34 (List.drop 5 oS) K (G5 out_3) :=
  au.qE aX [] [2] 5 2 (.nx (fun K => wK K .ret (Bx out_3)) (l0 h))
def F8 (dim : Int) (l : (List ByteArray)) : St := ⟨[sv 0 (i64 dim),sv 3 (.row 0 1 0 l.length),sv 4 (.c .nil),sv 5 (i64 0)],[(jk 0 9 l)],1⟩
noncomputable def qe (dim : Int) (l : (List ByteArray)) (r : (((List ByteArray)))) : Option ((List ByteArray)) := match r with | out_2 => (r3 out_2)
noncomputable def mT (dim : Int) (l : (List ByteArray)) : Option ((List ByteArray)) := (fixL (mP dim l) (([] : List ByteArray),0)).bind (qe dim l)
theorem J4 : List.drop 4 oS = .block 0 (.loop (aE (aE (bS oS 4)))) :: List.drop 5 oS := by kernel_rfl
theorem LI (dim : Int) (l : (List ByteArray)) (K : KT) : ∀ r : (((List ByteArray))),W (qe dim l r) (rE Bx K) → sk dim l r (wK (cO 0 (bB (au Try.prog 34 (List.drop 5 oS) K) K)))
  | out_2,h => ⟨(G5 out_2),(.refl _),(Kf h)⟩
theorem KQ {dim : Int} {l : (List ByteArray)} {K : KT} (h : W (mT dim l) (rE Bx K)) : au Try.prog 34 (List.drop 4 oS) K (F8 dim l) :=
  au.at_ J4 (au.cons_loop (bg.weak (bg.ent (.trans (.nilrow 4 1 9 1 (bP tc (ao []) []) (Nat.le_of_ble_eq_true rfl) rfl) (.cn [0,3,4,5])) (bg.loopF (x := aE (aE (bS oS 4))) (f := mP dim l) (emb := u6 dim l) (E := sk dim l) (I4 dim l) (Eh dim l) (dq h (LI dim l K))))))
def Nx (dim : Int) : St := ⟨[sv 0 (i64 dim)],[],0⟩
noncomputable def mO (dim : Int) : Option ((List ByteArray)) := (j3).bind fun r_1 => ((mT dim r_1))
theorem KX {dim : Int} {K : KT} (h : W (mO dim) (rE Bx K)) : au Try.prog 34 (List.drop 0 oS) K (Nx dim) :=
  au.qD aX [QF] [0,3,4,5] 0 4 4 (.nx (fun K => ((j3).isSome = true) ∧ (wK K .normal (F8 dim ((j3).getD [])))) (az [] h fun _ h => (l0 (KQ h))))
noncomputable def ji (dim : Int) : Option ((List ByteArray)) := mO dim
noncomputable def tT : ct := gj (aI .i64) ji ([] : List ByteArray) yj
theorem zm : br Try.prog 37 tT := dW Try.f37 (aH Try.f37) [.tmp 2] 34 fun u0 y h => @KX u0 _ (bF.2 ⟨y,h,(dG (.row 0 1 0 y.length) (⟨_,_,_,rfl,rfl,rfl,fun _ _ => rfl,fun _ i hi d hd => Bj _ d hd⟩))⟩)
noncomputable abbrev B5 : FE Try.prog := ⟨37, .pure tT,zm⟩
noncomputable def iV : List V → List Ob → Option ((ab) × List Prop)
  | [(.ptr p1 k2 i3 j4)],[.box [(.c (.sl k5 n6 e7)),(.c (.lit (.int .i64 a8))),(.c (.lit (.int .i64 a9)))]] => bif Nat.beq p1 0 && Nat.beq k2 3 && Nat.beq i3 0 && Nat.beq j4 0 then some (((ab.mk (lst ax n6 e7) a8 a9)),[aT aR ax 1 k5 n6 e7]) else none
  | _,_ => none
def gS (x_1 : (aq × ab)) : V := (.agg [(i64 x_1.1.Num),(i64 x_1.1.Den)])
def gR (os : List Ob) (x_1 : (aq × ab)) : List Ob := [(.box [(aC x_1.2.l),(i64 x_1.2.at_),(i64 x_1.2.left)])]
noncomputable def IK : List Code := be (aH Try.f38)
def He (x_1 : (aq × ab)) : St := ⟨[sv 2 (.ptr 0 2 0 0),sv 1000000 (.ptr 1 3 0 0)],[(0,some (.box [(i64 x_1.1.Num),(i64 x_1.1.Den)])),(1,some (.box [(aC x_1.2.l),(i64 x_1.2.at_),(i64 x_1.2.left)]))],2⟩
theorem NE (x_1 : (aq × ab)) {ps : List Prop} {c0 : List V} (h0 : c0.length = 3) : hG Try.prog [.cell 2 49] (fun σ v => ∃ qs,kT true [.box c0] ⟨ps,gS x_1,gR [.box c0] x_1,[false]⟩ qs σ v) .ret (He x_1) :=
  hG.intro (v := (.agg [(i64 x_1.1.Num),(i64 x_1.1.Den)])) (by kernel_rfl) ⟨[1],rfl,rfl,VLe.rfl' _,(.inl rfl),⟨⟨_,rfl,show VLes _ _ from VLes.rfl' _,rfl,rfl,(.inl rfl), .inr ⟨trivial,by rw [cH,h0]; rfl⟩⟩,trivial⟩⟩
def Fe (s_1 : ab) : St := ⟨[sv 0 (.ptr 0 3 0 0),sv 1000000 (.ptr 0 3 0 0)],[(0,some (.box [(aC s_1.l),(i64 s_1.at_),(i64 s_1.left)]))],1⟩
noncomputable def iy (s_1 : ab) : Option ((aq × ab)) := (ac s_1 4000).bind fun r_1 => ((ac r_1.2 7).bind fun r_2 => (gd (0 ≤ r_2.1 ∧ r_2.1 < ((7 : Nat) : Int)) ((cM r_1.1 (([1,1,1,10,4,1000,10000] : List Int).getD (0 + (Int.toNat r_2.1)) (0 : Int))).bind fun r_3 => ((some (r_3.1,r_2.2))))))
theorem Kz (s_1 : ab) (K : KT) {L1_ : List Int} (hL1_ : lst ax s_1.l.length (aQ s_1.l) = L1_) {L2_ : List Int} (hL2_ : lst ax (((((ac (ab.s_l s_1 L1_) 4000).getD (0,aa)).2).l).length) (aQ ((((ac (ab.s_l s_1 L1_) 4000).getD (0,aa)).2).l)) = L2_) :
    ev Try.prog (dx [LF,t2]) 19 (ofItems ((List.drop 0 IK).take 5)) (cN [2,1000000] K) (Fe s_1) =
    (let a4_ := ac (ab.s_l s_1 L1_) 4000; let a1_ := ac (ab.s_l ((a4_.getD (0,aa)).2) L2_) 7; let a3_ := a1_.getD (0,aa); let a2_ := cM ((a4_.getD (0,aa)).1) (([1,1,1,10,4,1000,10000] : List Int).getD (0 + (Int.toNat a3_.1)) (0 : Int)); (bs s_1.l) ∧ (a4_.isSome = true) ∧ ((bs (((a4_.getD (0,aa)).2).l)) ∧ (a1_.isSome = true) ∧ (0 ≤ a3_.1) ∧ (a3_.1 < ((7 : Nat) : Int)) ∧ (a2_.isSome = true) ∧ (wK K .ret (He ((a2_.getD (bz,0)).1,a3_.2))))) := by subst hL1_ hL2_; kernel_rfl
theorem Jb {s_1 : ab} {K : KT} (h : W (iy s_1) (rE He K)) : au Try.prog 19 (List.drop 0 IK) K (Fe s_1) :=
  au.qE aX [LF,t2] [2,1000000] 0 5 (.of (Kz s_1 _ (lb af) (lb af)) (⟨kb af,(az (0,aa) h fun _ h => ⟨kb af,(az (0,aa) h fun _ h => (bD h fun hx0 h => (az (bz,0) h fun _ h => (l0 h))))⟩)⟩))
noncomputable def dz (s_1 : ab) : Option ((aq × ab)) := iy s_1
theorem r8 : bR Try.prog 38 (.mut (ip true [true] (iw iV gS gR [false] (bz,aa) (fun a => dz a)))) := by
  refine iM (fn := Try.f38) (c := aH Try.f38) (by kernel_rfl) (by kernel_rfl) (by kernel_rfl) (rs := [.cell 2 49]) (by kernel_rfl) (nt := 19) (by kernel_rfl) fun vs os a ps h hp y hy qs => ?_
  unfold iV at h
  split at h
  · next p1 k2 i3 j4 k5 n6 e7 a8 a9 =>
    cases hb : (Nat.beq p1 0 && Nat.beq k2 3 && Nat.beq i3 0 && Nat.beq j4 0) with
    | false => rw [hb] at h; cases h
    | true =>
      rw [hb] at h
      simp only [Bool.and_eq_true,Nat.beq_eq] at hb
      obtain ⟨⟨⟨rfl,rfl⟩,rfl⟩,rfl⟩ := hb
      cases h
      obtain ⟨g0,hp⟩ := bE hp
      exact ⟨[.ptr 0 3 0 0],(VLes.cons (VLe.rfl' _) VLes.nil),rfl,au.ent (dt.of (co.cons rfl (VLe.rfl' _) (co.cons rfl (VLe.rfl' _) co.nil)) (cG.box rfl (VLes.cons (VLe.slk g0.1 (aj.of_ok g0)) (VLes.cons (VLe.rfl' _) (VLes.cons (VLe.rfl' _) VLes.nil))) cG.nil) rfl) (@Jb (ab.mk (lst ax n6 e7) a8 a9) _ (bF.2 ⟨y,hy,NE y rfl⟩))⟩
  · cases h
noncomputable def l9 := (ip true [true] (iw iV gS gR [false] (bz,aa) (fun a => dz a)))
theorem qY : bR Try.prog 38 (.mut l9) := r8
noncomputable abbrev Qk : FE Try.prog := ⟨38, .mut l9,qY⟩
noncomputable def jH : List V → Option ((ar) × List Prop)
  | [(.agg [(.c (.lit (.int .i64 a1))),(.c (.lit (.int .i64 a2))),(.c (.lit (.int .i64 a3))),(.c (.lit (.int .i64 a4))),(.c (.lit (.string a5))),(.c (.sl k6 n7 e8))])] => bif true then some (((ar.mk a1 (aq.mk a2 a3) a4 a5 (lst dGExpr n7 e8))),[aT du dGExpr 6 k6 n7 e8]) else none
  | _ => none
def iB (x_1 : Int) : cm := .data (i64 x_1)
class zH where
  F : ar → Option (Int)
  ok : br Try.prog 34 (kE jH iB (0 : Int) (fun a => F a))
section
variable [zH]
noncomputable abbrev Aq := (kE jH iB (0 : Int) (fun a => zH.F a))
noncomputable abbrev Ix : FE Try.prog := ⟨34, .pure Aq,zH.ok⟩
noncomputable def oY : List Code := be (aH Try.f34)
noncomputable def EF : List Code := be (aE (aE (bS oY 3)))
def yU (x_1 : Int) : St := ⟨[sv 2 (i64 x_1)],[],0⟩
theorem L3 (x_1 : Int) : cD Try.prog [.tmp 2] (cw (iB x_1)) .ret (yU x_1) :=
  cD.intro (v := (i64 x_1)) (by kernel_rfl) ((VLe.rfl' _))
def ve (e_1 : ar) (s : (Int × Int)) : St := match s with | (n,i_1) => ⟨[sv 1 (.ptr 0 6 0 0),sv 3 (i64 n),sv 4 (i64 i_1)],[(0,some (.box [(i64 e_1.Op),(i64 e_1.Value.Num),(i64 e_1.Value.Den),(i64 e_1.Dim),(aW e_1.Name),(bd e_1.Args)]))],1⟩
def Kq (e_1 : ar) (s : Int) : St := match s with | n_1 => ⟨[sv 3 (i64 n_1)],[],0⟩
def rM (e_1 : ar) (r : ((Int))) (K : KT) : Prop := match r with | s => K (.exit 0) (Kq e_1 s)
def Fu (n i_1 : Int) (e_1 : ar) : St := ⟨[sv 1 (.ptr 0 6 0 0),sv 3 (i64 n),sv 4 (i64 i_1)],[(0,some (.box [(i64 e_1.Op),(i64 e_1.Value.Num),(i64 e_1.Value.Den),(i64 e_1.Dim),(aW e_1.Name),(bd e_1.Args)]))],1⟩
noncomputable def ju (n i_1 : Int) (e_1 : ar) : Option ((Int × Int) ⊕ ((Int))) := (bif (decide (i_1 < (e_1.Args.length : Int))) then gd (0 ≤ i_1 ∧ i_1 < (e_1.Args.length : Int)) ((zH.F (ar.mk (e_1.Args.getD (Int.toNat i_1) ap).Op (e_1.Args.getD (Int.toNat i_1) ap).Value (e_1.Args.getD (Int.toNat i_1) ap).Dim (e_1.Args.getD (Int.toNat i_1) ap).Name (e_1.Args.getD (Int.toNat i_1) ap).Args)).bind fun r_1 => ((some (Sum.inl ((if n < r_1 then r_1 else n),(ak (i_1 + 1))))))) else (some (Sum.inr n)))
theorem J9 (n i_1 : Int) (e_1 : ar) (K : KT) {L1_ : List ar} (hL1_ : lst dGExpr (((e_1.Args.getD (Int.toNat i_1) ap).Args).length) (aGExpr ((e_1.Args.getD (Int.toNat i_1) ap).Args)) = L1_) :
    ev Try.prog (dx [Ix]) 22 (ofItems ((List.drop 0 EF).take 4)) (cN [1,3,4] K) (Fu n i_1 e_1) =
    (let a1_ := zH.F (ar.s_Args (ar.s_Value (e_1.Args.getD (Int.toNat i_1) ap) (e_1.Args.getD (Int.toNat i_1) ap).Value) L1_); let a2_ := (e_1.Args.getD (Int.toNat i_1) ap).Args; let a3_ := i_1 < (e_1.Args.length : Int); (bif (decide a3_) then (0 ≤ i_1) ∧ a3_ ∧ (aT du dGExpr 6 6 (a2_.length) (aGExpr a2_)) ∧ (a1_.isSome = true) ∧ (wK K .normal (ve e_1 ((if n < (a1_.getD 0) then (a1_.getD 0) else n),(ak (i_1 + 1))))) else wK K (.exit 0) (⟨[sv 1 (.ptr 0 6 0 0),sv 3 (i64 n),sv 4 (i64 i_1)],[(0,some (.box [(i64 e_1.Op),(i64 e_1.Value.Num),(i64 e_1.Value.Den),(i64 e_1.Dim),(aW e_1.Name),(bd e_1.Args)]))],1⟩))) := by subst hL1_; kernel_rfl
theorem Ku {n i_1 : Int} {e_1 : ar} {K : KT} (h : W (ju n i_1 e_1) (nE (ve e_1) (rM e_1) K)) : au Try.prog 22 (List.drop 0 EF) K (Fu n i_1 e_1) :=
  au.qE aX [Ix] [1,3,4] 0 4 (.of (J9 n i_1 e_1 _ (lr cB (aj.aGExpr ((e_1.Args.getD (Int.toNat i_1) ap).Args)))) (an h (fun _ h => (bD h fun _ h => ⟨aj.ok cB (aj.aGExpr ((e_1.Args.getD (Int.toNat i_1) ap).Args)),(az 0 h fun _ h => (l0 h))⟩)) (fun _ h => (lf h (.cn [3])))))
noncomputable def mm (e_1 : ar) (s : (Int × Int)) : Option ((Int × Int) ⊕ ((Int))) := match s with | (n,i_1) => ju n i_1 e_1
theorem J3 (e_1 : ar) (s : (Int × Int)) : Pp Try.prog 22 (List.drop 0 EF) (ve e_1 s) (mm e_1 s) (dK (ve e_1) (rM e_1)) := fun K h => match s,h with | (n,i_1),h => (Ku h)
theorem EC (e_1 : ar) : ∀ (r : ((Int))) (J : St → Prop) (K : KT),rM e_1 r K → rM e_1 r (bB J K)
  | s,_,_,h => h
def EU (n_2 : Int) : St := ⟨[sv 3 (i64 n_2)],[],0⟩
noncomputable def qn (n_2 : Int) : Option (Int) := (some (ak (n_2 + 1)))
theorem J5 {n_2 : Int} {K : KT} (h : W (qn n_2) (rE yU K)) : au Try.prog 22 (List.drop 4 oY) K (EU n_2) :=
  au.qE aX [] [2] 4 2 (.nx (fun K => wK K .ret (yU (ak (n_2 + 1)))) (l0 h))
def GW (e_1 : ar) : St := ⟨[sv 1 (.ptr 0 6 0 0),sv 3 (i64 0),sv 4 (i64 0)],[(0,some (.box [(i64 e_1.Op),(i64 e_1.Value.Num),(i64 e_1.Value.Den),(i64 e_1.Dim),(aW e_1.Name),(bd e_1.Args)]))],1⟩
noncomputable def oL (e_1 : ar) (r : ((Int))) : Option (Int) := match r with | n_1 => (qn n_1)
noncomputable def lO (e_1 : ar) : Option (Int) := (fixL (mm e_1) (0,0)).bind (oL e_1)
theorem Ky : List.drop 3 oY = .block 0 (.loop (aE (aE (bS oY 3)))) :: List.drop 4 oY := by kernel_rfl
theorem OQ (e_1 : ar) (K : KT) : ∀ r : ((Int)),W (oL e_1 r) (rE yU K) → rM e_1 r (wK (cO 0 (bB (au Try.prog 22 (List.drop 4 oY) K) K)))
  | n_1,h => ⟨(EU n_1),(.refl _),(J5 h)⟩
theorem La {e_1 : ar} {K : KT} (h : W (lO e_1) (rE yU K)) : au Try.prog 22 (List.drop 3 oY) K (GW e_1) :=
  au.at_ Ky (au.cons_loop (bg.weak (bg.ent (.refl _) (bg.loopF (x := aE (aE (bS oY 3))) (f := mm e_1) (emb := ve e_1) (E := rM e_1) (J3 e_1) (EC e_1) (dq h (OQ e_1 K))))))
def Mk (e_1 : ar) : St := ⟨[sv 0 (.agg [(i64 e_1.Op),(i64 e_1.Value.Num),(i64 e_1.Value.Den),(i64 e_1.Dim),(aW e_1.Name),(bd e_1.Args)])],[],0⟩
noncomputable def l6 (e_1 : ar) : Option (Int) := (lO e_1)
theorem Kr {e_1 : ar} {K : KT} (h : W (l6 e_1) (rE yU K)) : au Try.prog 22 (List.drop 0 oY) K (Mk e_1) :=
  au.qD aX [] [1,3,4] 0 3 3 (.nx (fun K => wK K .normal (GW e_1)) (l0 (La h)))
noncomputable def mh (e_1 : ar) : Option (Int) := l6 e_1
theorem yG : br Try.prog 34 (kE jH iB (0 : Int) (fun a => mh a)) := by
  refine BU (fn := Try.f34) (c := aH Try.f34) (by kernel_rfl) (by kernel_rfl) (by kernel_rfl) (rs := [.tmp 2]) (by kernel_rfl) (nt := 22) (by kernel_rfl) fun vs a ps h hp y hy => ?_
  unfold jH at h
  split at h
  · next a1 a2 a3 a4 a5 k6 n7 e8 =>
    cases hb : (true) with
    | false => rw [hb] at h; cases h
    | true =>
      rw [hb] at h
      cases h
      obtain ⟨g0,hp⟩ := bE hp
      exact ⟨[(.agg [(i64 (ar.mk a1 (aq.mk a2 a3) a4 a5 (lst dGExpr n7 e8)).Op),(i64 ((ar.mk a1 (aq.mk a2 a3) a4 a5 (lst dGExpr n7 e8)).Value).Num),(i64 ((ar.mk a1 (aq.mk a2 a3) a4 a5 (lst dGExpr n7 e8)).Value).Den),(i64 (ar.mk a1 (aq.mk a2 a3) a4 a5 (lst dGExpr n7 e8)).Dim),(aW ((ar.mk a1 (aq.mk a2 a3) a4 a5 (lst dGExpr n7 e8)).Name)),(bd ((ar.mk a1 (aq.mk a2 a3) a4 a5 (lst dGExpr n7 e8)).Args))])],(VLes.cons (VLe.agg (VLes.cons (VLe.rfl' _) (VLes.cons (VLe.rfl' _) (VLes.cons (VLe.rfl' _) (VLes.cons (VLe.rfl' _) (VLes.cons (VLe.rfl' _) (VLes.cons (VLe.slk g0.1 (aj.of_ok g0)) VLes.nil))))))) VLes.nil),rfl, @Kr _ (ar.mk a1 (aq.mk a2 a3) a4 a5 (lst dGExpr n7 e8)) _ (bF.2 ⟨y,hy,L3 y⟩)⟩
  · cases h
end
noncomputable abbrev oe : Nat → zH
  | 0 => ⟨fun _ => none,rg⟩
  | n + 1 => ⟨@mh (oe n), @yG (oe n)⟩
noncomputable def oN (e_1 : ar) : Option (Int) := mC fun n => (oe n).F e_1
noncomputable def uB := (kE jH iB (0 : Int) (fun a => oN a))
theorem zx : br Try.prog 34 uB := tu (F := fun n (a : ar) => (oe n).F  a) fun n => (oe n).ok
noncomputable abbrev Qj : FE Try.prog := ⟨34, .pure uB,zx⟩
end Go.Ax
