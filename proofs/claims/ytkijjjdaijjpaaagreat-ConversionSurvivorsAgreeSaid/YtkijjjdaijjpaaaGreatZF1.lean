import Derived.Test.YtkijjjdaijjpaaaGreatZA9
import Derived.Test.YtkijjjdaijjpaaaGreatZLay
import Derived.Test.YtkijjjdaijjpaaaGreatZA11
import Derived.Test.YtkijjjdaijjpaaaGreatRows
/- Types of the program, and functions of it: printed by a program, checked by the kernel. -/
set_option linter.all false
set_option maxRecDepth 100000
namespace Go.Ax
open Go.Proofs Go.Proofs.YtkijjjdaijjpaaaGreat
theorem mixed : Tryz.prog.follows .mixedOrders = true := by kernel_rfl
theorem bj (x : Int) : cC (cP x) = x := rfl
theorem HK (x : Int) (d : D) (h : d ∈ cP x) : d.scal = true := by
  simp only [cP,List.mem_singleton] at h; subst h; rfl
theorem bz (x : Int) : cQ (fX x) = x := rfl
theorem xh (x : Int) (d : D) (h : d ∈ fX x) : d.scal = true := by
  simp only [fX,List.mem_singleton] at h; subst h; rfl
structure ax where
  Issuer : Int
  Number : Int
  Version : Int
  Withdrawn : Bool
  Person : Int
  Kind : Int
  State : Int
  Seat : Int
  From : Int
  Length : Int
  Share : Int
  Amount : Int
  Ref : Int
def eF : ax := ⟨(0 : Int),(0 : Int),(0 : Int),false,(0 : Int),(0 : Int),(0 : Int),(0 : Int),(0 : Int),(0 : Int),(0 : Int),(0 : Int),(0 : Int)⟩
def bD (x : ax) : List D := [(di x.Issuer),(di x.Number),(di x.Version),(db x.Withdrawn),(di x.Person),(di x.Kind),(di x.State),(di x.Seat),(di x.From),(di x.Length),(di x.Share),(di x.Amount),(di x.Ref)]
def d7 : List D → ax
  | [.lit (.int .i64 a1), .lit (.int .i64 a2), .lit (.int .i64 a3), .lit (.bool a4), .lit (.int .i64 a5), .lit (.int .i64 a6), .lit (.int .i64 a7), .lit (.int .i64 a8), .lit (.int .i64 a9), .lit (.int .i64 a10), .lit (.int .i64 a11), .lit (.int .i64 a12), .lit (.int .i64 a13)] => (ax.mk a1 a2 a3 a4 a5 a6 a7 a8 a9 a10 a11 a12 a13)
  | _ => eF
theorem fi (x : ax) : d7 (bD x) = x := rfl
structure ac where
  From : Int
  To : Int
def aF : ac := ⟨(0 : Int),(0 : Int)⟩
def ac.s_To (x : ac) (v : Int) : ac := ⟨x.From,v⟩
def bs (x : ac) : List D := [(di x.From),(di x.To)]
def cd : List D → ac
  | [.lit (.int .i64 a1), .lit (.int .i64 a2)] => (ac.mk a1 a2)
  | _ => aF
theorem aW (x : ac) : cd (bs x) = x := rfl
theorem lJ (x : ac) (d : D) (h : d ∈ bs x) : d.scal = true := by
  have : (bs x).all D.scal = true := rfl
  exact List.all_eq_true.1 this d h
structure aa where
  Issuer : Int
  Number : Int
  Version : Int
  Withdrawn : Bool
  Person : Int
  Kind : Int
  State : Int
  Span : ac
  Seat : Int
  Share : Int
  Currency : Int
  Amount : Int
  Ref : Int
def aw : aa := ⟨(0 : Int),(0 : Int),(0 : Int),false,(0 : Int),(0 : Int),(0 : Int),aF,(0 : Int),(0 : Int),(0 : Int),(0 : Int),(0 : Int)⟩
def aa.s_State (x : aa) (v : Int) : aa := ⟨x.Issuer,x.Number,x.Version,x.Withdrawn,x.Person,x.Kind,v,x.Span,x.Seat,x.Share,x.Currency,x.Amount,x.Ref⟩
def aa.s_Span (x : aa) (v : ac) : aa := ⟨x.Issuer,x.Number,x.Version,x.Withdrawn,x.Person,x.Kind,x.State,v,x.Seat,x.Share,x.Currency,x.Amount,x.Ref⟩
def aa.s_Seat (x : aa) (v : Int) : aa := ⟨x.Issuer,x.Number,x.Version,x.Withdrawn,x.Person,x.Kind,x.State,x.Span,v,x.Share,x.Currency,x.Amount,x.Ref⟩
def aa.s_Share (x : aa) (v : Int) : aa := ⟨x.Issuer,x.Number,x.Version,x.Withdrawn,x.Person,x.Kind,x.State,x.Span,x.Seat,v,x.Currency,x.Amount,x.Ref⟩
def aa.s_Currency (x : aa) (v : Int) : aa := ⟨x.Issuer,x.Number,x.Version,x.Withdrawn,x.Person,x.Kind,x.State,x.Span,x.Seat,x.Share,v,x.Amount,x.Ref⟩
def aa.s_Amount (x : aa) (v : Int) : aa := ⟨x.Issuer,x.Number,x.Version,x.Withdrawn,x.Person,x.Kind,x.State,x.Span,x.Seat,x.Share,x.Currency,v,x.Ref⟩
def aa.s_Ref (x : aa) (v : Int) : aa := ⟨x.Issuer,x.Number,x.Version,x.Withdrawn,x.Person,x.Kind,x.State,x.Span,x.Seat,x.Share,x.Currency,x.Amount,v⟩
def av (x : aa) : List D := [(di x.Issuer),(di x.Number),(di x.Version),(db x.Withdrawn),(di x.Person),(di x.Kind),(di x.State),(di x.Span.From),(di x.Span.To),(di x.Seat),(di x.Share),(di x.Currency),(di x.Amount),(di x.Ref)]
def aY : List D → aa
  | [.lit (.int .i64 a1), .lit (.int .i64 a2), .lit (.int .i64 a3), .lit (.bool a4), .lit (.int .i64 a5), .lit (.int .i64 a6), .lit (.int .i64 a7), .lit (.int .i64 a8), .lit (.int .i64 a9), .lit (.int .i64 a10), .lit (.int .i64 a11), .lit (.int .i64 a12), .lit (.int .i64 a13), .lit (.int .i64 a14)] => (aa.mk a1 a2 a3 a4 a5 a6 a7 (ac.mk a8 a9) a10 a11 a12 a13 a14)
  | _ => aw
theorem au (x : aa) : aY (av x) = x := rfl
theorem gg (x : aa) (d : D) (h : d ∈ av x) : d.scal = true := by
  have : (av x).all D.scal = true := rfl
  exact List.all_eq_true.1 this d h
structure af where
  Person : Int
  Kind : Int
  Days : Int
def bq : af := ⟨(0 : Int),(0 : Int),(0 : Int)⟩
def bp (x : af) : List D := [(di x.Person),(di x.Kind),(di x.Days)]
def iG : List D → af
  | [.lit (.int .i64 a1), .lit (.int .i64 a2), .lit (.int .i64 a3)] => (af.mk a1 a2 a3)
  | _ => bq
theorem cA (x : af) : iG (bp x) = x := rfl
theorem IF (x : af) (d : D) (h : d ∈ bp x) : d.scal = true := by
  have : (bp x).all D.scal = true := rfl
  exact List.all_eq_true.1 this d h
structure dC where
  hi : Int
  lo : Int
def If : dC := ⟨(0 : Int),(0 : Int)⟩
def ox (x : dC) : List D := [(.lit (.int .u64 x.hi)),(.lit (.int .u64 x.lo))]
def yU : List D → dC
  | [.lit (.int .u64 a1), .lit (.int .u64 a2)] => (dC.mk a1 a2)
  | _ => If
structure aR where
  Num : Int
  Den : Int
def bd : aR := ⟨(0 : Int),(0 : Int)⟩
def fh (x : aR) : List D := [(di x.Num),(di x.Den)]
theorem JZ (x : aR) (d : D) (h : d ∈ fh x) : d.scal = true := by
  have : (fh x).all D.scal = true := rfl
  exact List.all_eq_true.1 this d h
structure bh where
  Person : Int
  Amount : Int
def dB : bh := ⟨(0 : Int),(0 : Int)⟩
def bh.s_Amount (x : bh) (v : Int) : bh := ⟨x.Person,v⟩
def nF (x : bh) : List D := [(di x.Person),(di x.Amount)]
theorem Qu (x : bh) (d : D) (h : d ∈ nF x) : d.scal = true := by
  have : (nF x).all D.scal = true := rfl
  exact List.all_eq_true.1 this d h
structure ae where
  at_ : Int
  num : Int
  den : Int
def aK : ae := ⟨(0 : Int),(0 : Int),(0 : Int)⟩
def aU (x : ae) : List D := [(di x.at_),(di x.num),(di x.den)]
def bU : List D → ae
  | [.lit (.int .i64 a1), .lit (.int .i64 a2), .lit (.int .i64 a3)] => (ae.mk a1 a2 a3)
  | _ => aK
theorem bX (x : ae) : bU (aU x) = x := rfl
theorem nU (x : ae) (d : D) (h : d ∈ aU x) : d.scal = true := by
  have : (aU x).all D.scal = true := rfl
  exact List.all_eq_true.1 this d h
structure ay where
  State : Int
  Benefit : Int
  Currency : Int
  Independent : Int
  ProRata : Int
  Deducted : Int
  Amount : Int
def cF : ay := ⟨(0 : Int),(0 : Int),(0 : Int),(0 : Int),(0 : Int),(0 : Int),(0 : Int)⟩
def ay.s_Amount (x : ay) (v : Int) : ay := ⟨x.State,x.Benefit,x.Currency,x.Independent,x.ProRata,x.Deducted,v⟩
def fg (x : ay) : List D := [(di x.State),(di x.Benefit),(di x.Currency),(di x.Independent),(di x.ProRata),(di x.Deducted),(di x.Amount)]
def jQ : List D → ay
  | [.lit (.int .i64 a1), .lit (.int .i64 a2), .lit (.int .i64 a3), .lit (.int .i64 a4), .lit (.int .i64 a5), .lit (.int .i64 a6), .lit (.int .i64 a7)] => (ay.mk a1 a2 a3 a4 a5 a6 a7)
  | _ => cF
theorem oe (x : ay) : jQ (fg x) = x := rfl
theorem UL (x : ay) (d : D) (h : d ∈ fg x) : d.scal = true := by
  have : (fg x).all D.scal = true := rfl
  exact List.all_eq_true.1 this d h
abbrev ef (l : List Int) : Nat → List D := bf cP (0 : Int) l
abbrev f5 (l : List Int) : V := .c (.sl 1 l.length (bf cP (0 : Int) l))
abbrev dO (o t : Nat) (l : List Int) : Nat × Option Ob := (o,some (.row t 1 l.length (bf cP (0 : Int) l)))
abbrev p7 (l : List Int) : Prop := bk cP cC 1 1 l.length (bf cP (0 : Int) l)
abbrev RG : AC (List Int) := aL cP cC (0 : Int) 1
abbrev ju (l : List Int) : Nat → List D := bf fX (0 : Int) l
abbrev sU8 (l : List Int) : V := .c (.sl 1 l.length (bf fX (0 : Int) l))
abbrev iL (o t : Nat) (l : List Int) : Nat × Option Ob := (o,some (.row t 1 l.length (bf fX (0 : Int) l)))
abbrev oB (l : List Int) : Prop := bk fX cQ 1 1 l.length (bf fX (0 : Int) l)
abbrev uU8 : AC (List Int) := aL fX cQ (0 : Int) 1
abbrev Qb (l : List Bool) : Nat → List D := bf Xe false l
abbrev cw (o t : Nat) (l : List Bool) : Nat × Option Ob := (o,some (.row t 1 l.length (bf Xe false l)))
abbrev EN (l : List ax) : Nat → List D := bf bD eF l
abbrev fG (l : List ax) : V := .c (.sl 13 l.length (bf bD eF l))
abbrev EQ (l : List ax) : Prop := bk bD d7 13 13 l.length (bf bD eF l)
abbrev vU : AC (List ax) := aL bD d7 eF 13
def o6 : List D → Bool
  | [.lit (.int .i64 _), .lit (.int .i64 _), .lit (.int .i64 _), .lit (.bool _), .lit (.int .i64 _), .lit (.int .i64 _), .lit (.int .i64 _), .lit (.int .i64 _), .lit (.int .i64 _), .lit (.int .i64 _), .lit (.int .i64 _), .lit (.int .i64 _), .lit (.int .i64 _)] => true
  | _ => false
theorem DV (ds : List D) (h : o6 ds = true) : bD (d7 ds) = ds := by
  unfold o6 at h
  split at h
  · rfl
  · cases h
abbrev Fs : AC ax := aG o6 bD d7 DV
abbrev cx (l : List ac) : Nat → List D := bf bs aF l
abbrev cr (l : List ac) : V := .c (.sl 2 l.length (bf bs aF l))
abbrev bn (o t : Nat) (l : List ac) : Nat × Option Ob := (o,some (.row t 2 l.length (bf bs aF l)))
abbrev mE (l : List ac) : Prop := bk bs cd 2 2 l.length (bf bs aF l)
abbrev lF : AC (List ac) := aL bs cd aF 2
def Nu : List D → Bool
  | [.lit (.int .i64 _), .lit (.int .i64 _)] => true
  | _ => false
theorem Yj (ds : List D) (h : Nu ds = true) : bs (cd ds) = ds := by
  unfold Nu at h
  split at h
  · rfl
  · cases h
abbrev AA : AC ac := aG Nu bs cd Yj
abbrev be (l : List aa) : Nat → List D := bf av aw l
abbrev aH (l : List aa) : V := .c (.sl 14 l.length (bf av aw l))
abbrev aC (o t : Nat) (l : List aa) : Nat × Option Ob := (o,some (.row t 14 l.length (bf av aw l)))
abbrev lD (l : List aa) : Prop := bk av aY 14 14 l.length (bf av aw l)
abbrev gy : AC (List aa) := aL av aY aw 14
def MH : List D → Bool
  | [.lit (.int .i64 _), .lit (.int .i64 _), .lit (.int .i64 _), .lit (.bool _), .lit (.int .i64 _), .lit (.int .i64 _), .lit (.int .i64 _), .lit (.int .i64 _), .lit (.int .i64 _), .lit (.int .i64 _), .lit (.int .i64 _), .lit (.int .i64 _), .lit (.int .i64 _), .lit (.int .i64 _)] => true
  | _ => false
theorem aad (ds : List D) (h : MH ds = true) : av (aY ds) = ds := by
  unfold MH at h
  split at h
  · rfl
  · cases h
abbrev kK : AC aa := aG MH av aY aad
abbrev eZ (l : List af) : Nat → List D := bf bp bq l
abbrev aZ (l : List af) : V := .c (.sl 3 l.length (bf bp bq l))
abbrev cI (o t : Nat) (l : List af) : Nat × Option Ob := (o,some (.row t 3 l.length (bf bp bq l)))
abbrev Jw (l : List af) : Prop := bk bp iG 3 3 l.length (bf bp bq l)
abbrev Bh : AC (List af) := aL bp iG bq 3
def sF : List D → Bool
  | [.lit (.int .u64 _), .lit (.int .u64 _)] => true
  | _ => false
theorem Hw (ds : List D) (h : sF ds = true) : ox (yU ds) = ds := by
  unfold sF at h
  split at h
  · rfl
  · cases h
abbrev zB : AC dC := aG sF ox yU Hw
abbrev Q8 (l : List aR) : Nat → List D := bf fh bd l
abbrev mY (l : List aR) : V := .c (.sl 2 l.length (bf fh bd l))
abbrev pK (o t : Nat) (l : List aR) : Nat × Option Ob := (o,some (.row t 2 l.length (bf fh bd l)))
abbrev T1 (l : List bh) : Nat → List D := bf nF dB l
abbrev ahQ (l : List bh) : V := .c (.sl 2 l.length (bf nF dB l))
abbrev nM (o t : Nat) (l : List bh) : Nat × Option Ob := (o,some (.row t 2 l.length (bf nF dB l)))
abbrev qI (l : List ae) : Nat → List D := bf aU aK l
abbrev bv (o t : Nat) (l : List ae) : Nat × Option Ob := (o,some (.row t 3 l.length (bf aU aK l)))
abbrev qO (l : List ae) : Prop := bk aU bU 3 3 l.length (bf aU aK l)
abbrev Ru (l : List ay) : Nat → List D := bf fg cF l
abbrev cO (l : List ay) : V := .c (.sl 7 l.length (bf fg cF l))
abbrev F3 (o t : Nat) (l : List ay) : Nat × Option Ob := (o,some (.row t 7 l.length (bf fg cF l)))
abbrev WI (l : List ay) : Prop := bk fg jQ 7 7 l.length (bf fg cF l)
abbrev ajX : AC (List ay) := aL fg jQ cF 7
def My : List D → Bool
  | [.lit (.int .i64 _), .lit (.int .i64 _), .lit (.int .i64 _), .lit (.int .i64 _), .lit (.int .i64 _), .lit (.int .i64 _), .lit (.int .i64 _)] => true
  | _ => false
theorem TK (ds : List D) (h : My ds = true) : fg (jQ ds) = ds := by
  unfold My at h
  split at h
  · rfl
  · cases h
abbrev Xm : AC ay := aG My fg jQ TK
abbrev XZ : AC ay := aP 7 My fg jQ TK
def xH (x : (List ac)) : List D := [(.sl 2 x.length (cx x))]
def xx : List D → (List ac)
  | [.sl _ n e] => (lst cd n e)
  | _ => []
theorem wq (x : (List ac)) : xx (xH x) = x := by
  simp only [xH,xx,ai.lst aW (ai.ls bs aF _)]
abbrev jt (l : List (List ac)) : V := .c (.sl 1 l.length (bf xH ([] : List ac) l))
abbrev Vh : AC (List (List ac)) := aL xH xx ([] : List ac) 1
noncomputable def akN : List Code := aD (ar Tryz.f8)
def Ma (x_1 : Int) : bS := .data (i64 x_1)
def z8R (x_1 : Int) : St := ⟨[sv 4 (i64 x_1)],[],0⟩
def ajS (n m : Int) : St := ⟨[sv 0 (i64 n),sv 1 (i64 m)],[],0⟩
noncomputable def sR (n m : Int) : Option (Int) := gd (m ≠ 0) ((bif (decide ((Int.tmod n m) < 0)) then (some (ak ((Int.tmod n m) + m))) else (some (Int.tmod n m))))
theorem ahD {n m : Int} {K : KT} (h : W (sR n m) (rE z8R K)) : ah Tryz.prog 15 (List.drop 0 akN) K (ajS n m) :=
  ah.qE mixed [] [4] 0 6 (.nx (fun K => (m ≠ 0) ∧ ((bif (decide ((Int.tmod n m) < 0)) then wK K .ret (z8R (ak ((Int.tmod n m) + m))) else wK K .ret (z8R (Int.tmod n m))))) (bF h fun _ h => (al h (fun _ h => (l0 h)) (fun _ h => (l0 h)))))
noncomputable def ap (n m : Int) : Option (Int) := sR n m
noncomputable def GS : bW := fK (aI .i64) (aI .i64) ap (0 : Int) Ma
theorem NE : Meets Tryz.prog 8 GS := dp Tryz.f8 (ar Tryz.f8) [.tmp 4] 15 fun u0 u1 y h => @ahD u0 u1 _ (bi.2 ⟨y,h,(cH (i64 y) (VLe.rfl' _))⟩)
noncomputable abbrev e8 : FE Tryz.prog := ⟨8, .pure GS,NE⟩
noncomputable def aj6 : List Code := aD (ar Tryz.f14)
def LU (x_1 : Int) : bS := .data (i64 x_1)
def VP (x_1 : Int) : St := ⟨[sv 4 (i64 x_1)],[],0⟩
def agF (n : (List Int)) (i_1 : Int) : St := ⟨[sv 0 (f5 n),sv 1 (i64 i_1)],[],0⟩
noncomputable def sw (n : (List Int)) (i_1 : Int) : Option (Int) := (bif ((n.length : Int) == 0) then (some 0) else (ap i_1 (n.length : Int)).bind fun r_1 => (gd (0 ≤ r_1 ∧ r_1 < (n.length : Int)) ((some (n.getD (Int.toNat r_1) (0 : Int))))))
theorem aey {n : (List Int)} {i_1 : Int} {K : KT} (h : W (sw n i_1) (rE VP K)) : ah Tryz.prog 15 (List.drop 0 aj6) K (agF n i_1) :=
  ah.qE mixed [e8] [4] 0 5 (.nx (fun K => let a1_ := ap i_1 (n.length : Int); (bif ((n.length : Int) == 0) then wK K .ret (VP 0) else (a1_.isSome = true) ∧ (0 ≤ (a1_.getD 0)) ∧ ((a1_.getD 0) < (n.length : Int)) ∧ (wK K .ret (VP (n.getD (Int.toNat (a1_.getD 0)) (0 : Int)))))) (al h (fun _ h => (l0 h)) (fun _ h => (aq 0 h fun _ h => (aT h fun _ h => (l0 h))))))
noncomputable def aX (n : (List Int)) (i_1 : Int) : Option (Int) := sw n i_1
noncomputable def Gr : bW := fK RG (aI .i64) aX (0 : Int) LU
theorem Ni : Meets Tryz.prog 14 Gr := dp Tryz.f14 (ar Tryz.f14) [.tmp 4] 15 fun u0 u1 y h => @aey u0 u1 _ (bi.2 ⟨y,h,(cH (i64 y) (VLe.rfl' _))⟩)
noncomputable abbrev WQ : FE Tryz.prog := ⟨14, .pure Gr,Ni⟩
noncomputable def zN : List Code := aD (ar Tryz.f6)
noncomputable def NZ : List Code := aD (aj (aj (aQ zN 3)))
def KC (x_1 : (List aa)) : bS := .own true 38 14 (x_1).length (bf av aw x_1)
def Xp (x_1 : (List aa)) : St := ⟨[sv 2 (.row 0 14 0 x_1.length)],[(aC 0 38 x_1)],1⟩
def CZ (n : (List Int)) (s : ((List aa) × Int)) : St := match s with | (out_2,p_1) => ⟨[sv 0 (f5 n),sv 3 (.row 0 14 0 out_2.length),sv 4 (i64 p_1)],[(aC 0 38 out_2)],1⟩
def ah5 (n : (List Int)) (s : (List aa)) : St := match s with | out_4 => ⟨[sv 0 (f5 n),sv 3 (.row 0 14 0 out_4.length)],[(aC 0 38 out_4)],1⟩
def zg (n : (List Int)) (r : (((List aa)))) (K : KT) : Prop := match r with | s => K (.exit 0) (ah5 n s)
def ajV (n : (List Int)) (out_1 : (List aa)) (p_3 : Int) : St := ⟨[sv 0 (f5 n),sv 3 (.row 0 14 0 out_1.length),sv 4 (i64 p_3)],[(aC 0 38 out_1)],1⟩
noncomputable def wj (n : (List Int)) (out_1 : (List aa)) (p_3 : Int) : Option (((List aa) × Int) ⊕ (((List aa)))) := (some (Sum.inl (out_1,(ak (p_3 + 1)))))
theorem agR {n : (List Int)} {out_1 : (List aa)} {p_3 : Int} {K : KT} (h : W (wj n out_1 p_3) (nE (CZ n) (zg n) K)) : ah Tryz.prog 163 (List.drop 3 NZ) K (ajV n out_1 p_3) :=
  ah.qE mixed [] [0,3,4] 3 1 (.nx (fun K => wK K .normal (CZ n (out_1,(ak (p_3 + 1))))) (l0 h))
def Rj (n : (List Int)) (out_3 : (List aa)) (p_2 : Int) : St := ⟨[sv 0 (f5 n),sv 3 (.row 0 14 0 out_3.length),sv 4 (i64 p_2)],[(aC 0 38 out_3)],1⟩
noncomputable def qT (n : (List Int)) (out_3 : (List aa)) (p_2 : Int) : Option (((List aa) × Int) ⊕ (((List aa)))) := (aX n p_2).bind fun r_1 => ((ap r_1 3).bind fun r_2 => ((aX n (ak (p_2 + 2))).bind fun r_3 => ((ap r_3 3).bind fun r_4 => ((aX n (ak (p_2 + 4))).bind fun r_5 => ((ap r_5 6000).bind fun r_6 => ((aX n (ak (p_2 + 6))).bind fun r_7 => ((ap r_7 3000).bind fun r_8 => (gd (cL (out_3.length + 1) 112) (gd (cL ((out_3.length + 1) + 1) 112) ((aX n (ak (p_2 + 8))).bind fun r_9 => ((ap r_9 900000).bind fun r_10 => (gd (cL (((out_3.length + 1) + 1) + 1) 112) ((aX n (ak (p_2 + 10))).bind fun r_11 => ((ap r_11 3000).bind fun r_12 => ((aX n (ak (p_2 + 12))).bind fun r_13 => ((ap r_13 900000).bind fun r_14 => (gd (cL ((((out_3.length + 1) + 1) + 1) + 1) 112) (gd (cL (((((out_3.length + 1) + 1) + 1) + 1) + 1) 112) (gd (cL ((((((out_3.length + 1) + 1) + 1) + 1) + 1) + 1) 112) ((wj n ((((((out_3 ++ ([(aa.mk r_2 (ak (900 + p_2)) 1 false p_2 11 0 (ac.mk (ak (13000 + r_8)) (ak ((ak (13000 + r_8)) + 1))) 0 0 0 0 0)] : List aa)) ++ ([(aa.mk r_2 (ak (910 + p_2)) 1 false p_2 5 r_2 (ac.mk 20000 60000) 0 0 0 0 0)] : List aa)) ++ ([(aa.mk r_2 (ak (920 + p_2)) 1 false p_2 1 r_2 (ac.mk 22000 (ak (27000 + r_6))) r_2 100 (ak (1 + r_2)) (ak (900000 + r_10)) 0)] : List aa)) ++ ([(aa.mk r_4 (ak (930 + p_2)) 1 false p_2 1 r_4 (ac.mk (ak (27000 + r_6)) (ak (34400 + r_12))) r_4 50 (ak (1 + r_4)) (ak (700000 + r_14)) 0)] : List aa)) ++ ([(aa.mk r_2 (ak (940 + p_2)) 1 false p_2 10 r_2 (ac.mk 32000 38500) 0 0 0 0 3)] : List aa)) ++ ([(aa.mk r_2 (ak (950 + p_2)) 1 false p_2 14 0 (ac.mk 26000 50000) 0 0 0 0 (ak (3 - p_2)))] : List aa)) p_2)))))))))))))))))))))
theorem ahq (n : (List Int)) (out_3 : (List aa)) (p_2 : Int) (K : KT) {L1_ : List Int} (hL1_ : lst cC n.length (ef n) = L1_) {L2_ : List Int} (hL2_ : lst cC n.length (ef n) = L2_) {L3_ : List Int} (hL3_ : lst cC n.length (ef n) = L3_) {L4_ : List Int} (hL4_ : lst cC n.length (ef n) = L4_) {L5_ : List Int} (hL5_ : lst cC n.length (ef n) = L5_) {L6_ : List Int} (hL6_ : lst cC n.length (ef n) = L6_) {L7_ : List Int} (hL7_ : lst cC n.length (ef n) = L7_) :
    ev Tryz.prog (cy [e8,WQ]) 163 (ofItems ((List.drop 2 NZ).take 1)) (cN [0,3,4] K) (Rj n out_3 p_2) =
    (let a7_ := out_3.length + 1; let a1_ := a7_ + 1; let a2_ := (ap ((aX L1_ p_2).getD 0) 3).getD 0; let a3_ := ap ((aX L2_ (ak (p_2 + 2))).getD 0) 3; let a4_ := ((a1_ + 1) + 1) + 1; let a5_ := ap ((aX L3_ (ak (p_2 + 4))).getD 0) 6000; let a6_ := ap ((aX L4_ (ak (p_2 + 6))).getD 0) 3000; let a8_ := aX L6_ (ak (p_2 + 10)); let a9_ := aX L7_ (ak (p_2 + 12)); let a10_ := ap ((aX L5_ (ak (p_2 + 8))).getD 0) 900000; let a11_ := ap (a9_.getD 0) 900000; (p7 n) ∧ ((aX L1_ p_2).isSome = true) ∧ ((ap ((aX L1_ p_2).getD 0) 3).isSome = true) ∧ (p7 n) ∧ ((aX L2_ (ak (p_2 + 2))).isSome = true) ∧ (a3_.isSome = true) ∧ ((p7 n) ∧ ((aX L3_ (ak (p_2 + 4))).isSome = true) ∧ (a5_.isSome = true) ∧ ((p7 n) ∧ ((aX L4_ (ak (p_2 + 6))).isSome = true) ∧ (a6_.isSome = true) ∧ ((out_3.length = out_3.length) ∧ (a7_ * 112 ≤ 140737488355328) ∧ (a7_ ≤ 140737488355328) ∧ ((a7_ = a7_) ∧ (a1_ * 112 ≤ 140737488355328) ∧ (a1_ ≤ 140737488355328) ∧ ((p7 n) ∧ ((aX L5_ (ak (p_2 + 8))).isSome = true) ∧ (a10_.isSome = true) ∧ (a1_ = a1_) ∧ ((a1_ + 1) * 112 ≤ 140737488355328) ∧ ((a1_ + 1) ≤ 140737488355328) ∧ ((p7 n) ∧ (a8_.isSome = true) ∧ ((ap (a8_.getD 0) 3000).isSome = true) ∧ (p7 n) ∧ (a9_.isSome = true) ∧ (a11_.isSome = true) ∧ ((a1_ + 1) = (a1_ + 1)) ∧ (((a1_ + 1) + 1) * 112 ≤ 140737488355328) ∧ (((a1_ + 1) + 1) ≤ 140737488355328) ∧ ((((a1_ + 1) + 1) = ((a1_ + 1) + 1)) ∧ (a4_ * 112 ≤ 140737488355328) ∧ (a4_ ≤ 140737488355328) ∧ ((a4_ = a4_) ∧ ((a4_ + 1) * 112 ≤ 140737488355328) ∧ ((a4_ + 1) ≤ 140737488355328) ∧ (wK K .normal (⟨[sv 0 (f5 n),sv 3 (.row 0 14 0 (a4_ + 1)),sv 4 (i64 p_2)],[(0,some (.row 38 14 (a4_ + 1) (fun i => bif Nat.blt i a4_ then (fun i => bif Nat.blt i ((a1_ + 1) + 1) then (fun i => bif Nat.blt i (a1_ + 1) then (fun i => bif Nat.blt i a1_ then (fun i => bif Nat.blt i a7_ then (fun i => bif Nat.blt i out_3.length then (be out_3) i else (fun i => (dw 14 (av (aa.mk a2_ (ak (900 + p_2)) 1 false p_2 11 0 (ac.mk (ak (13000 + (a6_.getD 0))) (ak ((ak (13000 + (a6_.getD 0))) + 1))) 0 0 0 0 0))) (0 + i)) (i - out_3.length)) i else (fun i => (dw 14 (av (aa.mk a2_ (ak (910 + p_2)) 1 false p_2 5 a2_ (ac.mk 20000 60000) 0 0 0 0 0))) (0 + i)) (i - a7_)) i else (fun i => (dw 14 (av (aa.mk a2_ (ak (920 + p_2)) 1 false p_2 1 a2_ (ac.mk 22000 (ak (27000 + (a5_.getD 0)))) a2_ 100 (ak (1 + a2_)) (ak (900000 + (a10_.getD 0))) 0))) (0 + i)) (i - a1_)) i else (fun i => (dw 14 (av (aa.mk (a3_.getD 0) (ak (930 + p_2)) 1 false p_2 1 (a3_.getD 0) (ac.mk (ak (27000 + (a5_.getD 0))) (ak (34400 + ((ap (a8_.getD 0) 3000).getD 0)))) (a3_.getD 0) 50 (ak (1 + (a3_.getD 0))) (ak (700000 + (a11_.getD 0))) 0))) (0 + i)) (i - (a1_ + 1))) i else (fun i => (dw 14 (av (aa.mk a2_ (ak (940 + p_2)) 1 false p_2 10 a2_ (ac.mk 32000 38500) 0 0 0 0 3))) (0 + i)) (i - ((a1_ + 1) + 1))) i else (fun i => (dw 14 (av (aa.mk a2_ (ak (950 + p_2)) 1 false p_2 14 0 (ac.mk 26000 50000) 0 0 0 0 (ak (3 - p_2))))) (0 + i)) (i - a4_))))],1⟩))))))))))) := by subst hL1_ hL2_ hL3_ hL4_ hL5_ hL6_ hL7_; kernel_rfl
theorem ajn {n : (List Int)} {out_3 : (List aa)} {p_2 : Int} {K : KT} (h : W (qT n out_3 p_2) (nE (CZ n) (zg n) K)) : ah Tryz.prog 163 (List.drop 2 NZ) K (Rj n out_3 p_2) :=
  ah.qD mixed [e8,WQ] [0,3,4] 2 1 3 (.of (ahq n out_3 p_2 _ (lb bj) (lb bj) (lb bj) (lb bj) (lb bj) (lb bj) (lb bj)) (⟨kb bj,(aq 0 h fun _ h => (aq 0 h fun _ h => ⟨kb bj,(aq 0 h fun _ h => (aq 0 h fun _ h => ⟨kb bj,(aq 0 h fun _ h => (aq 0 h fun _ h => ⟨kb bj,(aq 0 h fun _ h => (aq 0 h fun _ h => ⟨rfl,(aT h fun _ h => ⟨rfl,(aT h fun _ h => ⟨kb bj,(aq 0 h fun _ h => (aq 0 h fun _ h => ⟨rfl,(aT h fun _ h => ⟨kb bj,(aq 0 h fun _ h => (aq 0 h fun _ h => ⟨kb bj,(aq 0 h fun _ h => (aq 0 h fun _ h => ⟨rfl,(aT h fun _ h => ⟨rfl,(aT h fun _ h => ⟨rfl,(aT h fun _ h => (lf (agR h) (.of (.q rfl (.cons rfl (.rown (ce (ce (ce (ce (ce (ce rfl rfl) rfl) rfl) rfl) rfl) rfl)) (.q rfl .nil))) (.row rfl (ai.app (ai.app (ai.app (ai.app (ai.app (ai.app .b (ai.zero (ai.l1 (enc := av) (z := aw) 14 (aa.mk ((ap ((aX n p_2).getD 0) 3).getD 0) (ak (900 + p_2)) 1 false p_2 11 0 (ac.mk (ak (13000 + ((ap ((aX n (ak (p_2 + 6))).getD 0) 3000).getD 0))) (ak ((ak (13000 + ((ap ((aX n (ak (p_2 + 6))).getD 0) 3000).getD 0))) + 1))) 0 0 0 0 0) rfl))) (ai.zero (ai.l1 (enc := av) (z := aw) 14 (aa.mk ((ap ((aX n p_2).getD 0) 3).getD 0) (ak (910 + p_2)) 1 false p_2 5 ((ap ((aX n p_2).getD 0) 3).getD 0) (ac.mk 20000 60000) 0 0 0 0 0) rfl))) (ai.zero (ai.l1 (enc := av) (z := aw) 14 (aa.mk ((ap ((aX n p_2).getD 0) 3).getD 0) (ak (920 + p_2)) 1 false p_2 1 ((ap ((aX n p_2).getD 0) 3).getD 0) (ac.mk 22000 (ak (27000 + ((ap ((aX n (ak (p_2 + 4))).getD 0) 6000).getD 0)))) ((ap ((aX n p_2).getD 0) 3).getD 0) 100 (ak (1 + ((ap ((aX n p_2).getD 0) 3).getD 0))) (ak (900000 + ((ap ((aX n (ak (p_2 + 8))).getD 0) 900000).getD 0))) 0) rfl))) (ai.zero (ai.l1 (enc := av) (z := aw) 14 (aa.mk ((ap ((aX n (ak (p_2 + 2))).getD 0) 3).getD 0) (ak (930 + p_2)) 1 false p_2 1 ((ap ((aX n (ak (p_2 + 2))).getD 0) 3).getD 0) (ac.mk (ak (27000 + ((ap ((aX n (ak (p_2 + 4))).getD 0) 6000).getD 0))) (ak (34400 + ((ap ((aX n (ak (p_2 + 10))).getD 0) 3000).getD 0)))) ((ap ((aX n (ak (p_2 + 2))).getD 0) 3).getD 0) 50 (ak (1 + ((ap ((aX n (ak (p_2 + 2))).getD 0) 3).getD 0))) (ak (700000 + ((ap ((aX n (ak (p_2 + 12))).getD 0) 900000).getD 0))) 0) rfl))) (ai.zero (ai.l1 (enc := av) (z := aw) 14 (aa.mk ((ap ((aX n p_2).getD 0) 3).getD 0) (ak (940 + p_2)) 1 false p_2 10 ((ap ((aX n p_2).getD 0) 3).getD 0) (ac.mk 32000 38500) 0 0 0 0 3) rfl))) (ai.zero (ai.l1 (enc := av) (z := aw) 14 (aa.mk ((ap ((aX n p_2).getD 0) 3).getD 0) (ak (950 + p_2)) 1 false p_2 14 0 (ac.mk 26000 50000) 0 0 0 0 (ak (3 - p_2))) rfl))) .nil rfl) rfl)))⟩)⟩)⟩))⟩))⟩)⟩))⟩)⟩)⟩))⟩))⟩))⟩))⟩))
def ajs (n : (List Int)) (out_2 : (List aa)) (p_1 : Int) : St := ⟨[sv 0 (f5 n),sv 3 (.row 0 14 0 out_2.length),sv 4 (i64 p_1)],[(aC 0 38 out_2)],1⟩
noncomputable def Dr (n : (List Int)) (out_2 : (List aa)) (p_1 : Int) : Option (((List aa) × Int) ⊕ (((List aa)))) := (bif (decide (p_1 ≤ 2)) then (qT n out_2 p_1) else (some (Sum.inr out_2)))
theorem aiw {n : (List Int)} {out_2 : (List aa)} {p_1 : Int} {K : KT} (h : W (Dr n out_2 p_1) (nE (CZ n) (zg n) K)) : ah Tryz.prog 163 (List.drop 0 NZ) K (ajs n out_2 p_1) :=
  ah.qD mixed [] [0,3,4] 0 2 2 (.nx (fun K => (bif (decide (p_1 ≤ 2)) then wK K .normal (Rj n out_2 p_1) else wK K (.exit 0) (⟨[sv 0 (f5 n),sv 3 (.row 0 14 0 out_2.length),sv 4 (i64 p_1)],[(aC 0 38 out_2)],1⟩))) (al h (fun _ h => (l0 (ajn h))) (fun _ h => (lf h (.cn [0,3])))))
noncomputable def fQ (n : (List Int)) (s : ((List aa) × Int)) : Option (((List aa) × Int) ⊕ (((List aa)))) := match s with | (out_2,p_1) => Dr n out_2 p_1
theorem ahg (n : (List Int)) (s : ((List aa) × Int)) : Pp Tryz.prog 163 (List.drop 0 NZ) (CZ n s) (fQ n s) (cq (CZ n) (zg n)) := fun K h => match s,h with | (out_2,p_1),h => (aiw h)
theorem Uf (n : (List Int)) : ∀ (r : (((List aa)))) (J : St → Prop) (K : KT),zg n r K → zg n r (aM J K)
  | s,_,_,h => h
def PJ (n : (List Int)) (out_4 : (List aa)) : St := ⟨[sv 0 (f5 n),sv 3 (.row 0 14 0 out_4.length)],[(aC 0 38 out_4)],1⟩
noncomputable def qQ (n : (List Int)) (out_4 : (List aa)) : Option ((List aa)) := (aX n 15).bind fun r_15 => ((ap r_15 2000).bind fun r_16 => ((aX n 16).bind fun r_17 => ((ap r_17 2000).bind fun r_18 => (gd (cL (out_4.length + 1) 112) ((aX n 17).bind fun r_19 => ((ap r_19 900).bind fun r_20 => ((aX n 17).bind fun r_21 => ((ap r_21 900).bind fun r_22 => (gd (cL ((out_4.length + 1) + 1) 112) ((aX n 18).bind fun r_23 => ((ap r_23 1200).bind fun r_24 => ((aX n 19).bind fun r_25 => ((ap r_25 300).bind fun r_26 => (gd (cL (((out_4.length + 1) + 1) + 1) 112) ((some (((out_4 ++ ([(aa.mk 0 961 1 false 1 13 0 (ac.mk (ak (34000 + r_16)) (ak (36500 + r_18))) 0 0 0 0 0)] : List aa)) ++ ([(aa.mk 1 962 1 false 2 12 0 (ac.mk (ak (35600 + r_20)) (ak (35601 + r_22))) 0 0 0 0 0)] : List aa)) ++ ([(aa.mk 0 963 1 false 1 8 0 (ac.mk (ak (35000 + r_24)) (ak (36250 + r_26))) 0 0 0 0 0)] : List aa))))))))))))))))))
theorem ahS (n : (List Int)) (out_4 : (List aa)) (K : KT) {L1_ : List Int} (hL1_ : lst cC n.length (ef n) = L1_) {L2_ : List Int} (hL2_ : lst cC n.length (ef n) = L2_) {L3_ : List Int} (hL3_ : lst cC n.length (ef n) = L3_) {L4_ : List Int} (hL4_ : lst cC n.length (ef n) = L4_) {L5_ : List Int} (hL5_ : lst cC n.length (ef n) = L5_) {L6_ : List Int} (hL6_ : lst cC n.length (ef n) = L6_) :
    ev Tryz.prog (cy [e8,WQ]) 163 (ofItems ((List.drop 4 zN).take 5)) (cN [2] K) (PJ n out_4) =
    (let a1_ := out_4.length + 1; let a2_ := ap ((aX L1_ 15).getD 0) 2000; let a3_ := ap ((aX L2_ 16).getD 0) 2000; let a4_ := ap ((aX L5_ 18).getD 0) 1200; let a5_ := ap ((aX L3_ 17).getD 0) 900; let a6_ := ap ((aX L4_ 17).getD 0) 900; let a7_ := ap ((aX L6_ 19).getD 0) 300; (p7 n) ∧ ((aX L1_ 15).isSome = true) ∧ (a2_.isSome = true) ∧ (p7 n) ∧ ((aX L2_ 16).isSome = true) ∧ (a3_.isSome = true) ∧ (out_4.length = out_4.length) ∧ (a1_ * 112 ≤ 140737488355328) ∧ (a1_ ≤ 140737488355328) ∧ ((p7 n) ∧ ((aX L3_ 17).isSome = true) ∧ (a5_.isSome = true) ∧ (p7 n) ∧ ((aX L4_ 17).isSome = true) ∧ (a6_.isSome = true) ∧ (a1_ = a1_) ∧ ((a1_ + 1) * 112 ≤ 140737488355328) ∧ ((a1_ + 1) ≤ 140737488355328) ∧ ((p7 n) ∧ ((aX L5_ 18).isSome = true) ∧ (a4_.isSome = true) ∧ (p7 n) ∧ ((aX L6_ 19).isSome = true) ∧ (a7_.isSome = true) ∧ ((a1_ + 1) = (a1_ + 1)) ∧ (((a1_ + 1) + 1) * 112 ≤ 140737488355328) ∧ (((a1_ + 1) + 1) ≤ 140737488355328) ∧ (wK K .ret (⟨[sv 2 (.row 0 14 0 ((a1_ + 1) + 1))],[(0,some (.row 38 14 ((a1_ + 1) + 1) (fun i => bif Nat.blt i (a1_ + 1) then (fun i => bif Nat.blt i a1_ then (fun i => bif Nat.blt i out_4.length then (be out_4) i else (fun i => (dw 14 (av (aa.mk 0 961 1 false 1 13 0 (ac.mk (ak (34000 + (a2_.getD 0))) (ak (36500 + (a3_.getD 0)))) 0 0 0 0 0))) (0 + i)) (i - out_4.length)) i else (fun i => (dw 14 (av (aa.mk 1 962 1 false 2 12 0 (ac.mk (ak (35600 + (a5_.getD 0))) (ak (35601 + (a6_.getD 0)))) 0 0 0 0 0))) (0 + i)) (i - a1_)) i else (fun i => (dw 14 (av (aa.mk 0 963 1 false 1 8 0 (ac.mk (ak (35000 + (a4_.getD 0))) (ak (36250 + (a7_.getD 0)))) 0 0 0 0 0))) (0 + i)) (i - (a1_ + 1)))))],1⟩))))) := by subst hL1_ hL2_ hL3_ hL4_ hL5_ hL6_; kernel_rfl
theorem af1 {n : (List Int)} {out_4 : (List aa)} {K : KT} (h : W (qQ n out_4) (rE Xp K)) : ah Tryz.prog 163 (List.drop 4 zN) K (PJ n out_4) :=
  ah.qE mixed [e8,WQ] [2] 4 5 (.of (ahS n out_4 _ (lb bj) (lb bj) (lb bj) (lb bj) (lb bj) (lb bj)) (⟨kb bj,(aq 0 h fun _ h => (aq 0 h fun _ h => ⟨kb bj,(aq 0 h fun _ h => (aq 0 h fun _ h => ⟨rfl,(aT h fun _ h => ⟨kb bj,(aq 0 h fun _ h => (aq 0 h fun _ h => ⟨kb bj,(aq 0 h fun _ h => (aq 0 h fun _ h => ⟨rfl,(aT h fun _ h => ⟨kb bj,(aq 0 h fun _ h => (aq 0 h fun _ h => ⟨kb bj,(aq 0 h fun _ h => (aq 0 h fun _ h => ⟨rfl,(aT h fun _ h => (lf h (.of (.cons rfl (.rown (ce (ce (ce rfl rfl) rfl) rfl)) .nil) (.row rfl (ai.app (ai.app (ai.app .b (ai.zero (ai.l1 (enc := av) (z := aw) 14 (aa.mk 0 961 1 false 1 13 0 (ac.mk (ak (34000 + ((ap ((aX n 15).getD 0) 2000).getD 0))) (ak (36500 + ((ap ((aX n 16).getD 0) 2000).getD 0)))) 0 0 0 0 0) rfl))) (ai.zero (ai.l1 (enc := av) (z := aw) 14 (aa.mk 1 962 1 false 2 12 0 (ac.mk (ak (35600 + ((ap ((aX n 17).getD 0) 900).getD 0))) (ak (35601 + ((ap ((aX n 17).getD 0) 900).getD 0)))) 0 0 0 0 0) rfl))) (ai.zero (ai.l1 (enc := av) (z := aw) 14 (aa.mk 0 963 1 false 1 8 0 (ac.mk (ak (35000 + ((ap ((aX n 18).getD 0) 1200).getD 0))) (ak (36250 + ((ap ((aX n 19).getD 0) 300).getD 0)))) 0 0 0 0 0) rfl))) .nil rfl) rfl)))⟩))⟩))⟩)⟩))⟩))⟩)⟩))⟩))⟩))
def XK (n : (List Int)) : St := ⟨[sv 0 (f5 n),sv 3 (.c .nil),sv 4 (i64 1)],[],0⟩
noncomputable def sM (n : (List Int)) (r : (((List aa)))) : Option ((List aa)) := match r with | out_4 => (qQ n out_4)
noncomputable def DP (n : (List Int)) : Option ((List aa)) := (aN (fQ n) (([] : List aa),1)).bind (sM n)
theorem agj : List.drop 3 zN = .block 0 (.loop (aj (aj (aQ zN 3)))) :: List.drop 4 zN := by kernel_rfl
theorem ajT (n : (List Int)) (K : KT) : ∀ r : (((List aa))),W (sM n r) (rE Xp K) → zg n r (wK (bg 0 (aM (ah Tryz.prog 163 (List.drop 4 zN) K) K)))
  | out_4,h => ⟨(PJ n out_4),(.refl _),(af1 h)⟩
theorem ahA {n : (List Int)} {K : KT} (h : W (DP n) (rE Xp K)) : ah Tryz.prog 163 (List.drop 3 zN) K (XK n) :=
  ah.at_ agj (ah.cons_loop (aE.weak (aE.ent (.trans (.nilrow 3 0 38 14 (bf av aw []) (Nat.le_of_ble_eq_true rfl) rfl) (.cn [0,3,4])) (aE.loopF (x := aj (aj (aQ zN 3))) (f := fQ n) (emb := CZ n) (E := zg n) (ahg n) (Uf n) (bT h (ajT n K))))))
def ajL (n : (List Int)) : St := ⟨[sv 0 (f5 n)],[],0⟩
noncomputable def DI (n : (List Int)) : Option ((List aa)) := (DP n)
theorem ahI {n : (List Int)} {K : KT} (h : W (DI n) (rE Xp K)) : ah Tryz.prog 163 (List.drop 0 zN) K (ajL n) :=
  ah.qD mixed [] [0,3,4] 0 3 3 (.nx (fun K => wK K .normal (XK n)) (l0 (ahA h)))
noncomputable def cS (n : (List Int)) : Option ((List aa)) := DI n
noncomputable def EZ : bW := fO RG cS ([] : List aa) KC
theorem LW : Meets Tryz.prog 6 EZ := dq Tryz.f6 (ar Tryz.f6) [.tmp 2] 163 fun u0 y h => @ahI u0 _ (bi.2 ⟨y,h,(cH (.row 0 14 0 y.length) (⟨_,_,_,rfl,rfl,rfl,fun _ _ => rfl,fun _ i hi d hd => gg _ d hd⟩))⟩)
noncomputable abbrev e6 : FE Tryz.prog := ⟨6, .pure EZ,LW⟩
noncomputable def ajZ : List Code := aD (ar Tryz.f38)
def It (x_1 : Int) : bS := .data (i64 x_1)
def MP (x_1 : Int) : St := ⟨[sv 2 (i64 x_1)],[],0⟩
def aiS (n : Int) : St := ⟨[sv 0 (i64 n)],[],0⟩
noncomputable def pB (n : Int) : Option (Int) := (ap n 4).bind fun r_1 => ((bif (r_1 == 0) then (ap (ak (Int.tdiv n 4)) 9000).bind fun r_2 => ((some (ak (1 + r_2)))) else (bif (r_1 == 1) then (ap (ak (Int.tdiv n 4)) 1200).bind fun r_3 => ((some (ak (1 + r_3)))) else (bif (r_1 == 2) then (ap (ak (Int.tdiv n 4)) 120).bind fun r_4 => ((some (ak (1 + r_4)))) else (ap (ak (Int.tdiv n 4)) 12).bind fun r_5 => ((some (ak (1 + r_5))))))))
theorem ad6 {n : Int} {K : KT} (h : W (pB n) (rE MP K)) : ah Tryz.prog 27 (List.drop 0 ajZ) K (aiS n) :=
  ah.qE mixed [e8] [2] 0 5 (.nx (fun K => let a1_ := ak (Int.tdiv n 4); let a2_ := (ap n 4).getD 0; ((ap n 4).isSome = true) ∧ ((bif (a2_ == 0) then ((4 : Int) ≠ 0) ∧ ((ap a1_ 9000).isSome = true) ∧ (wK K .ret (MP (ak (1 + ((ap a1_ 9000).getD 0))))) else (bif (a2_ == 1) then ((4 : Int) ≠ 0) ∧ ((ap a1_ 1200).isSome = true) ∧ (wK K .ret (MP (ak (1 + ((ap a1_ 1200).getD 0))))) else (bif (a2_ == 2) then ((4 : Int) ≠ 0) ∧ ((ap a1_ 120).isSome = true) ∧ (wK K .ret (MP (ak (1 + ((ap a1_ 120).getD 0))))) else ((4 : Int) ≠ 0) ∧ ((ap a1_ 12).isSome = true) ∧ (wK K .ret (MP (ak (1 + ((ap a1_ 12).getD 0)))))))))) (aq 0 h fun _ h => (al h (fun _ h => ⟨(by decide),(aq 0 h fun _ h => (l0 h))⟩) (fun _ h => (al h (fun _ h => ⟨(by decide),(aq 0 h fun _ h => (l0 h))⟩) (fun _ h => (al h (fun _ h => ⟨(by decide),(aq 0 h fun _ h => (l0 h))⟩) (fun _ h => ⟨(by decide),(aq 0 h fun _ h => (l0 h))⟩))))))))
noncomputable def qy (n : Int) : Option (Int) := pB n
noncomputable def Dw : bW := fO (aI .i64) qy (0 : Int) It
theorem JL : Meets Tryz.prog 38 Dw := dq Tryz.f38 (ar Tryz.f38) [.tmp 2] 27 fun u0 y h => @ad6 u0 _ (bi.2 ⟨y,h,(cH (i64 y) (VLe.rfl' _))⟩)
noncomputable abbrev e38 : FE Tryz.prog := ⟨38, .pure Dw,JL⟩
noncomputable def ajB : List Code := aD (ar Tryz.f39)
def KJ (x_1 : ByteArray) : bS := .data (dh x_1)
def VF (x_1 : ByteArray) : St := ⟨[sv 2 (dh x_1)],[],0⟩
def ahR (kind : Int) : St := ⟨[sv 0 (i64 kind)],[],0⟩
noncomputable def ra (kind : Int) : Option (ByteArray) := (bif (bif (decide (kind < 1)) then true else (decide (15 ≤ kind))) then (some (aA [])) else gd (0 ≤ kind ∧ kind < ((15 : Nat) : Int)) ((some (([(aA []),(aA [83,80,84,72,67,65]),(aA [83,80,72,67,65]),(aA [83,80,72,67,65]),(aA [83,80,84]),(aA [83,80]),(aA [83,80,67,65]),(aA [83,80]),(aA [83,80]),(aA [83,80]),(aA [83,80,82]),(aA [80]),(aA [80]),(aA [80]),(aA [80,82])] : List ByteArray).getD (0 + (Int.toNat kind)) (aA [])))))
theorem aaV {kind : Int} {K : KT} (h : W (ra kind) (rE VF K)) : ah Tryz.prog 17 (List.drop 0 ajB) K (ahR kind) :=
  ah.qE mixed [] [2] 0 6 (.nx (fun K => (bif (bif (decide (kind < 1)) then true else (decide (15 ≤ kind))) then wK K .ret (VF (aA [])) else (0 ≤ kind) ∧ (kind < ((15 : Nat) : Int)) ∧ (wK K .ret (VF (([(aA []),(aA [83,80,84,72,67,65]),(aA [83,80,72,67,65]),(aA [83,80,72,67,65]),(aA [83,80,84]),(aA [83,80]),(aA [83,80,67,65]),(aA [83,80]),(aA [83,80]),(aA [83,80]),(aA [83,80,82]),(aA [80]),(aA [80]),(aA [80]),(aA [80,82])] : List ByteArray).getD (0 + (Int.toNat kind)) (aA [])))))) (al h (fun _ h => (l0 h)) (fun _ h => (aT h fun hx0 h => (l0 h)))))
noncomputable def eJ (kind : Int) : Option (ByteArray) := ra kind
noncomputable def ER : bW := fO (aI .i64) eJ (aA []) KJ
theorem Mc : Meets Tryz.prog 39 ER := dq Tryz.f39 (ar Tryz.f39) [.tmp 2] 17 fun u0 y h => @aaV u0 _ (bi.2 ⟨y,h,(cH (dh y) (VLe.rfl' _))⟩)
noncomputable abbrev Ud : FE Tryz.prog := ⟨39, .pure ER,Mc⟩
noncomputable def uF : List Code := aD (ar Tryz.f15)
noncomputable def Mk : List Code := aD (aj (aj (aQ uF 9)))
def L0 (x_1 : aa) : bS := .data (.agg [(i64 x_1.Issuer),(i64 x_1.Number),(i64 x_1.Version),(bl x_1.Withdrawn),(i64 x_1.Person),(i64 x_1.Kind),(i64 x_1.State),(i64 x_1.Span.From),(i64 x_1.Span.To),(i64 x_1.Seat),(i64 x_1.Share),(i64 x_1.Currency),(i64 x_1.Amount),(i64 x_1.Ref)])
def JU (x_1 : aa) : St := ⟨[sv 2 (.ptr 0 14 0 0)],[(0,some (.box [(i64 x_1.Issuer),(i64 x_1.Number),(i64 x_1.Version),(bl x_1.Withdrawn),(i64 x_1.Person),(i64 x_1.Kind),(i64 x_1.State),(i64 x_1.Span.From),(i64 x_1.Span.To),(i64 x_1.Seat),(i64 x_1.Share),(i64 x_1.Currency),(i64 x_1.Amount),(i64 x_1.Ref)]))],1⟩
def xS (from_1 to_1 : Int) (u : ByteArray) (r_1 : ax) (f : aa) (s : (Int × aa)) : St := match s with | (i_1,f_2) => ⟨[sv 1 (.ptr 0 13 0 0),sv 2 (.ptr 1 14 0 0),sv 3 (.ptr 2 14 0 0),sv 4 (i64 from_1),sv 5 (i64 to_1),sv 6 (dh u),sv 7 (i64 i_1)],[(0,some (.bx (bD r_1))),(1,some (.bx (av (aa.mk 0 0 0 false 0 0 0 (ac.mk 0 0) 0 0 0 0 0)))),(2,some (.bx (av f_2)))],3⟩
def Zu (from_1 to_1 : Int) (u : ByteArray) (r_1 : ax) (f : aa) (s : aa) : St := match s with | f_4 => ⟨[sv 2 (.ptr 0 14 0 0),sv 3 (.ptr 1 14 0 0)],[(0,some (.bx (av (aa.mk 0 0 0 false 0 0 0 (ac.mk 0 0) 0 0 0 0 0)))),(1,some (.bx (av f_4)))],2⟩
def vJ (from_1 to_1 : Int) (u : ByteArray) (r_1 : ax) (f : aa) (r : ((aa))) (K : KT) : Prop := match r with | s => K (.exit 1) (Zu from_1 to_1 u r_1 f s)
def vQ (from_1 to_1 : Int) (u : ByteArray) (i_3 : Int) (r_1 : ax) (f_1 : aa) : St := ⟨[sv 1 (.ptr 0 13 0 0),sv 2 (.ptr 1 14 0 0),sv 3 (.ptr 2 14 0 0),sv 4 (i64 from_1),sv 5 (i64 to_1),sv 6 (dh u),sv 7 (i64 i_3)],[(0,some (.bx (bD r_1))),(1,some (.bx (av (aa.mk 0 0 0 false 0 0 0 (ac.mk 0 0) 0 0 0 0 0)))),(2,some (.bx (av f_1)))],3⟩
noncomputable def fP (from_1 to_1 : Int) (u : ByteArray) (i_3 : Int) (r_1 : ax) (f_1 : aa) : Option ((Int × aa) ⊕ ((aa))) := (some (Sum.inl ((ak (i_3 + 1)),f_1)))
theorem pj {from_1 to_1 : Int} {u : ByteArray} {i_3 : Int} {r_1 : ax} {f_1 f : aa} {K : KT} (h : W (fP from_1 to_1 u i_3 r_1 f_1) (nE (xS from_1 to_1 u r_1 f) (vJ from_1 to_1 u r_1 f) K)) : ah Tryz.prog 156 (List.drop 3 Mk) K (vQ from_1 to_1 u i_3 r_1 f_1) :=
  ah.qE mixed [] [1,2,3,4,5,6,7,120,121,122,123,124] 3 1 (.nx (fun K => wK K .normal (xS from_1 to_1 u r_1 f ((ak (i_3 + 1)),f_1))) (l0 h))
def Sr (from_1 to_1 : Int) (u : ByteArray) (i_2 : Int) (r_1 : ax) (f_3 : aa) : St := ⟨[sv 1 (.ptr 0 13 0 0),sv 2 (.ptr 1 14 0 0),sv 3 (.ptr 2 14 0 0),sv 4 (i64 from_1),sv 5 (i64 to_1),sv 6 (dh u),sv 7 (i64 i_2)],[(0,some (.bx (bD r_1))),(1,some (.bx (av (aa.mk 0 0 0 false 0 0 0 (ac.mk 0 0) 0 0 0 0 0)))),(2,some (.bx (av f_3)))],3⟩
noncomputable def th (from_1 to_1 : Int) (u : ByteArray) (i_2 : Int) (r_1 : ax) (f_3 : aa) : Option ((Int × aa) ⊕ ((aa))) := gd (0 ≤ i_2 ∧ i_2 < (u.size : Int)) ((bif (((u.data.getD (Int.toNat i_2) 0).toNat : Int) == 83) then (ap r_1.State 3).bind fun r_11 => ((fP from_1 to_1 u i_2 r_1 (aa.mk f_3.Issuer f_3.Number f_3.Version f_3.Withdrawn f_3.Person f_3.Kind r_11 f_3.Span f_3.Seat f_3.Share f_3.Currency f_3.Amount f_3.Ref))) else (bif (((u.data.getD (Int.toNat i_2) 0).toNat : Int) == 80) then (fP from_1 to_1 u i_2 r_1 (aa.mk f_3.Issuer f_3.Number f_3.Version f_3.Withdrawn f_3.Person f_3.Kind f_3.State (ac.mk from_1 to_1) f_3.Seat f_3.Share f_3.Currency f_3.Amount f_3.Ref)) else (bif (((u.data.getD (Int.toNat i_2) 0).toNat : Int) == 84) then (ap r_1.Seat 3).bind fun r_12 => ((bif (bif (f_3.Kind == 4) then (r_12 == f_3.State) else false) then (ap (ak (f_3.State + 1)) 3).bind fun r_13 => ((fP from_1 to_1 u i_2 r_1 (aa.mk f_3.Issuer f_3.Number f_3.Version f_3.Withdrawn f_3.Person f_3.Kind f_3.State f_3.Span r_13 f_3.Share f_3.Currency f_3.Amount f_3.Ref))) else (fP from_1 to_1 u i_2 r_1 (aa.mk f_3.Issuer f_3.Number f_3.Version f_3.Withdrawn f_3.Person f_3.Kind f_3.State f_3.Span r_12 f_3.Share f_3.Currency f_3.Amount f_3.Ref)))) else (bif (((u.data.getD (Int.toNat i_2) 0).toNat : Int) == 72) then (ap r_1.Share 100).bind fun r_14 => ((fP from_1 to_1 u i_2 r_1 (aa.mk f_3.Issuer f_3.Number f_3.Version f_3.Withdrawn f_3.Person f_3.Kind f_3.State f_3.Span f_3.Seat (ak (1 + r_14)) f_3.Currency f_3.Amount f_3.Ref))) else (bif (((u.data.getD (Int.toNat i_2) 0).toNat : Int) == 67) then (ap (ak (r_1.Seat + (Int.tmod r_1.State 3))) 3).bind fun r_15 => ((fP from_1 to_1 u i_2 r_1 (aa.mk f_3.Issuer f_3.Number f_3.Version f_3.Withdrawn f_3.Person f_3.Kind f_3.State f_3.Span f_3.Seat f_3.Share (ak (1 + r_15)) f_3.Amount f_3.Ref))) else (bif (((u.data.getD (Int.toNat i_2) 0).toNat : Int) == 65) then (ap r_1.Amount 3000000).bind fun r_16 => ((fP from_1 to_1 u i_2 r_1 (aa.mk f_3.Issuer f_3.Number f_3.Version f_3.Withdrawn f_3.Person f_3.Kind f_3.State f_3.Span f_3.Seat f_3.Share f_3.Currency r_16 f_3.Ref))) else (ap r_1.Ref 4).bind fun r_17 => ((bif ((ak (1 + r_17)) == f_3.Person) then (ap f_3.Person 4).bind fun r_18 => ((fP from_1 to_1 u i_2 r_1 (aa.mk f_3.Issuer f_3.Number f_3.Version f_3.Withdrawn f_3.Person f_3.Kind f_3.State f_3.Span f_3.Seat f_3.Share f_3.Currency f_3.Amount (ak (1 + r_18))))) else (fP from_1 to_1 u i_2 r_1 (aa.mk f_3.Issuer f_3.Number f_3.Version f_3.Withdrawn f_3.Person f_3.Kind f_3.State f_3.Span f_3.Seat f_3.Share f_3.Currency f_3.Amount (ak (1 + r_17)))))))))))))
theorem ZO {from_1 to_1 : Int} {u : ByteArray} {i_2 : Int} {r_1 : ax} {f_3 f : aa} {K : KT} (h : W (th from_1 to_1 u i_2 r_1 f_3) (nE (xS from_1 to_1 u r_1 f) (vJ from_1 to_1 u r_1 f) K)) : ah Tryz.prog 156 (List.drop 2 Mk) K (Sr from_1 to_1 u i_2 r_1 f_3) :=
  ah.qD mixed [e8] [1,2,3,4,5,6,7,120,121,122,123,124] 2 1 3 (.nx (fun K => let a1_ := ((u.data.getD (Int.toNat i_2) 0).toNat : Int); let a2_ := av (aa.mk 0 0 0 false 0 0 0 (ac.mk 0 0) 0 0 0 0 0); let a3_ := ap (ak (r_1.Seat + (Int.tmod r_1.State 3))) 3; let a4_ := ak (1 + ((ap r_1.Ref 4).getD 0)); let a5_ := ap r_1.Seat 3; let a6_ := ap (ak (f_3.State + 1)) 3; let a7_ := ap r_1.Amount 3000000; (0 ≤ i_2) ∧ (i_2 < (u.size : Int)) ∧ ((bif (a1_ == 83) then ((ap r_1.State 3).isSome = true) ∧ (wK K .normal (vQ from_1 to_1 u i_2 r_1 (aa.s_State f_3 ((ap r_1.State 3).getD 0)))) else (bif (a1_ == 80) then wK K .normal (vQ from_1 to_1 u i_2 r_1 (aa.s_Span f_3 (ac.mk from_1 to_1))) else (bif (a1_ == 84) then (a5_.isSome = true) ∧ ((bif (bif (f_3.Kind == 4) then ((a5_.getD 0) == f_3.State) else false) then (a6_.isSome = true) ∧ (wK K .normal (⟨[sv 1 (.ptr 0 13 0 0),sv 2 (.ptr 1 14 0 0),sv 3 (.ptr 2 14 0 0),sv 4 (i64 from_1),sv 5 (i64 to_1),sv 6 (dh u),sv 7 (i64 i_2),un 120,un 121,un 122,un 123,un 124],[(0,some (.bx (bD r_1))),(1,some (.bx a2_)),(2,some (.bx (av (aa.s_Seat f_3 (a6_.getD 0)))))],3⟩)) else wK K .normal (⟨[sv 1 (.ptr 0 13 0 0),sv 2 (.ptr 1 14 0 0),sv 3 (.ptr 2 14 0 0),sv 4 (i64 from_1),sv 5 (i64 to_1),sv 6 (dh u),sv 7 (i64 i_2),un 120,un 121,un 122,un 123,un 124],[(0,some (.bx (bD r_1))),(1,some (.bx a2_)),(2,some (.bx (av (aa.s_Seat f_3 (a5_.getD 0)))))],3⟩))) else (bif (a1_ == 72) then ((ap r_1.Share 100).isSome = true) ∧ (wK K .normal (vQ from_1 to_1 u i_2 r_1 (aa.s_Share f_3 (ak (1 + ((ap r_1.Share 100).getD 0)))))) else (bif (a1_ == 67) then ((3 : Int) ≠ 0) ∧ (a3_.isSome = true) ∧ (wK K .normal (vQ from_1 to_1 u i_2 r_1 (aa.s_Currency f_3 (ak (1 + (a3_.getD 0)))))) else (bif (a1_ == 65) then (a7_.isSome = true) ∧ (wK K .normal (vQ from_1 to_1 u i_2 r_1 (aa.s_Amount f_3 (a7_.getD 0)))) else ((ap r_1.Ref 4).isSome = true) ∧ ((bif (a4_ == f_3.Person) then ((ap f_3.Person 4).isSome = true) ∧ (wK K .normal (vQ from_1 to_1 u i_2 r_1 (aa.s_Ref f_3 (ak (1 + ((ap f_3.Person 4).getD 0)))))) else wK K .normal (vQ from_1 to_1 u i_2 r_1 (aa.s_Ref f_3 a4_)))))))))))) (aT h fun _ h => (al h (fun _ h => (aq 0 h fun _ h => (l0 (pj h)))) (fun _ h => (al h (fun _ h => (l0 (pj h))) (fun _ h => (al h (fun _ h => (aq 0 h fun _ h => (al h (fun _ h => (aq 0 h fun _ h => (lf (pj h) (.cn [1,2,3,4,5,6,7])))) (fun _ h => (lf (pj h) (.cn [1,2,3,4,5,6,7])))))) (fun _ h => (al h (fun _ h => (aq 0 h fun _ h => (l0 (pj h)))) (fun _ h => (al h (fun _ h => ⟨(by decide),(aq 0 h fun _ h => (l0 (pj h)))⟩) (fun _ h => (al h (fun _ h => (aq 0 h fun _ h => (l0 (pj h)))) (fun _ h => (aq 0 h fun _ h => (al h (fun _ h => (aq 0 h fun _ h => (l0 (pj h)))) (fun _ h => (l0 (pj h)))))))))))))))))))
def afL (from_1 to_1 : Int) (u : ByteArray) (i_1 : Int) (r_1 : ax) (f_2 : aa) : St := ⟨[sv 1 (.ptr 0 13 0 0),sv 2 (.ptr 1 14 0 0),sv 3 (.ptr 2 14 0 0),sv 4 (i64 from_1),sv 5 (i64 to_1),sv 6 (dh u),sv 7 (i64 i_1)],[(0,some (.bx (bD r_1))),(1,some (.bx (av (aa.mk 0 0 0 false 0 0 0 (ac.mk 0 0) 0 0 0 0 0)))),(2,some (.bx (av f_2)))],3⟩
noncomputable def mC (from_1 to_1 : Int) (u : ByteArray) (i_1 : Int) (r_1 : ax) (f_2 : aa) : Option ((Int × aa) ⊕ ((aa))) := (bif (decide (i_1 < (u.size : Int))) then (th from_1 to_1 u i_1 r_1 f_2) else (some (Sum.inr f_2)))
theorem abC {from_1 to_1 : Int} {u : ByteArray} {i_1 : Int} {r_1 : ax} {f_2 f : aa} {K : KT} (h : W (mC from_1 to_1 u i_1 r_1 f_2) (nE (xS from_1 to_1 u r_1 f) (vJ from_1 to_1 u r_1 f) K)) : ah Tryz.prog 156 (List.drop 0 Mk) K (afL from_1 to_1 u i_1 r_1 f_2) :=
  ah.qD mixed [] [1,2,3,4,5,6,7,120,121,122,123,124] 0 2 2 (.nx (fun K => (bif (decide (i_1 < (u.size : Int))) then wK K .normal (Sr from_1 to_1 u i_1 r_1 f_2) else wK K (.exit 1) (⟨[sv 1 (.ptr 0 13 0 0),sv 2 (.ptr 1 14 0 0),sv 3 (.ptr 2 14 0 0),sv 4 (i64 from_1),sv 5 (i64 to_1),sv 6 (dh u),sv 7 (i64 i_1)],[(0,some (.bx (bD r_1))),(1,some (.bx (av (aa.mk 0 0 0 false 0 0 0 (ac.mk 0 0) 0 0 0 0 0)))),(2,some (.bx (av f_2)))],3⟩))) (al h (fun _ h => (l0 (ZO h))) (fun _ h => (lf h (.cn [2,3])))))
noncomputable def sI (from_1 to_1 : Int) (u : ByteArray) (r_1 : ax) (f : aa) (s : (Int × aa)) : Option ((Int × aa) ⊕ ((aa))) := match s with | (i_1,f_2) => mC from_1 to_1 u i_1 r_1 f_2
theorem aaE (from_1 to_1 : Int) (u : ByteArray) (r_1 : ax) (f : aa) (s : (Int × aa)) : Pp Tryz.prog 156 (List.drop 0 Mk) (xS from_1 to_1 u r_1 f s) (sI from_1 to_1 u r_1 f s) (cq (xS from_1 to_1 u r_1 f) (vJ from_1 to_1 u r_1 f)) := fun K h => match s,h with | (i_1,f_2),h => (abC h)
theorem Ro (from_1 to_1 : Int) (u : ByteArray) (r_1 : ax) (f : aa) : ∀ (r : ((aa))) (J : St → Prop) (K : KT),vJ from_1 to_1 u r_1 f r K → vJ from_1 to_1 u r_1 f r (aM J K)
  | s,_,_,h => h
def SQ (f_5 : aa) : St := ⟨[sv 2 (.ptr 0 14 0 0),sv 3 (.ptr 1 14 0 0)],[(0,some (.bx (av (aa.mk 0 0 0 false 0 0 0 (ac.mk 0 0) 0 0 0 0 0)))),(1,some (.bx (av f_5)))],2⟩
noncomputable def Eh (f_5 : aa) : Option (aa) := (some f_5)
theorem ad9 {f_5 : aa} {K : KT} (h : W (Eh f_5) (rE JU K)) : ah Tryz.prog 156 (List.drop 10 uF) K (SQ f_5) :=
  ah.qE mixed [] [2] 10 2 (.nx (fun K => wK K .ret (JU f_5)) (l0 h))
def U4 (from_1 to_1 : Int) (u : ByteArray) (r_1 : ax) (f : aa) : St := ⟨[sv 1 (.ptr 0 13 0 0),sv 2 (.ptr 1 14 0 0),sv 3 (.ptr 2 14 0 0),sv 4 (i64 from_1),sv 5 (i64 to_1),sv 6 (dh u),sv 7 (i64 0)],[(0,some (.bx (bD r_1))),(1,some (.bx (av (aa.mk 0 0 0 false 0 0 0 (ac.mk 0 0) 0 0 0 0 0)))),(2,some (.bx (av f)))],3⟩
noncomputable def Br (from_1 to_1 : Int) (u : ByteArray) (r_1 : ax) (f : aa) (r : ((aa))) : Option (aa) := match r with | f_4 => (Eh f_4)
noncomputable def yt (from_1 to_1 : Int) (u : ByteArray) (r_1 : ax) (f : aa) : Option (aa) := (aN (sI from_1 to_1 u r_1 f) (0,f)).bind (Br from_1 to_1 u r_1 f)
theorem aff : List.drop 9 uF = .block 1 (.loop (aj (aj (aQ uF 9)))) :: List.drop 10 uF := by kernel_rfl
theorem aha (from_1 to_1 : Int) (u : ByteArray) (r_1 : ax) (f : aa) (K : KT) : ∀ r : ((aa)),W (Br from_1 to_1 u r_1 f r) (rE JU K) → vJ from_1 to_1 u r_1 f r (wK (bg 1 (aM (ah Tryz.prog 156 (List.drop 10 uF) K) K)))
  | f_4,h => ⟨(SQ f_4),(.refl _),(ad9 h)⟩
theorem aa5 {from_1 to_1 : Int} {u : ByteArray} {r_1 : ax} {f : aa} {K : KT} (h : W (yt from_1 to_1 u r_1 f) (rE JU K)) : ah Tryz.prog 156 (List.drop 9 uF) K (U4 from_1 to_1 u r_1 f) :=
  ah.at_ aff (ah.cons_loop (aE.weak (aE.ent (.refl _) (aE.loopF (x := aj (aj (aQ uF 9))) (f := sI from_1 to_1 u r_1 f) (emb := xS from_1 to_1 u r_1 f) (E := vJ from_1 to_1 u r_1 f) (aaE from_1 to_1 u r_1 f) (Ro from_1 to_1 u r_1 f) (bT h (aha from_1 to_1 u r_1 f K))))))
def Fj (from_1 to_1 : Int) (r_1 : ax) (f : aa) : St := ⟨[sv 1 (.ptr 0 13 0 0),sv 2 (.ptr 1 14 0 0),sv 3 (.ptr 2 14 0 0),sv 4 (i64 from_1),sv 5 (i64 to_1)],[(0,some (.bx (bD r_1))),(1,some (.bx (av (aa.mk 0 0 0 false 0 0 0 (ac.mk 0 0) 0 0 0 0 0)))),(2,some (.bx (av f)))],3⟩
noncomputable def kO (from_1 to_1 : Int) (r_1 : ax) (f : aa) : Option (aa) := (eJ f.Kind).bind fun r_10 => ((yt from_1 to_1 r_10 r_1 f))
theorem FT {from_1 to_1 : Int} {r_1 : ax} {f : aa} {K : KT} (h : W (kO from_1 to_1 r_1 f) (rE JU K)) : ah Tryz.prog 156 (List.drop 7 uF) K (Fj from_1 to_1 r_1 f) :=
  ah.qD mixed [Ud] [1,2,3,4,5,6,7,120,121,122,123,124] 7 2 9 (.nx (fun K => ((eJ f.Kind).isSome = true) ∧ (wK K .normal (U4 from_1 to_1 ((eJ f.Kind).getD (aA [])) r_1 f))) (aq (aA []) h fun _ h => (l0 (aa5 h))))
def agv (r_1 : ax) : St := ⟨[sv 0 (.ag (bD r_1))],[],0⟩
noncomputable def tk (r_1 : ax) : Option (aa) := (ap r_1.Issuer 3).bind fun r_2 => ((ap r_1.Number 20).bind fun r_3 => ((ap r_1.Version 3).bind fun r_4 => ((ap r_1.Person 4).bind fun r_5 => ((ap r_1.Kind 14).bind fun r_6 => ((ap r_1.From 16000).bind fun r_7 => ((qy r_1.Length).bind fun r_8 => ((bif ((ak (1 + r_6)) == 11) then (ap r_1.From 5000).bind fun r_9 => ((kO (ak (12000 + r_9)) (ak ((ak (12000 + r_9)) + 1)) r_1 (aa.mk r_2 (ak (1 + r_3)) (ak (1 + r_4)) r_1.Withdrawn (ak (1 + r_5)) (ak (1 + r_6)) 0 (ac.mk 0 0) 0 0 0 0 0))) else (bif ((ak (1 + r_6)) == 12) then (ap r_1.From 6000).bind fun r_19 => ((kO (ak (34000 + r_19)) (ak ((ak (34000 + r_19)) + 1)) r_1 (aa.mk r_2 (ak (1 + r_3)) (ak (1 + r_4)) r_1.Withdrawn (ak (1 + r_5)) (ak (1 + r_6)) 0 (ac.mk 0 0) 0 0 0 0 0))) else (bif ((ak (1 + r_6)) == 8) then (ap r_1.From 4000).bind fun r_20 => ((ap r_1.Length 700).bind fun r_21 => ((kO (ak (34000 + r_20)) (ak ((ak ((ak (34000 + r_20)) + 1)) + r_21)) r_1 (aa.mk r_2 (ak (1 + r_3)) (ak (1 + r_4)) r_1.Withdrawn (ak (1 + r_5)) (ak (1 + r_6)) 0 (ac.mk 0 0) 0 0 0 0 0)))) else (kO (ak (21900 + r_7)) (ak ((ak (21900 + r_7)) + r_8)) r_1 (aa.mk r_2 (ak (1 + r_3)) (ak (1 + r_4)) r_1.Withdrawn (ak (1 + r_5)) (ak (1 + r_6)) 0 (ac.mk 0 0) 0 0 0 0 0))))))))))))
theorem aex {r_1 : ax} {K : KT} (h : W (tk r_1) (rE JU K)) : ah Tryz.prog 156 (List.drop 0 uF) K (agv r_1) :=
  ah.qD mixed [e8,e38] [1,2,3,4,5,120,121,122,123,124] 0 7 7 (.nx (fun K => let a2_ := ak (1 + ((ap r_1.Kind 14).getD 0)); let a1_ := aa.mk ((ap r_1.Issuer 3).getD 0) (ak (1 + ((ap r_1.Number 20).getD 0))) (ak (1 + ((ap r_1.Version 3).getD 0))) r_1.Withdrawn (ak (1 + ((ap r_1.Person 4).getD 0))) a2_ 0 (ac.mk 0 0) 0 0 0 0 0; let a3_ := ak (21900 + ((ap r_1.From 16000).getD 0)); let a4_ := ak (12000 + ((ap r_1.From 5000).getD 0)); let a5_ := ak (34000 + ((ap r_1.From 6000).getD 0)); let a6_ := ak (34000 + ((ap r_1.From 4000).getD 0)); ((ap r_1.Issuer 3).isSome = true) ∧ ((ap r_1.Number 20).isSome = true) ∧ ((ap r_1.Version 3).isSome = true) ∧ (((ap r_1.Person 4).isSome = true) ∧ ((ap r_1.Kind 14).isSome = true) ∧ (((ap r_1.From 16000).isSome = true) ∧ (((qy r_1.Length).isSome = true) ∧ ((bif (a2_ == 11) then ((ap r_1.From 5000).isSome = true) ∧ (wK K .normal (Fj a4_ (ak (a4_ + 1)) r_1 a1_)) else (bif (a2_ == 12) then ((ap r_1.From 6000).isSome = true) ∧ (wK K .normal (Fj a5_ (ak (a5_ + 1)) r_1 a1_)) else (bif (a2_ == 8) then ((ap r_1.From 4000).isSome = true) ∧ (((ap r_1.Length 700).isSome = true) ∧ (wK K .normal (Fj a6_ (ak ((ak (a6_ + 1)) + ((ap r_1.Length 700).getD 0))) r_1 a1_))) else wK K .normal (Fj a3_ (ak (a3_ + ((qy r_1.Length).getD 0))) r_1 a1_))))))))) (aq 0 h fun _ h => (aq 0 h fun _ h => (aq 0 h fun _ h => (aq 0 h fun _ h => (aq 0 h fun _ h => (aq 0 h fun _ h => (aq 0 h fun _ h => (al h (fun _ h => (aq 0 h fun _ h => (l0 (FT h)))) (fun _ h => (al h (fun _ h => (aq 0 h fun _ h => (l0 (FT h)))) (fun _ h => (al h (fun _ h => (aq 0 h fun _ h => (aq 0 h fun _ h => (l0 (FT h))))) (fun _ h => (l0 (FT h))))))))))))))))
noncomputable def vT (r_1 : ax) : Option (aa) := tk r_1
noncomputable def G7 : bW := fO Fs vT aw L0
theorem N6 : Meets Tryz.prog 15 G7 := dq Tryz.f15 (ar Tryz.f15) [.cell 2 38] 156 fun u0 y h => @aex u0 _ (bi.2 ⟨y,h,(cH (.agg [(i64 y.Issuer),(i64 y.Number),(i64 y.Version),(bl y.Withdrawn),(i64 y.Person),(i64 y.Kind),(i64 y.State),(i64 y.Span.From),(i64 y.Span.To),(i64 y.Seat),(i64 y.Share),(i64 y.Currency),(i64 y.Amount),(i64 y.Ref)]) (VLe.rfl' _))⟩)
noncomputable abbrev e15 : FE Tryz.prog := ⟨15, .pure G7,N6⟩
noncomputable def CQ : List Code := aD (ar Tryz.f7)
noncomputable def aiN : List Code := aD (aj (aj (aQ CQ 3)))
def KB (x_1 : (List aa)) : bS := .own true 38 14 (x_1).length (bf av aw x_1)
def Ty (x_1 : (List aa)) : St := ⟨[sv 2 (.row 0 14 0 x_1.length)],[(aC 0 38 x_1)],1⟩
def Mr (l : (List ax)) (s : ((List aa) × Int)) : St := match s with | (out_1,i_1) => ⟨[sv 0 (fG l),sv 3 (.row 0 14 0 out_1.length),sv 4 (i64 i_1)],[(aC 0 38 out_1)],1⟩
def ajd (l : (List ax)) (s : (List aa)) : St := match s with | out_2 => ⟨[sv 3 (.row 0 14 0 out_2.length)],[(aC 0 38 out_2)],1⟩
def FH (l : (List ax)) (r : (((List aa)))) (K : KT) : Prop := match r with | s => K (.exit 0) (ajd l s)
def ajJ (l : (List ax)) (out_1 : (List aa)) (i_1 : Int) : St := ⟨[sv 0 (fG l),sv 3 (.row 0 14 0 out_1.length),sv 4 (i64 i_1)],[(aC 0 38 out_1)],1⟩
noncomputable def jW (l : (List ax)) (out_1 : (List aa)) (i_1 : Int) : Option (((List aa) × Int) ⊕ (((List aa)))) := (bif (bif (decide (i_1 < (l.length : Int))) then (decide (i_1 < 12)) else false) then gd (0 ≤ i_1 ∧ i_1 < (l.length : Int)) ((vT (l.getD (Int.toNat i_1) eF)).bind fun r_1 => (gd (cL (out_1.length + 1) 112) ((some (Sum.inl ((out_1 ++ ([r_1] : List aa)),(ak (i_1 + 1)))))))) else (some (Sum.inr out_1)))
theorem ah1 {l : (List ax)} {out_1 : (List aa)} {i_1 : Int} {K : KT} (h : W (jW l out_1 i_1) (nE (Mr l) (FH l) K)) : ah Tryz.prog 24 (List.drop 0 aiN) K (ajJ l out_1 i_1) :=
  ah.qE mixed [e15] [0,3,4,10,11] 0 4 (.nx (fun K => let a1_ := vT (l.getD (Int.toNat i_1) eF); let a2_ := out_1.length + 1; (bif (bif (decide (i_1 < (l.length : Int))) then (decide (i_1 < 12)) else false) then (0 ≤ i_1) ∧ (i_1 < (l.length : Int)) ∧ (a1_.isSome = true) ∧ (out_1.length = out_1.length) ∧ (a2_ * 112 ≤ 140737488355328) ∧ (a2_ ≤ 140737488355328) ∧ (wK K .normal (⟨[sv 0 (fG l),sv 3 (.row 0 14 0 a2_),sv 4 (i64 (ak (i_1 + 1))),un 10,un 11],[(0,some (.row 38 14 a2_ (fun i => bif Nat.blt i out_1.length then (be out_1) i else (fun i => (dw 14 (av (a1_.getD aw))) (0 + i)) (i - out_1.length))))],1⟩)) else wK K (.exit 0) (⟨[sv 0 (fG l),sv 3 (.row 0 14 0 out_1.length),sv 4 (i64 i_1),un 10,un 11],[(aC 0 38 out_1)],1⟩))) (al h (fun _ h => (aT h fun _ h => (aq aw h fun _ h => ⟨rfl,(aT h fun _ h => (lf h (.of (.q rfl (.cons rfl (.rown (ce rfl rfl)) (.q rfl .nil))) (.row rfl (ai.app .b (ai.zero (ai.l1 (enc := av) (z := aw) 14 ((vT (l.getD (Int.toNat i_1) eF)).getD aw) rfl))) .nil rfl) rfl)))⟩))) (fun _ h => (lf h (.cn [3])))))
noncomputable def nQ (l : (List ax)) (s : ((List aa) × Int)) : Option (((List aa) × Int) ⊕ (((List aa)))) := match s with | (out_1,i_1) => jW l out_1 i_1
theorem ahu (l : (List ax)) (s : ((List aa) × Int)) : Pp Tryz.prog 24 (List.drop 0 aiN) (Mr l s) (nQ l s) (cq (Mr l) (FH l)) := fun K h => match s,h with | (out_1,i_1),h => (ah1 h)
theorem UY (l : (List ax)) : ∀ (r : (((List aa)))) (J : St → Prop) (K : KT),FH l r K → FH l r (aM J K)
  | s,_,_,h => h
def Xz (out_3 : (List aa)) : St := ⟨[sv 3 (.row 0 14 0 out_3.length)],[(aC 0 38 out_3)],1⟩
noncomputable def Di (out_3 : (List aa)) : Option ((List aa)) := (some out_3)
theorem ahY {out_3 : (List aa)} {K : KT} (h : W (Di out_3) (rE Ty K)) : ah Tryz.prog 24 (List.drop 4 CQ) K (Xz out_3) :=
  ah.qE mixed [] [2] 4 2 (.nx (fun K => wK K .ret (Ty out_3)) (l0 h))
def XI (l : (List ax)) : St := ⟨[sv 0 (fG l),sv 3 (.c .nil),sv 4 (i64 0)],[],0⟩
noncomputable def zn (l : (List ax)) (r : (((List aa)))) : Option ((List aa)) := match r with | out_2 => (Di out_2)
noncomputable def Dl (l : (List ax)) : Option ((List aa)) := (aN (nQ l) (([] : List aa),0)).bind (zn l)
theorem afB : List.drop 3 CQ = .block 0 (.loop (aj (aj (aQ CQ 3)))) :: List.drop 4 CQ := by kernel_rfl
theorem ajY (l : (List ax)) (K : KT) : ∀ r : (((List aa))),W (zn l r) (rE Ty K) → FH l r (wK (bg 0 (aM (ah Tryz.prog 24 (List.drop 4 CQ) K) K)))
  | out_2,h => ⟨(Xz out_2),(.refl _),(ahY h)⟩
theorem ahJ {l : (List ax)} {K : KT} (h : W (Dl l) (rE Ty K)) : ah Tryz.prog 24 (List.drop 3 CQ) K (XI l) :=
  ah.at_ afB (ah.cons_loop (aE.weak (aE.ent (.trans (.nilrow 3 0 38 14 (bf av aw []) (Nat.le_of_ble_eq_true rfl) rfl) (.cn [0,3,4])) (aE.loopF (x := aj (aj (aQ CQ 3))) (f := nQ l) (emb := Mr l) (E := FH l) (ahu l) (UY l) (bT h (ajY l K))))))
def ajR (l : (List ax)) : St := ⟨[sv 0 (fG l)],[],0⟩
noncomputable def DE (l : (List ax)) : Option ((List aa)) := (Dl l)
theorem agt {l : (List ax)} {K : KT} (h : W (DE l) (rE Ty K)) : ah Tryz.prog 24 (List.drop 0 CQ) K (ajR l) :=
  ah.qD mixed [] [0,3,4,10,11] 0 3 3 (.nx (fun K => wK K .normal (XI l)) (l0 (ahJ h)))
noncomputable def fa (l : (List ax)) : Option ((List aa)) := DE l
noncomputable def EI : bW := fO vU fa ([] : List aa) KB
theorem LT : Meets Tryz.prog 7 EI := dq Tryz.f7 (ar Tryz.f7) [.tmp 2] 24 fun u0 y h => @agt u0 _ (bi.2 ⟨y,h,(cH (.row 0 14 0 y.length) (⟨_,_,_,rfl,rfl,rfl,fun _ _ => rfl,fun _ i hi d hd => gg _ d hd⟩))⟩)
noncomputable abbrev e7 : FE Tryz.prog := ⟨7, .pure EI,LT⟩
noncomputable def wP : List Code := aD (ar Tryz.f35)
noncomputable def pF : List Code := aD (aj (aj (aQ wP 4)))
noncomputable def uM : List Code := aD (aj (aQ pF 2))
noncomputable def X1 : List Code := aD (aj (aj (aQ uM 6)))
def CG (x_1 : Bool) : bS := .data (bl x_1)
def Kq (x_1 : Bool) : St := ⟨[sv 2 (bl x_1)],[],0⟩
def oK (l : (List af)) (s : (Int)) : St := match s with | t12 => ⟨[sv 0 (aZ l),sv 10 (aZ l),sv 11 (i64 (l.length : Int)),sv 12 (i64 t12)],[],0⟩
def adG (l : (List af)) (s : Unit) : St := match s with | () => ⟨[],[],0⟩
def O3 (l : (List af)) (s : Unit) : St := match s with | () => ⟨[sv 2 (bl false)],[],0⟩
def nC (l : (List af)) (r : ((Unit) ⊕ (Unit))) (K : KT) : Prop := match r with | (.inl s) => K (.exit 0) (adG l s) | (.inr s) => K .ret (O3 l s)
def Fk (l : (List af)) (t12_4 : Int) (t45 : (List af)) (t46 : Int) (s_1 : af) (s : (Int × Int × Int)) : St := match s with | (t12_5,t46_1,t47) => ⟨[sv 0 (aZ l),sv 4 (.ptr 0 3 0 0),sv 10 (aZ l),sv 11 (i64 (l.length : Int)),sv 12 (i64 t12_5),sv 45 (aZ t45),sv 46 (i64 t46_1),sv 47 (i64 t47)],[(0,some (.bx (bp s_1)))],1⟩
def YL (l : (List af)) (t12_4 : Int) (t45 : (List af)) (t46 : Int) (s_1 : af) (s : Int) : St := match s with | t12_6 => ⟨[sv 0 (aZ l),sv 10 (aZ l),sv 11 (i64 (l.length : Int)),sv 12 (i64 t12_6)],[],0⟩
def adf (l : (List af)) (t12_4 : Int) (t45 : (List af)) (t46 : Int) (s_1 : af) (s : Unit) : St := match s with | () => ⟨[sv 2 (bl false)],[],0⟩
def AK (l : (List af)) (t12_4 : Int) (t45 : (List af)) (t46 : Int) (s_1 : af) (r : ((Int) ⊕ (Unit))) (K : KT) : Prop := match r with | (.inl s) => K (.exit 3) (YL l t12_4 t45 t46 s_1 s) | (.inr s) => K .ret (adf l t12_4 t45 t46 s_1 s)
def ahW (l : (List af)) (t12_5 : Int) (t45 : (List af)) (t46_1 t47 : Int) (s_1 : af) : St := ⟨[sv 0 (aZ l),sv 4 (.ptr 0 3 0 0),sv 10 (aZ l),sv 11 (i64 (l.length : Int)),sv 12 (i64 t12_5),sv 45 (aZ t45),sv 46 (i64 t46_1),sv 47 (i64 t47)],[(0,some (.bx (bp s_1)))],1⟩
noncomputable def gQ (l : (List af)) (t12_5 : Int) (t45 : (List af)) (t46_1 t47 : Int) (s_1 : af) : Option ((Int × Int × Int) ⊕ ((Int) ⊕ (Unit))) := (bif (decide (t47 < t46_1)) then gd (0 ≤ t47 ∧ t47 < (t45.length : Int)) ((bif ((t45.getD (Int.toNat t47) bq).Person == s_1.Person) then (some (Sum.inr (Sum.inr ()))) else (some (Sum.inl (t12_5,t46_1,(ak (t47 + 1))))))) else (some (Sum.inr (Sum.inl t12_5))))
theorem Yr {l : (List af)} {t12_5 : Int} {t45 : (List af)} {t46_1 t47 : Int} {s_1 : af} {t12_4 t46 : Int} {K : KT} (h : W (gQ l t12_5 t45 t46_1 t47 s_1) (nE (Fk l t12_4 t45 t46 s_1) (AK l t12_4 t45 t46 s_1) K)) : ah Tryz.prog 58 (List.drop 0 X1) K (ahW l t12_5 t45 t46_1 t47 s_1) :=
  ah.qE mixed [] [0,2,4,10,11,12,21,22,23,33,34,35,45,46,47] 0 4 (.nx (fun K => (bif (decide (t47 < t46_1)) then (0 ≤ t47) ∧ (t47 < (t45.length : Int)) ∧ ((bif ((t45.getD (Int.toNat t47) bq).Person == s_1.Person) then wK K .ret (⟨[sv 0 (aZ l),sv 2 (bl false),sv 4 (.ptr 0 3 0 0),sv 10 (aZ l),sv 11 (i64 (l.length : Int)),sv 12 (i64 t12_5),sv 45 (aZ t45),sv 46 (i64 t46_1),sv 47 (i64 t47)],[(0,some (.bx (bp s_1)))],1⟩) else wK K .normal (Fk l t12_4 t45 t46 s_1 (t12_5,t46_1,(ak (t47 + 1)))))) else wK K (.exit 3) (⟨[sv 0 (aZ l),sv 4 (.ptr 0 3 0 0),sv 10 (aZ l),sv 11 (i64 (l.length : Int)),sv 12 (i64 t12_5),sv 45 (aZ t45),sv 46 (i64 t46_1),sv 47 (i64 t47)],[(0,some (.bx (bp s_1)))],1⟩))) (al h (fun _ h => (aT h fun _ h => (al h (fun _ h => (lf h (.cn [2]))) (fun _ h => (l0 h))))) (fun _ h => (lf h (.cn [0,10,11,12])))))
noncomputable def jh (l : (List af)) (t12_4 : Int) (t45 : (List af)) (t46 : Int) (s_1 : af) (s : (Int × Int × Int)) : Option ((Int × Int × Int) ⊕ ((Int) ⊕ (Unit))) := match s with | (t12_5,t46_1,t47) => gQ l t12_5 t45 t46_1 t47 s_1
theorem aeP (l : (List af)) (t12_4 : Int) (t45 : (List af)) (t46 : Int) (s_1 : af) (s : (Int × Int × Int)) : Pp Tryz.prog 58 (List.drop 0 X1) (Fk l t12_4 t45 t46 s_1 s) (jh l t12_4 t45 t46 s_1 s) (cq (Fk l t12_4 t45 t46 s_1) (AK l t12_4 t45 t46 s_1)) := fun K h => match s,h with | (t12_5,t46_1,t47),h => (Yr h)
theorem QT (l : (List af)) (t12_4 : Int) (t45 : (List af)) (t46 : Int) (s_1 : af) : ∀ (r : ((Int) ⊕ (Unit))) (J : St → Prop) (K : KT),AK l t12_4 t45 t46 s_1 r K → AK l t12_4 t45 t46 s_1 r (aM J K)
  | (.inl s),_,_,h => h
  | (.inr s),_,_,h => h
def Tq (l : (List af)) (t12_7 : Int) : St := ⟨[sv 0 (aZ l),sv 10 (aZ l),sv 11 (i64 (l.length : Int)),sv 12 (i64 t12_7)],[],0⟩
noncomputable def ld (l : (List af)) (t12_7 : Int) : Option ((Int) ⊕ ((Unit) ⊕ (Unit))) := (some (Sum.inl (ak (t12_7 + 1))))
theorem ZC {l : (List af)} {t12_7 : Int} {K : KT} (h : W (ld l t12_7) (nE (oK l) (nC l) K)) : ah Tryz.prog 58 (List.drop 3 pF) K (Tq l t12_7) :=
  ah.qE mixed [] [0,10,11,12,21,22,23,33,34,35] 3 1 (.nx (fun K => wK K .normal (oK l (ak (t12_7 + 1)))) (l0 h))
def ahv (l : (List af)) (t12_4 : Int) (t45 : (List af)) (t46 : Int) (s_1 : af) : St := ⟨[sv 0 (aZ l),sv 4 (.ptr 0 3 0 0),sv 10 (aZ l),sv 11 (i64 (l.length : Int)),sv 12 (i64 t12_4),sv 45 (aZ t45),sv 46 (i64 t46),sv 47 (i64 0)],[(0,some (.bx (bp s_1)))],1⟩
noncomputable def rX (l : (List af)) (t12_4 : Int) (t45 : (List af)) (t46 : Int) (s_1 : af) (r : ((Int) ⊕ (Unit))) : Option ((Int) ⊕ ((Unit) ⊕ (Unit))) := match r with | (.inl t12_6) => (ld l t12_6) | (.inr ()) => (some (Sum.inr (Sum.inr ())))
noncomputable def t7 (l : (List af)) (t12_4 : Int) (t45 : (List af)) (t46 : Int) (s_1 : af) : Option ((Int) ⊕ ((Unit) ⊕ (Unit))) := (aN (jh l t12_4 t45 t46 s_1) (t12_4,t46,0)).bind (rX l t12_4 t45 t46 s_1)
theorem aem : List.drop 6 uM = .block 3 (.loop (aj (aj (aQ uM 6)))) :: List.drop 7 uM := by kernel_rfl
theorem aiM (l : (List af)) (t12_4 : Int) (t45 : (List af)) (t46 : Int) (s_1 : af) (K : KT) : ∀ r : ((Int) ⊕ (Unit)),W (rX l t12_4 t45 t46 s_1 r) (nE (oK l) (nC l) K) → AK l t12_4 t45 t46 s_1 r (wK (bg 3 (aM (ah Tryz.prog 58 (List.drop 7 uM) (bg 1 (aM (ah Tryz.prog 58 (List.drop 3 pF) K) K))) (bg 1 (aM (ah Tryz.prog 58 (List.drop 3 pF) K) K)))))
  | (.inl t12_6),h => ⟨(Tq l t12_6),(.refl _),(ah.end_ (by kernel_rfl : List.drop 7 uM = []) (ZC h))⟩
  | (.inr ()),h => ⟨(O3 l ()),(.refl _),h⟩
theorem aa9 {l : (List af)} {t12_4 : Int} {t45 : (List af)} {t46 : Int} {s_1 : af} {K : KT} (h : W (t7 l t12_4 t45 t46 s_1) (nE (oK l) (nC l) K)) : ah Tryz.prog 58 (List.drop 6 uM) (bg 1 (aM (ah Tryz.prog 58 (List.drop 3 pF) K) K)) (ahv l t12_4 t45 t46 s_1) :=
  ah.at_ aem (ah.cons_loop (aE.weak (aE.ent (.refl _) (aE.loopF (x := aj (aj (aQ uM 6))) (f := jh l t12_4 t45 t46 s_1) (emb := Fk l t12_4 t45 t46 s_1) (E := AK l t12_4 t45 t46 s_1) (aeP l t12_4 t45 t46 s_1) (QT l t12_4 t45 t46 s_1) (bT h (aiM l t12_4 t45 t46 s_1 K))))))
def aiV (l : (List af)) (i_1 t12_3 : Int) (s_1 : af) : St := ⟨[sv 0 (aZ l),sv 3 (i64 i_1),sv 4 (.ptr 0 3 0 0),sv 10 (aZ l),sv 11 (i64 (l.length : Int)),sv 12 (i64 t12_3)],[(0,some (.bx (bp s_1)))],1⟩
noncomputable def gV (l : (List af)) (i_1 t12_3 : Int) (s_1 : af) : Option ((Int) ⊕ ((Unit) ⊕ (Unit))) := gd (0 ≤ (0 : Int) ∧ (0 : Int) ≤ i_1 ∧ i_1 ≤ (l.length : Int)) ((t7 l t12_3 (jD bq l 0 (Int.toNat (i_1 - 0))) (((Int.toNat (i_1 - 0)) : Nat) : Int) s_1))
theorem JJ {l : (List af)} {i_1 t12_3 : Int} {s_1 : af} {K : KT} (h : W (gV l i_1 t12_3 s_1) (nE (oK l) (nC l) K)) : ah Tryz.prog 58 (List.drop 5 uM) (bg 1 (aM (ah Tryz.prog 58 (List.drop 3 pF) K) K)) (aiV l i_1 t12_3 s_1) :=
  ah.qD mixed [] [0,4,10,11,12,21,22,23,33,34,35,45,46,47] 5 1 6 (.nx (fun K => (0 ≤ (0 : Int)) ∧ ((0 : Int) ≤ i_1) ∧ (i_1 ≤ (l.length : Int)) ∧ (wK K .normal (⟨[sv 0 (aZ l),sv 4 (.ptr 0 3 0 0),sv 10 (aZ l),sv 11 (i64 (l.length : Int)),sv 12 (i64 t12_3),sv 45 (.c (.sl 3 (Int.toNat (i_1 - 0)) (fun i => (eZ l) (0 + i)))),sv 46 (i64 (((Int.toNat (i_1 - 0)) : Nat) : Int)),sv 47 (i64 0)],[(0,some (.bx (bp s_1)))],1⟩))) (pl h fun _ h => (lf (aa9 h) (.of (.qs 5 (.cons rfl (.sl (ai.sub bp bq l 0 (Int.toNat (i_1 - 0)))) (.q rfl (.q rfl .nil)))) (.same rfl .nil) rfl))))
def agC (l : (List af)) (t12_2 : Int) : St := ⟨[sv 0 (aZ l),sv 10 (aZ l),sv 11 (i64 (l.length : Int)),sv 12 (i64 t12_2)],[],0⟩
noncomputable def k9 (l : (List af)) (t12_2 : Int) : Option ((Int) ⊕ ((Unit) ⊕ (Unit))) := gd (0 ≤ t12_2 ∧ t12_2 < (l.length : Int)) ((bif (bif (decide ((l.getD (Int.toNat t12_2) bq).Person < 1)) then true else (decide (99 < (l.getD (Int.toNat t12_2) bq).Person))) then (some (Sum.inr (Sum.inr ()))) else (bif ((l.getD (Int.toNat t12_2) bq).Kind == 1) then (bif (bif (decide ((l.getD (Int.toNat t12_2) bq).Days < 1)) then true else (decide (73049 < (l.getD (Int.toNat t12_2) bq).Days))) then (some (Sum.inr (Sum.inr ()))) else (gV l t12_2 t12_2 (l.getD (Int.toNat t12_2) bq))) else (bif ((l.getD (Int.toNat t12_2) bq).Kind == 2) then (bif ((l.getD (Int.toNat t12_2) bq).Kind == 2) then (bif ((l.getD (Int.toNat t12_2) bq).Days != 0) then (some (Sum.inr (Sum.inr ()))) else (gV l t12_2 t12_2 (l.getD (Int.toNat t12_2) bq))) else (some (Sum.inr (Sum.inr ())))) else (bif ((l.getD (Int.toNat t12_2) bq).Kind == 3) then (bif ((l.getD (Int.toNat t12_2) bq).Days != 0) then (some (Sum.inr (Sum.inr ()))) else (gV l t12_2 t12_2 (l.getD (Int.toNat t12_2) bq))) else (some (Sum.inr (Sum.inr ()))))))))
theorem ZH {l : (List af)} {t12_2 : Int} {K : KT} (h : W (k9 l t12_2) (nE (oK l) (nC l) K)) : ah Tryz.prog 58 (List.drop 0 uM) (bg 1 (aM (ah Tryz.prog 58 (List.drop 3 pF) K) K)) (agC l t12_2) :=
  ah.qD mixed [] [0,2,3,4,10,11,12,21,22,23,33,34,35] 0 5 5 (.nx (fun K => let a1_ := l.getD (Int.toNat t12_2) bq; let a2_ := i64 (l.length : Int); (0 ≤ t12_2) ∧ (t12_2 < (l.length : Int)) ∧ ((bif (bif (decide (a1_.Person < 1)) then true else (decide (99 < a1_.Person))) then wK K .ret (⟨[sv 0 (aZ l),sv 2 (bl false),sv 3 (i64 t12_2),sv 4 (.ptr 0 3 0 0),sv 10 (aZ l),sv 11 a2_,sv 12 (i64 t12_2),un 21,un 22,un 23],[(0,some (.bx (bp a1_)))],1⟩) else (bif (a1_.Kind == 1) then (bif (bif (decide (a1_.Days < 1)) then true else (decide (73049 < a1_.Days))) then wK K .ret (⟨[sv 0 (aZ l),sv 2 (bl false),sv 3 (i64 t12_2),sv 4 (.ptr 0 3 0 0),sv 10 (aZ l),sv 11 a2_,sv 12 (i64 t12_2),un 21,un 22,un 23,un 33,un 34,un 35],[(0,some (.bx (bp a1_)))],1⟩) else wK K .normal (⟨[sv 0 (aZ l),sv 3 (i64 t12_2),sv 4 (.ptr 0 3 0 0),sv 10 (aZ l),sv 11 a2_,sv 12 (i64 t12_2),un 21,un 22,un 23,un 33,un 34,un 35],[(0,some (.bx (bp a1_)))],1⟩)) else (bif (a1_.Kind == 2) then (bif (a1_.Kind == 2) then (bif (a1_.Days != 0) then wK K .ret (⟨[sv 0 (aZ l),sv 2 (bl false),sv 3 (i64 t12_2),sv 4 (.ptr 0 3 0 0),sv 10 (aZ l),sv 11 a2_,sv 12 (i64 t12_2),un 21,un 22,un 23],[(0,some (.bx (bp a1_)))],1⟩) else wK K .normal (⟨[sv 0 (aZ l),sv 3 (i64 t12_2),sv 4 (.ptr 0 3 0 0),sv 10 (aZ l),sv 11 a2_,sv 12 (i64 t12_2),un 21,un 22,un 23],[(0,some (.bx (bp a1_)))],1⟩)) else wK K .ret (⟨[sv 0 (aZ l),sv 2 (bl false),sv 3 (i64 t12_2),sv 4 (.ptr 0 3 0 0),sv 10 (aZ l),sv 11 a2_,sv 12 (i64 t12_2),un 21,un 22,un 23],[(0,some (.bx (bp a1_)))],1⟩)) else (bif (a1_.Kind == 3) then (bif (a1_.Days != 0) then wK K .ret (⟨[sv 0 (aZ l),sv 2 (bl false),sv 3 (i64 t12_2),sv 4 (.ptr 0 3 0 0),sv 10 (aZ l),sv 11 a2_,sv 12 (i64 t12_2),un 21,un 22,un 23],[(0,some (.bx (bp a1_)))],1⟩) else wK K .normal (⟨[sv 0 (aZ l),sv 3 (i64 t12_2),sv 4 (.ptr 0 3 0 0),sv 10 (aZ l),sv 11 a2_,sv 12 (i64 t12_2),un 21,un 22,un 23],[(0,some (.bx (bp a1_)))],1⟩)) else wK K .ret (⟨[sv 0 (aZ l),sv 2 (bl false),sv 3 (i64 t12_2),sv 4 (.ptr 0 3 0 0),sv 10 (aZ l),sv 11 a2_,sv 12 (i64 t12_2),un 21,un 22,un 23],[(0,some (.bx (bp a1_)))],1⟩))))))) (aT h fun _ h => (al h (fun _ h => (lf h (.cn [2]))) (fun _ h => (al h (fun _ h => (al h (fun _ h => (lf h (.cn [2]))) (fun _ h => (lf (JJ h) (.cn [0,3,4,10,11,12]))))) (fun _ h => (al h (fun _ h => (al h (fun _ h => (al h (fun _ h => (lf h (.cn [2]))) (fun _ h => (lf (JJ h) (.cn [0,3,4,10,11,12]))))) (fun _ h => (lf h (.cn [2]))))) (fun _ h => (al h (fun _ h => (al h (fun _ h => (lf h (.cn [2]))) (fun _ h => (lf (JJ h) (.cn [0,3,4,10,11,12]))))) (fun _ h => (lf h (.cn [2]))))))))))))
def UD (l : (List af)) (t12_1 : Int) : St := ⟨[sv 0 (aZ l),sv 10 (aZ l),sv 11 (i64 (l.length : Int)),sv 12 (i64 t12_1)],[],0⟩
noncomputable def tW (l : (List af)) (t12_1 : Int) : Option ((Int) ⊕ ((Unit) ⊕ (Unit))) := (k9 l t12_1)
theorem ael : List.drop 2 pF = .block 1 (aj (aQ pF 2)) :: List.drop 3 pF := by kernel_rfl
theorem YW {l : (List af)} {t12_1 : Int} {K : KT} (h : W (tW l t12_1) (nE (oK l) (nC l) K)) : ah Tryz.prog 58 (List.drop 2 pF) K (UD l t12_1) :=
  ah.at_ ael (ah.cons_block (ah.en (ZH h) (.refl _)))
def ai8 (l : (List af)) (t12 : Int) : St := ⟨[sv 0 (aZ l),sv 10 (aZ l),sv 11 (i64 (l.length : Int)),sv 12 (i64 t12)],[],0⟩
noncomputable def gP (l : (List af)) (t12 : Int) : Option ((Int) ⊕ ((Unit) ⊕ (Unit))) := (bif (decide (t12 < (l.length : Int))) then (tW l t12) else (some (Sum.inr (Sum.inl ()))))
theorem afn {l : (List af)} {t12 : Int} {K : KT} (h : W (gP l t12) (nE (oK l) (nC l) K)) : ah Tryz.prog 58 (List.drop 0 pF) K (ai8 l t12) :=
  ah.qD mixed [] [0,10,11,12,21,22,23,33,34,35] 0 2 2 (.nx (fun K => (bif (decide (t12 < (l.length : Int))) then wK K .normal (UD l t12) else wK K (.exit 0) (⟨[sv 0 (aZ l),sv 10 (aZ l),sv 11 (i64 (l.length : Int)),sv 12 (i64 t12)],[],0⟩))) (al h (fun _ h => (l0 (YW h))) (fun _ h => (lf h (.cn [])))))
noncomputable def jg (l : (List af)) (s : (Int)) : Option ((Int) ⊕ ((Unit) ⊕ (Unit))) := match s with | t12 => gP l t12
theorem X6 (l : (List af)) (s : (Int)) : Pp Tryz.prog 58 (List.drop 0 pF) (oK l s) (jg l s) (cq (oK l) (nC l)) := fun K h => match s,h with | t12,h => (afn h)
theorem RB (l : (List af)) : ∀ (r : ((Unit) ⊕ (Unit))) (J : St → Prop) (K : KT),nC l r K → nC l r (aM J K)
  | (.inl s),_,_,h => h
  | (.inr s),_,_,h => h
def RU : St := ⟨[],[],0⟩
noncomputable def t6 : Option (Bool) := (some true)
theorem aeH {K : KT} (h : W (t6) (rE Kq K)) : ah Tryz.prog 58 (List.drop 5 wP) K (RU) :=
  ah.qE mixed [] [2] 5 2 (.nx (fun K => wK K .ret (Kq true)) (l0 h))
def ait (l : (List af)) : St := ⟨[sv 0 (aZ l),sv 10 (aZ l),sv 11 (i64 (l.length : Int)),sv 12 (i64 0)],[],0⟩
noncomputable def rO (l : (List af)) (r : ((Unit) ⊕ (Unit))) : Option (Bool) := match r with | (.inl ()) => t6 | (.inr ()) => (some false)
noncomputable def tQ (l : (List af)) : Option (Bool) := (aN (jg l) 0).bind (rO l)
theorem aao : List.drop 4 wP = .block 0 (.loop (aj (aj (aQ wP 4)))) :: List.drop 5 wP := by kernel_rfl
theorem aic (l : (List af)) (K : KT) : ∀ r : ((Unit) ⊕ (Unit)),W (rO l r) (rE Kq K) → nC l r (wK (bg 0 (aM (ah Tryz.prog 58 (List.drop 5 wP) K) K)))
  | (.inl ()),h => ⟨(RU),(.refl _),(aeH h)⟩
  | (.inr ()),h => ⟨(Kq false),(.refl _),h⟩
theorem aeB {l : (List af)} {K : KT} (h : W (tQ l) (rE Kq K)) : ah Tryz.prog 58 (List.drop 4 wP) K (ait l) :=
  ah.at_ aao (ah.cons_loop (aE.weak (aE.ent (.refl _) (aE.loopF (x := aj (aj (aQ wP 4))) (f := jg l) (emb := oK l) (E := nC l) (X6 l) (RB l) (bT h (aic l K))))))
def agZ (l : (List af)) : St := ⟨[sv 0 (aZ l)],[],0⟩
noncomputable def lc (l : (List af)) : Option (Bool) := (bif (decide (12 < (l.length : Int))) then (some false) else (tQ l))
theorem X2 {l : (List af)} {K : KT} (h : W (lc l) (rE Kq K)) : ah Tryz.prog 58 (List.drop 0 wP) K (agZ l) :=
  ah.qD mixed [] [0,2,10,11,12,21,22,23,33,34,35] 0 4 4 (.nx (fun K => (bif (decide (12 < (l.length : Int))) then wK K .ret (⟨[sv 0 (aZ l),sv 2 (bl false)],[],0⟩) else wK K .normal (⟨[sv 0 (aZ l),sv 2 (bl false),sv 10 (aZ l),sv 11 (i64 (l.length : Int)),sv 12 (i64 0)],[],0⟩))) (al h (fun _ h => (lf h (.cn [2]))) (fun _ h => (lf (aeB h) (.cn [0,10,11,12])))))
noncomputable def kQ (l : (List af)) : Option (Bool) := lc l
noncomputable def vA : bW := fO Bh kQ false CG
theorem D6 : Meets Tryz.prog 35 vA := dq Tryz.f35 (ar Tryz.f35) [.tmp 2] 58 fun u0 y h => @X2 u0 _ (bi.2 ⟨y,h,(cH (bl y) (VLe.rfl' _))⟩)
noncomputable abbrev e35 : FE Tryz.prog := ⟨35, .pure vA,D6⟩
noncomputable def wJ : List Code := aD (ar Tryz.f36)
noncomputable def QS : List Code := aD (aj (aj (aQ wJ 2)))
def Bi (x_1 : (Int × Int)) : bS := .data (.tup [(i64 x_1.1),(i64 x_1.2)])
def Kt (x_1 : (Int × Int)) : St := ⟨[sv 2 (i64 x_1.1),sv 3 (i64 x_1.2)],[],0⟩
def AO (l : (List af)) (s : (Int × Int × Int)) : St := match s with | (sum_1,days_1,t8) => ⟨[sv 2 (i64 sum_1),sv 3 (i64 days_1),sv 6 (aZ l),sv 7 (i64 (l.length : Int)),sv 8 (i64 t8)],[],0⟩
def Y6 (l : (List af)) (s : Int × Int) : St := match s with | (sum_2,days_2) => ⟨[sv 2 (i64 sum_2),sv 3 (i64 days_2)],[],0⟩
def xN (l : (List af)) (r : ((Int × Int))) (K : KT) : Prop := match r with | s => K (.exit 0) (Y6 l s)
def EK (sum days : Int) (l : (List af)) (t8_1 : Int) : St := ⟨[sv 2 (i64 sum),sv 3 (i64 days),sv 6 (aZ l),sv 7 (i64 (l.length : Int)),sv 8 (i64 t8_1)],[],0⟩
noncomputable def gu (sum days : Int) (l : (List af)) (t8_1 : Int) : Option ((Int × Int × Int) ⊕ ((Int × Int))) := (some (Sum.inl (sum,days,(ak (t8_1 + 1)))))
theorem FW {sum days : Int} {l : (List af)} {t8_1 : Int} {K : KT} (h : W (gu sum days l t8_1) (nE (AO l) (xN l) K)) : ah Tryz.prog 35 (List.drop 3 QS) K (EK sum days l t8_1) :=
  ah.qE mixed [] [2,3,6,7,8] 3 1 (.nx (fun K => wK K .normal (AO l (sum,days,(ak (t8_1 + 1))))) (l0 h))
def ahB (sum_1 days_1 : Int) (l : (List af)) (t8 : Int) : St := ⟨[sv 2 (i64 sum_1),sv 3 (i64 days_1),sv 6 (aZ l),sv 7 (i64 (l.length : Int)),sv 8 (i64 t8)],[],0⟩
noncomputable def gq (sum_1 days_1 : Int) (l : (List af)) (t8 : Int) : Option ((Int × Int × Int) ⊕ ((Int × Int))) := (bif (decide (t8 < (l.length : Int))) then gd (0 ≤ t8 ∧ t8 < (l.length : Int)) ((bif ((l.getD (Int.toNat t8) bq).Kind == 1) then (gu sum_1 (ak (days_1 + (l.getD (Int.toNat t8) bq).Days)) l t8) else (bif ((l.getD (Int.toNat t8) bq).Kind == 2) then (gu (ak (sum_1 + 20)) days_1 l t8) else (bif ((l.getD (Int.toNat t8) bq).Kind == 3) then (gu (ak (sum_1 + 30)) days_1 l t8) else (gu sum_1 days_1 l t8))))) else (some (Sum.inr (sum_1,days_1))))
theorem aeN {sum_1 days_1 : Int} {l : (List af)} {t8 : Int} {K : KT} (h : W (gq sum_1 days_1 l t8) (nE (AO l) (xN l) K)) : ah Tryz.prog 35 (List.drop 0 QS) K (ahB sum_1 days_1 l t8) :=
  ah.qD mixed [] [2,3,6,7,8] 0 3 3 (.nx (fun K => let a1_ := l.getD (Int.toNat t8) bq; (bif (decide (t8 < (l.length : Int))) then (0 ≤ t8) ∧ (t8 < (l.length : Int)) ∧ ((bif (a1_.Kind == 1) then wK K .normal (EK sum_1 (ak (days_1 + a1_.Days)) l t8) else (bif (a1_.Kind == 2) then wK K .normal (EK (ak (sum_1 + 20)) days_1 l t8) else (bif (a1_.Kind == 3) then wK K .normal (EK (ak (sum_1 + 30)) days_1 l t8) else wK K .normal (EK sum_1 days_1 l t8))))) else wK K (.exit 0) (⟨[sv 2 (i64 sum_1),sv 3 (i64 days_1),sv 6 (aZ l),sv 7 (i64 (l.length : Int)),sv 8 (i64 t8)],[],0⟩))) (al h (fun _ h => (aT h fun _ h => (al h (fun _ h => (l0 (FW h))) (fun _ h => (al h (fun _ h => (l0 (FW h))) (fun _ h => (al h (fun _ h => (l0 (FW h))) (fun _ h => (l0 (FW h)))))))))) (fun _ h => (lf h (.cn [2,3])))))
noncomputable def iV (l : (List af)) (s : (Int × Int × Int)) : Option ((Int × Int × Int) ⊕ ((Int × Int))) := match s with | (sum_1,days_1,t8) => gq sum_1 days_1 l t8
theorem acf (l : (List af)) (s : (Int × Int × Int)) : Pp Tryz.prog 35 (List.drop 0 QS) (AO l s) (iV l s) (cq (AO l) (xN l)) := fun K h => match s,h with | (sum_1,days_1,t8),h => (aeN h)
theorem QF (l : (List af)) : ∀ (r : ((Int × Int))) (J : St → Prop) (K : KT),xN l r K → xN l r (aM J K)
  | s,_,_,h => h
def Uj (sum_3 days_3 : Int) : St := ⟨[sv 2 (i64 sum_3),sv 3 (i64 days_3)],[],0⟩
noncomputable def kc (sum_3 days_3 : Int) : Option ((Int × Int)) := (bif (decide (0 < days_3)) then (some ((ak (sum_3 + 60)),days_3)) else (some (sum_3,days_3)))
theorem abY {sum_3 days_3 : Int} {K : KT} (h : W (kc sum_3 days_3) (rE Kt K)) : ah Tryz.prog 35 (List.drop 3 wJ) K (Uj sum_3 days_3) :=
  ah.qE mixed [] [2,3] 3 4 (.nx (fun K => (bif (decide (0 < days_3)) then wK K .ret (Kt ((ak (sum_3 + 60)),days_3)) else wK K .ret (Kt (sum_3,days_3)))) (al h (fun _ h => (l0 h)) (fun _ h => (l0 h))))
def R7 (l : (List af)) : St := ⟨[sv 2 (i64 0),sv 3 (i64 0),sv 6 (aZ l),sv 7 (i64 (l.length : Int)),sv 8 (i64 0)],[],0⟩
noncomputable def qL (l : (List af)) (r : ((Int × Int))) : Option ((Int × Int)) := match r with | (sum_2,days_2) => (kc sum_2 days_2)
noncomputable def tv (l : (List af)) : Option ((Int × Int)) := (aN (iV l) (0,0,0)).bind (qL l)
theorem act : List.drop 2 wJ = .block 0 (.loop (aj (aj (aQ wJ 2)))) :: List.drop 3 wJ := by kernel_rfl
theorem aiu (l : (List af)) (K : KT) : ∀ r : ((Int × Int)),W (qL l r) (rE Kt K) → xN l r (wK (bg 0 (aM (ah Tryz.prog 35 (List.drop 3 wJ) K) K)))
  | (sum_2,days_2),h => ⟨(Uj sum_2 days_2),(.refl _),(abY h)⟩
theorem abp {l : (List af)} {K : KT} (h : W (tv l) (rE Kt K)) : ah Tryz.prog 35 (List.drop 2 wJ) K (R7 l) :=
  ah.at_ act (ah.cons_loop (aE.weak (aE.ent (.refl _) (aE.loopF (x := aj (aj (aQ wJ 2))) (f := iV l) (emb := AO l) (E := xN l) (acf l) (QF l) (bT h (aiu l K))))))
def ai2 (l : (List af)) : St := ⟨[sv 0 (aZ l)],[],0⟩
noncomputable def s8 (l : (List af)) : Option ((Int × Int)) := (tv l)
theorem acX {l : (List af)} {K : KT} (h : W (s8 l) (rE Kt K)) : ah Tryz.prog 35 (List.drop 0 wJ) K (ai2 l) :=
  ah.qD mixed [] [2,3,6,7,8] 0 2 2 (.nx (fun K => wK K .normal (R7 l)) (l0 (abp h)))
noncomputable def eT (l : (List af)) : Option ((Int × Int)) := s8 l
noncomputable def tP : bW := fO Bh eT ((0 : Int),(0 : Int)) Bi
theorem Cz : Meets Tryz.prog 36 tP := dq Tryz.f36 (ar Tryz.f36) [.tmp 2, .tmp 3] 35 fun u0 y h => @acX u0 _ (bi.2 ⟨y,h,(cH (.tup [(i64 y.1),(i64 y.2)]) (VLe.tup (VLes.cons (VLe.rfl' _) (VLes.cons (VLe.rfl' _) (VLes.nil)))))⟩)
noncomputable abbrev Xh : FE Tryz.prog := ⟨36, .pure tP,Cz⟩
noncomputable def ajw : List Code := aD (ar Tryz.f61)
def Ga (x_2 : Int) : bS := .data (.c (.lit (.int .u64 x_2)))
def V5 (x_2 : Int) : St := ⟨[sv 2 (.c (.lit (.int .u64 x_2)))],[],0⟩
def ah6 (x_1 : Int) : St := ⟨[sv 0 (i64 x_1)],[],0⟩
noncomputable def mR (x_1 : Int) : Option (Int) := (bif (decide (x_1 < 0)) then (some (IntKind.u64.wrap (0 - (IntKind.u64.wrap x_1)))) else (some (IntKind.u64.wrap x_1)))
theorem adO {x_1 : Int} {K : KT} (h : W (mR x_1) (rE V5 K)) : ah Tryz.prog 10 (List.drop 0 ajw) K (ah6 x_1) :=
  ah.qE mixed [] [2] 0 5 (.nx (fun K => (bif (decide (x_1 < 0)) then wK K .ret (V5 (IntKind.u64.wrap (0 - (IntKind.u64.wrap x_1)))) else wK K .ret (V5 (IntKind.u64.wrap x_1)))) (al h (fun _ h => (l0 h)) (fun _ h => (l0 h))))
noncomputable def fU (x_1 : Int) : Option (Int) := mR x_1
noncomputable def zu : bW := fO (aI .i64) fU (0 : Int) Ga
theorem HN : Meets Tryz.prog 61 zu := dq Tryz.f61 (ar Tryz.f61) [.tmp 2] 10 fun u0 y h => @adO u0 _ (bi.2 ⟨y,h,(cH (.c (.lit (.int .u64 y))) (VLe.rfl' _))⟩)
noncomputable abbrev e61 : FE Tryz.prog := ⟨61, .pure zu,HN⟩
noncomputable def xb : List Code := aD (ar Tryz.f62)
noncomputable def Xk : List Code := aD (aj (aj (aQ xb 1)))
def Hy (x_1 : Int) : bS := .data (.c (.lit (.int .u64 x_1)))
def NI (x_1 : Int) : St := ⟨[sv 4 (.c (.lit (.int .u64 x_1)))],[],0⟩
def ET (a b : Int) (s : (Int × Int)) : St := match s with | (a_1,b_1) => ⟨[sv 0 (.c (.lit (.int .u64 a_1))),sv 1 (.c (.lit (.int .u64 b_1)))],[],0⟩
def adn (a b : Int) (s : Int) : St := match s with | a_2 => ⟨[sv 0 (.c (.lit (.int .u64 a_2)))],[],0⟩
def BL (a b : Int) (r : ((Int))) (K : KT) : Prop := match r with | s => K (.exit 0) (adn a b s)
def ahF (a_1 b_1 : Int) : St := ⟨[sv 0 (.c (.lit (.int .u64 a_1))),sv 1 (.c (.lit (.int .u64 b_1)))],[],0⟩
noncomputable def yS (a_1 b_1 : Int) : Option ((Int × Int) ⊕ ((Int))) := (bif (b_1 != 0) then gd (b_1 ≠ 0) ((some (Sum.inl (b_1,(Int.tmod a_1 b_1))))) else (some (Sum.inr a_1)))
theorem afe {a_1 b_1 a b : Int} {K : KT} (h : W (yS a_1 b_1) (nE (ET a b) (BL a b) K)) : ah Tryz.prog 12 (List.drop 0 Xk) K (ahF a_1 b_1) :=
  ah.qE mixed [] [0,1] 0 3 (.nx (fun K => (bif (b_1 != 0) then (b_1 ≠ 0) ∧ (wK K .normal (ET a b (b_1,(Int.tmod a_1 b_1)))) else wK K (.exit 0) (⟨[sv 0 (.c (.lit (.int .u64 a_1))),sv 1 (.c (.lit (.int .u64 b_1)))],[],0⟩))) (al h (fun _ h => (bF h fun _ h => (l0 h))) (fun _ h => (lf h (.cn [0])))))
noncomputable def lE (a b : Int) (s : (Int × Int)) : Option ((Int × Int) ⊕ ((Int))) := match s with | (a_1,b_1) => yS a_1 b_1
theorem Yq (a b : Int) (s : (Int × Int)) : Pp Tryz.prog 12 (List.drop 0 Xk) (ET a b s) (lE a b s) (cq (ET a b) (BL a b)) := fun K h => match s,h with | (a_1,b_1),h => (afe h)
theorem Q9 (a b : Int) : ∀ (r : ((Int))) (J : St → Prop) (K : KT),BL a b r K → BL a b r (aM J K)
  | s,_,_,h => h
def U1 (a_3 : Int) : St := ⟨[sv 0 (.c (.lit (.int .u64 a_3)))],[],0⟩
noncomputable def zj (a_3 : Int) : Option (Int) := (some a_3)
theorem acw {a_3 : Int} {K : KT} (h : W (zj a_3) (rE NI K)) : ah Tryz.prog 12 (List.drop 2 xb) K (U1 a_3) :=
  ah.qE mixed [] [4] 2 2 (.nx (fun K => wK K .ret (NI a_3)) (l0 h))
def R5 (a b : Int) : St := ⟨[sv 0 (.c (.lit (.int .u64 a))),sv 1 (.c (.lit (.int .u64 b)))],[],0⟩
noncomputable def qe (a b : Int) (r : ((Int))) : Option (Int) := match r with | a_2 => (zj a_2)
noncomputable def zo (a b : Int) : Option (Int) := (aN (lE a b) (a,b)).bind (qe a b)
theorem YJ : List.drop 1 xb = .block 0 (.loop (aj (aj (aQ xb 1)))) :: List.drop 2 xb := by kernel_rfl
theorem aij (a b : Int) (K : KT) : ∀ r : ((Int)),W (qe a b r) (rE NI K) → BL a b r (wK (bg 0 (aM (ah Tryz.prog 12 (List.drop 2 xb) K) K)))
  | a_2,h => ⟨(U1 a_2),(.refl _),(acw h)⟩
theorem aeZ {a b : Int} {K : KT} (h : W (zo a b) (rE NI K)) : ah Tryz.prog 12 (List.drop 1 xb) K (R5 a b) :=
  ah.at_ YJ (ah.cons_loop (aE.weak (aE.ent (.refl _) (aE.loopF (x := aj (aj (aQ xb 1))) (f := lE a b) (emb := ET a b) (E := BL a b) (Yq a b) (Q9 a b) (bT h (aij a b K))))))
def aif (a b : Int) : St := ⟨[sv 0 (.c (.lit (.int .u64 a))),sv 1 (.c (.lit (.int .u64 b)))],[],0⟩
noncomputable def zb (a b : Int) : Option (Int) := (zo a b)
theorem acF {a b : Int} {K : KT} (h : W (zb a b) (rE NI K)) : ah Tryz.prog 12 (List.drop 0 xb) K (aif a b) :=
  ah.qD mixed [] [0,1] 0 1 1 (.nx (fun K => wK K .normal (R5 a b)) (l0 (aeZ h)))
noncomputable def ta (a b : Int) : Option (Int) := zb a b
noncomputable def Bq : bW := fK (aI .u64) (aI .u64) ta (0 : Int) Hy
theorem IX : Meets Tryz.prog 62 Bq := dp Tryz.f62 (ar Tryz.f62) [.tmp 4] 12 fun u0 u1 y h => @acF u0 u1 _ (bi.2 ⟨y,h,(cH (.c (.lit (.int .u64 y))) (VLe.rfl' _))⟩)
noncomputable abbrev e62 : FE Tryz.prog := ⟨62, .pure Bq,IX⟩
noncomputable def ajM : List Code := aD (ar Tryz.f63)
def D3 (x_1 : (aR × Int)) : bS := .data (.tup [(.agg [(i64 x_1.1.Num),(i64 x_1.1.Den)]),(i64 x_1.2)])
def Q0 (x_1 : (aR × Int)) : St := ⟨[sv 6 (.ptr 0 2 0 0),sv 7 (i64 x_1.2)],[(0,some (.box [(i64 x_1.1.Num),(i64 x_1.1.Den)]))],1⟩
def aga (negative : Bool) (num den : dC) : St := ⟨[sv 0 (bl negative),sv 1 (.ag (ox num)),sv 2 (.ag (ox den))],[],0⟩
noncomputable def lu (negative : Bool) (num den : dC) : Option ((aR × Int)) := (bif (bif (bif (bif (num.hi != 0) then true else (decide (1000000000000000 < num.lo))) then true else (den.hi != 0)) then true else (decide (1000000000 < den.lo))) then (some ((aR.mk 0 0),2)) else (bif negative then (some ((aR.mk (ak (0 - (ak num.lo))) (ak den.lo)),0)) else (some ((aR.mk (ak num.lo) (ak den.lo)),0))))
theorem aa6 {negative : Bool} {num den : dC} {K : KT} (h : W (lu negative num den) (rE Q0 K)) : ah Tryz.prog 41 (List.drop 0 ajM) K (aga negative num den) :=
  ah.qE mixed [] [6,7] 0 8 (.nx (fun K => (bif (bif (bif (bif (num.hi != 0) then true else (decide (1000000000000000 < num.lo))) then true else (den.hi != 0)) then true else (decide (1000000000 < den.lo))) then wK K .ret (Q0 ((aR.mk 0 0),2)) else (bif negative then wK K .ret (Q0 ((aR.mk (ak (0 - (ak num.lo))) (ak den.lo)),0)) else wK K .ret (Q0 ((aR.mk (ak num.lo) (ak den.lo)),0))))) (al h (fun _ h => (l0 h)) (fun _ h => (al h (fun _ h => (l0 h)) (fun _ h => (l0 h))))))
noncomputable def tq (negative : Bool) (num den : dC) : Option ((aR × Int)) := lu negative num den
noncomputable def wB : bW := xt aB zB zB tq (bd,(0 : Int)) D3
theorem E5 : Meets Tryz.prog 63 wB := sG Tryz.f63 (ar Tryz.f63) [.cell 6 56, .tmp 7] 41 fun u0 u1 u2 y h => @aa6 u0 u1 u2 _ (bi.2 ⟨y,h,(cH (.tup [(.agg [(i64 y.1.Num),(i64 y.1.Den)]),(i64 y.2)]) (VLe.tup (VLes.cons (VLe.rfl' _) (VLes.cons (VLe.rfl' _) (VLes.nil)))))⟩)
noncomputable abbrev e63 : FE Tryz.prog := ⟨63, .pure wB,E5⟩
noncomputable def ajG : List Code := aD (ar Tryz.f37)
def Gh (x_1 : (aR × Int)) : bS := .data (.tup [(.agg [(i64 x_1.1.Num),(i64 x_1.1.Den)]),(i64 x_1.2)])
def VB (x_1 : (aR × Int)) : St := ⟨[sv 4 (.ptr 0 2 0 0),sv 5 (i64 x_1.2)],[(0,some (.box [(i64 x_1.1.Num),(i64 x_1.1.Den)]))],1⟩
def ahf (num den : Int) : St := ⟨[sv 0 (i64 num),sv 1 (i64 den)],[],0⟩
noncomputable def nd (num den : Int) : Option ((aR × Int)) := (bif (den == 0) then (some ((aR.mk 0 0),3)) else (fU num).bind fun r_1 => ((fU den).bind fun r_2 => ((ta r_1 r_2).bind fun r_3 => (gd (r_3 ≠ 0) (gd (r_3 ≠ 0) ((tq (bif (!((decide (num < 0)) == (decide (den < 0)))) then (num != 0) else false) (dC.mk 0 (IntKind.u64.wrap (Int.tdiv r_1 r_3))) (dC.mk 0 (IntKind.u64.wrap (Int.tdiv r_2 r_3)))).bind fun r_4 => ((some (r_4.1,r_4.2)))))))))
theorem acs {num den : Int} {K : KT} (h : W (nd num den) (rE VB K)) : ah Tryz.prog 39 (List.drop 0 ajG) K (ahf num den) :=
  ah.qE mixed [e61,e62,e63] [4,5] 0 7 (.nx (fun K => let a2_ := ta ((fU num).getD 0) ((fU den).getD 0); let a1_ := tq (bif (!((decide (num < 0)) == (decide (den < 0)))) then (num != 0) else false) (dC.mk 0 (IntKind.u64.wrap (Int.tdiv ((fU num).getD 0) (a2_.getD 0)))) (dC.mk 0 (IntKind.u64.wrap (Int.tdiv ((fU den).getD 0) (a2_.getD 0)))); (bif (den == 0) then wK K .ret (VB ((aR.mk 0 0),3)) else ((fU num).isSome = true) ∧ ((fU den).isSome = true) ∧ ((a2_.isSome = true) ∧ (((a2_.getD 0) ≠ 0) ∧ ((a2_.getD 0) ≠ 0) ∧ (a1_.isSome = true) ∧ (wK K .ret (VB ((a1_.getD (bd,0)).1,(a1_.getD (bd,0)).2))))))) (al h (fun _ h => (l0 h)) (fun _ h => (aq 0 h fun _ h => (aq 0 h fun _ h => (aq 0 h fun _ h => (bF h fun _ h => (bF h fun _ h => (aq (bd,0) h fun _ h => (l0 h))))))))))
noncomputable def dW (num den : Int) : Option ((aR × Int)) := nd num den
noncomputable def y7 : bW := fK (aI .i64) (aI .i64) dW (bd,(0 : Int)) Gh
theorem Hr : Meets Tryz.prog 37 y7 := dp Tryz.f37 (ar Tryz.f37) [.cell 4 56, .tmp 5] 39 fun u0 u1 y h => @acs u0 u1 _ (bi.2 ⟨y,h,(cH (.tup [(.agg [(i64 y.1.Num),(i64 y.1.Den)]),(i64 y.2)]) (VLe.tup (VLes.cons (VLe.rfl' _) (VLes.cons (VLe.rfl' _) (VLes.nil)))))⟩)
noncomputable abbrev e37 : FE Tryz.prog := ⟨37, .pure y7,Hr⟩
noncomputable def uU : List Code := aD (ar Tryz.f13)
noncomputable def WM : List Code := aD (aj (aj (aQ uU 7)))
def zV (x_1 : ((List aR) × Int)) : bS := .new (.tup [(mY x_1.1),(i64 x_1.2)])
def NY (x_1 : ((List aR) × Int)) : St := ⟨[sv 2 (.row 0 2 0 x_1.1.length),sv 3 (i64 x_1.2)],[(pK 0 56 x_1.1)],1⟩
def Jc (days whole : Int) (l : (List af)) (s : ((List aR) × Int)) : St := match s with | (out_1,t26) => ⟨[sv 5 (i64 days),sv 6 (i64 whole),sv 7 (.row 0 2 0 out_1.length),sv 24 (aZ l),sv 25 (i64 (l.length : Int)),sv 26 (i64 t26)],[(pK 0 56 out_1)],1⟩
def ad1 (days whole : Int) (l : (List af)) (s : (List aR)) : St := match s with | out_2 => ⟨[sv 7 (.row 0 2 0 out_2.length)],[(pK 0 56 out_2)],1⟩
def zX (days whole : Int) (l : (List af)) (r : (((List aR)))) (K : KT) : Prop := match r with | s => K (.exit 0) (ad1 days whole l s)
def ahX (days whole : Int) (out_1 : (List aR)) (l : (List af)) (t26 : Int) : St := ⟨[sv 5 (i64 days),sv 6 (i64 whole),sv 7 (.row 0 2 0 out_1.length),sv 24 (aZ l),sv 25 (i64 (l.length : Int)),sv 26 (i64 t26)],[(pK 0 56 out_1)],1⟩
noncomputable def gi (days whole : Int) (out_1 : (List aR)) (l : (List af)) (t26 : Int) : Option (((List aR) × Int) ⊕ (((List aR)))) := (bif (decide (t26 < (l.length : Int))) then gd (0 ≤ t26 ∧ t26 < (l.length : Int)) ((bif ((l.getD (Int.toNat t26) bq).Kind == 1) then (dW (ak (60 * (l.getD (Int.toNat t26) bq).Days)) (ak (days * whole))).bind fun r_3 => (gd (cL (out_1.length + 1) 16) ((some (Sum.inl ((out_1 ++ ([r_3.1] : List aR)),(ak (t26 + 1))))))) else (bif ((l.getD (Int.toNat t26) bq).Kind == 3) then (dW 30 whole).bind fun r_4 => (gd (cL (out_1.length + 1) 16) ((some (Sum.inl ((out_1 ++ ([r_4.1] : List aR)),(ak (t26 + 1))))))) else (dW 20 whole).bind fun r_5 => (gd (cL (out_1.length + 1) 16) ((some (Sum.inl ((out_1 ++ ([r_5.1] : List aR)),(ak (t26 + 1)))))))))) else (some (Sum.inr out_1)))
theorem ZX {days whole : Int} {out_1 : (List aR)} {l : (List af)} {t26 : Int} {K : KT} (h : W (gi days whole out_1 l t26) (nE (Jc days whole l) (zX days whole l) K)) : ah Tryz.prog 55 (List.drop 0 WM) K (ahX days whole out_1 l t26) :=
  ah.qE mixed [e37] [5,6,7,24,25,26] 0 4 (.nx (fun K => let a1_ := out_1.length + 1; let a2_ := l.getD (Int.toNat t26) bq; let a3_ := i64 (l.length : Int); let a4_ := dW (ak (60 * a2_.Days)) (ak (days * whole)); let a5_ := out_1.length = out_1.length; let a6_ := a1_ * 16 ≤ 140737488355328; let a7_ := a1_ ≤ 140737488355328; let a8_ := i64 (ak (t26 + 1)); let a9_ := Q8 out_1; (bif (decide (t26 < (l.length : Int))) then (0 ≤ t26) ∧ (t26 < (l.length : Int)) ∧ ((bif (a2_.Kind == 1) then (a4_.isSome = true) ∧ (a5_ ∧ a6_ ∧ a7_ ∧ (wK K .normal (⟨[sv 5 (i64 days),sv 6 (i64 whole),sv 7 (.row 0 2 0 a1_),sv 24 (aZ l),sv 25 a3_,sv 26 a8_],[(0,some (.row 56 2 a1_ (fun i => bif Nat.blt i out_1.length then a9_ i else (fun i => (dw 2 (fh ((a4_.getD (bd,0)).1))) (0 + i)) (i - out_1.length))))],1⟩))) else (bif (a2_.Kind == 3) then ((dW 30 whole).isSome = true) ∧ (a5_ ∧ a6_ ∧ a7_ ∧ (wK K .normal (⟨[sv 5 (i64 days),sv 6 (i64 whole),sv 7 (.row 0 2 0 a1_),sv 24 (aZ l),sv 25 a3_,sv 26 a8_],[(0,some (.row 56 2 a1_ (fun i => bif Nat.blt i out_1.length then a9_ i else (fun i => (dw 2 (fh (((dW 30 whole).getD (bd,0)).1))) (0 + i)) (i - out_1.length))))],1⟩))) else ((dW 20 whole).isSome = true) ∧ (a5_ ∧ a6_ ∧ a7_ ∧ (wK K .normal (⟨[sv 5 (i64 days),sv 6 (i64 whole),sv 7 (.row 0 2 0 a1_),sv 24 (aZ l),sv 25 a3_,sv 26 a8_],[(0,some (.row 56 2 a1_ (fun i => bif Nat.blt i out_1.length then a9_ i else (fun i => (dw 2 (fh (((dW 20 whole).getD (bd,0)).1))) (0 + i)) (i - out_1.length))))],1⟩)))))) else wK K (.exit 0) (⟨[sv 5 (i64 days),sv 6 (i64 whole),sv 7 (.row 0 2 0 out_1.length),sv 24 (aZ l),sv 25 a3_,sv 26 (i64 t26)],[(pK 0 56 out_1)],1⟩))) (al h (fun _ h => (aT h fun _ h => (al h (fun _ h => (aq (bd,0) h fun _ h => ⟨rfl,(aT h fun _ h => (lf h (.of (.q rfl (.q rfl (.cons rfl (.rown (ce rfl rfl)) (.qs 3 .nil)))) (.row rfl (ai.app .b (ai.zero (ai.l1 (enc := fh) (z := bd) 2 (((dW (ak (60 * (l.getD (Int.toNat t26) bq).Days)) (ak (days * whole))).getD (bd,0)).1) rfl))) .nil rfl) rfl)))⟩)) (fun _ h => (al h (fun _ h => (aq (bd,0) h fun _ h => ⟨rfl,(aT h fun _ h => (lf h (.of (.q rfl (.q rfl (.cons rfl (.rown (ce rfl rfl)) (.qs 3 .nil)))) (.row rfl (ai.app .b (ai.zero (ai.l1 (enc := fh) (z := bd) 2 (((dW 30 whole).getD (bd,0)).1) rfl))) .nil rfl) rfl)))⟩)) (fun _ h => (aq (bd,0) h fun _ h => ⟨rfl,(aT h fun _ h => (lf h (.of (.q rfl (.q rfl (.cons rfl (.rown (ce rfl rfl)) (.qs 3 .nil)))) (.row rfl (ai.app .b (ai.zero (ai.l1 (enc := fh) (z := bd) 2 (((dW 20 whole).getD (bd,0)).1) rfl))) .nil rfl) rfl)))⟩))))))) (fun _ h => (lf h (.cn [7])))))
noncomputable def iU (days whole : Int) (l : (List af)) (s : ((List aR) × Int)) : Option (((List aR) × Int) ⊕ (((List aR)))) := match s with | (out_1,t26) => gi days whole out_1 l t26
theorem afb (days whole : Int) (l : (List af)) (s : ((List aR) × Int)) : Pp Tryz.prog 55 (List.drop 0 WM) (Jc days whole l s) (iU days whole l s) (cq (Jc days whole l) (zX days whole l)) := fun K h => match s,h with | (out_1,t26),h => (ZX h)
theorem RA (days whole : Int) (l : (List af)) : ∀ (r : (((List aR)))) (J : St → Prop) (K : KT),zX days whole l r K → zX days whole l r (aM J K)
  | s,_,_,h => h
def Vb (out_3 : (List aR)) : St := ⟨[sv 7 (.row 0 2 0 out_3.length)],[(pK 0 56 out_3)],1⟩
noncomputable def tf (out_3 : (List aR)) : Option (((List aR) × Int)) := (some (out_3,0))
theorem acW {out_3 : (List aR)} {K : KT} (h : W (tf out_3) (rE NY K)) : ah Tryz.prog 55 (List.drop 8 uU) K (Vb out_3) :=
  ah.qE mixed [] [2,3] 8 2 (.nx (fun K => wK K .ret (NY (out_3,0))) (l0 h))
def ag3 (days whole : Int) (l : (List af)) : St := ⟨[sv 5 (i64 days),sv 6 (i64 whole),sv 7 (.c .nil),sv 24 (aZ l),sv 25 (i64 (l.length : Int)),sv 26 (i64 0)],[],0⟩
noncomputable def qr (days whole : Int) (l : (List af)) (r : (((List aR)))) : Option (((List aR) × Int)) := match r with | out_2 => (tf out_2)
noncomputable def nc (days whole : Int) (l : (List af)) : Option (((List aR) × Int)) := (aN (iU days whole l) (([] : List aR),0)).bind (qr days whole l)
theorem aaZ : List.drop 7 uU = .block 0 (.loop (aj (aj (aQ uU 7)))) :: List.drop 8 uU := by kernel_rfl
theorem afH (days whole : Int) (l : (List af)) (K : KT) : ∀ r : (((List aR))),W (qr days whole l r) (rE NY K) → zX days whole l r (wK (bg 0 (aM (ah Tryz.prog 55 (List.drop 8 uU) K) K)))
  | out_2,h => ⟨(Vb out_2),(.refl _),(acW h)⟩
theorem Zr {days whole : Int} {l : (List af)} {K : KT} (h : W (nc days whole l) (rE NY K)) : ah Tryz.prog 55 (List.drop 7 uU) K (ag3 days whole l) :=
  ah.at_ aaZ (ah.cons_loop (aE.weak (aE.ent (.trans (.nilrow 7 0 56 2 (bf fh bd []) (Nat.le_of_ble_eq_true rfl) rfl) (.cn [5,6,7,24,25,26])) (aE.loopF (x := aj (aj (aQ uU 7))) (f := iU days whole l) (emb := Jc days whole l) (E := zX days whole l) (afb days whole l) (RA days whole l) (bT h (afH days whole l K))))))
def Sy (l : (List af)) : St := ⟨[sv 0 (aZ l)],[],0⟩
noncomputable def kh (l : (List af)) : Option (((List aR) × Int)) := (kQ l).bind fun r_1 => ((bif (!r_1) then (some (([] : List aR),1)) else (eT l).bind fun r_2 => ((nc r_2.2 (if (100 : Int) < r_2.1 then r_2.1 else (100 : Int)) l))))
theorem adS (l : (List af)) (K : KT) {L1_ : List af} (hL1_ : lst iG l.length (eZ l) = L1_) {L2_ : List af} (hL2_ : lst iG l.length (eZ l) = L2_) :
    ev Tryz.prog (cy [e35,Xh]) 55 (ofItems ((List.drop 0 uU).take 7)) (cN [2,3,5,6,7,24,25,26] K) (Sy l) =
    (let a1_ := (eT L2_).getD (0,0); (Jw l) ∧ ((kQ L1_).isSome = true) ∧ ((bif (!((kQ L1_).getD false)) then wK K .ret (⟨[sv 2 (.c .nil),sv 3 (i64 1)],[],0⟩) else (Jw l) ∧ ((eT L2_).isSome = true) ∧ (wK K .normal (⟨[sv 2 (.c .nil),sv 3 (i64 0),sv 5 (i64 a1_.2),sv 6 (i64 (if (100 : Int) < a1_.1 then a1_.1 else (100 : Int))),sv 7 (.c .nil),sv 24 (aZ l),sv 25 (i64 (l.length : Int)),sv 26 (i64 0)],[],0⟩))))) := by subst hL1_ hL2_; kernel_rfl
theorem YM {l : (List af)} {K : KT} (h : W (kh l) (rE NY K)) : ah Tryz.prog 55 (List.drop 0 uU) K (Sy l) :=
  ah.qD mixed [e35,Xh] [2,3,5,6,7,24,25,26] 0 7 7 (.of (adS l _ (lb cA) (lb cA)) (⟨kb cA,(aq false h fun _ h => (al h (fun _ h => (lf h (.trans (.nilrow 2 0 56 2 (bf fh bd []) (Nat.le_of_ble_eq_true rfl) rfl) (.cn [2,3])))) (fun _ h => ⟨kb cA,(aq (0,0) h fun _ h => (lf (Zr h) (.cn [5,6,7,24,25,26])))⟩)))⟩))
noncomputable def cE (l : (List af)) : Option (((List aR) × Int)) := kh l
noncomputable def tK : bW := fO Bh cE (([] : List aR),(0 : Int)) zV
theorem CN : Meets Tryz.prog 13 tK := dq Tryz.f13 (ar Tryz.f13) [.tmp 2, .tmp 3] 55 fun u0 y h => @YM u0 _ (bi.2 ⟨y,h,(cH (.tup [(.row 0 2 0 y.1.length),(i64 y.2)]) (⟨VLe.tup (VLes.cons (VLe.sl (ai.ls0 fh bd y.1)) (VLes.cons (VLe.rfl' _) (VLes.nil))),⟨⟨_,_,_,rfl,fun i hi d hd => JZ _ d hd⟩,rfl,trivial⟩⟩))⟩)
noncomputable abbrev XA : FE Tryz.prog := ⟨13, .pure tK,CN⟩
end Go.Ax
