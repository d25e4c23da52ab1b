import Derived.Test.YtgamnldjlncdlaaGreatZA9
import Derived.Test.YtgamnldjlncdlaaGreatZLay
import Derived.Test.YtgamnldjlncdlaaGreatZA14
import Derived.Test.YtgamnldjlncdlaaGreatRows
/- Types of the program, and functions of it: printed by a program, checked by the kernel. -/
set_option linter.all false
set_option maxRecDepth 100000
namespace Go.Ax
open Go.Proofs Go.Proofs.YtgamnldjlncdlaaGreat
noncomputable abbrev tP:Program:=Tryz.prog
noncomputable section
attribute [local irreducible] PT.opt
theorem mixed:tP.follows .mixedOrders = true:=by kernel_rfl
theorem aw:ef aP bh:=.flat (fun _=>rfl) fun _=>rfl
theorem DT (x:Int) (d:D) (h:d∈aP x):d.scal = true:=by
  simp only [aP,List.mem_singleton] at h; subst h; rfl
theorem mZ:ef lS nH:=.flat (fun _=>rfl) fun _=>rfl
theorem L0 (x:Int) (d:D) (h:d∈lS x):d.scal = true:=by
  simp only [lS,List.mem_singleton] at h; subst h; rfl
theorem Ph (x:ByteArray) (d:D) (h:d∈Dd x):d.scal = true:=by
  simp only [Dd,List.mem_singleton] at h; subst h; rfl
structure aN where
  Issuer:Int
  Number:Int
  Version:Int
  Withdrawn:Bool
  Person:Int
  Kind:Int
  State:Int
  Seat:Int
  From:Int
  Length:Int
  Share:Int
  Amount:Int
  Ref:Int
def bq:aN:=⟨(0:Int),(0:Int),(0:Int),false,(0:Int),(0:Int),(0:Int),(0:Int),(0:Int),(0:Int),(0:Int),(0:Int),(0:Int)⟩
def ct (x:aN):List D:=[(di x.Issuer),(di x.Number),(di x.Version),(db x.Withdrawn),(di x.Person),(di x.Kind),(di x.State),(di x.Seat),(di x.From),(di x.Length),(di x.Share),(di x.Amount),(di x.Ref)]
def dV:List D→aN
  | [.lit (.int .i64 a1), .lit (.int .i64 a2), .lit (.int .i64 a3), .lit (.bool a4), .lit (.int .i64 a5), .lit (.int .i64 a6), .lit (.int .i64 a7), .lit (.int .i64 a8), .lit (.int .i64 a9), .lit (.int .i64 a10), .lit (.int .i64 a11), .lit (.int .i64 a12), .lit (.int .i64 a13)]=>(aN.mk a1 a2 a3 a4 a5 a6 a7 a8 a9 a10 a11 a12 a13)
  | _=>bq
theorem iu:ef ct dV:=.flat (fun _=>rfl) fun _=>rfl
def kE (x:(List Int)):List D:=[(.sl 1 x.length (aV aP (0:Int) x))]
def fg:List D→(List Int)
  | [d]=>Mw bh d
  | _=>[]
theorem Nz:ef kE fg:=by
  intro x ds h
  obtain ⟨d,ds,rfl,h1,h⟩:=h.cons_inv
  obtain rfl:=h.nil_inv
  exact yY aw h1
structure al where
  From:Int
  Mode:Int
  Unit:Int
  Credits:(List Int)
  Series:(List Int)
  Lets:(List (List Int))
  Ifs:(List (List Int))
  Pays:(List (List Int))
  Cuts:(List (List Int))
  Twist:Int
def aT (x:al):List D:=[(di x.From),(di x.Mode),(di x.Unit),(.sl 1 x.Credits.length (aV aP (0:Int) x.Credits)),(.sl 1 x.Series.length (aV aP (0:Int) x.Series)),(.sl 1 x.Lets.length (aV kE ([]:List Int) x.Lets)),(.sl 1 x.Ifs.length (aV kE ([]:List Int) x.Ifs)),(.sl 1 x.Pays.length (aV kE ([]:List Int) x.Pays)),(.sl 1 x.Cuts.length (aV kE ([]:List Int) x.Cuts)),(di x.Twist)]
structure ab where
  From:Int
  To:Int
def aq:ab:=⟨(0:Int),(0:Int)⟩
def ab.s_To (x:ab) (v:Int):ab:=⟨x.From,v⟩
def aO (x:ab):List D:=[(di x.From),(di x.To)]
def bB:List D→ab
  | [.lit (.int .i64 a1), .lit (.int .i64 a2)]=>(ab.mk a1 a2)
  | _=>aq
theorem aW:ef aO bB:=.flat (fun _=>rfl) fun _=>rfl
theorem eA (x:ab) (d:D) (h:d∈aO x):d.scal = true:=by
  have:(aO x).all D.scal = true:=rfl
  exact List.all_eq_true.1 this d h
structure ae where
  Issuer:Int
  Number:Int
  Version:Int
  Withdrawn:Bool
  Person:Int
  Kind:Int
  State:Int
  Span:ab
  Seat:Int
  Share:Int
  Currency:Int
  Amount:Int
  Ref:Int
def aU:ae:=⟨(0:Int),(0:Int),(0:Int),false,(0:Int),(0:Int),(0:Int),aq,(0:Int),(0:Int),(0:Int),(0:Int),(0:Int)⟩
def aR (x:ae):List D:=[(di x.Issuer),(di x.Number),(di x.Version),(db x.Withdrawn),(di x.Person),(di x.Kind),(di x.State),(di x.Span.From),(di x.Span.To),(di x.Seat),(di x.Share),(di x.Currency),(di x.Amount),(di x.Ref)]
def dF:List D→ae
  | [.lit (.int .i64 a1), .lit (.int .i64 a2), .lit (.int .i64 a3), .lit (.bool a4), .lit (.int .i64 a5), .lit (.int .i64 a6), .lit (.int .i64 a7), .lit (.int .i64 a8), .lit (.int .i64 a9), .lit (.int .i64 a10), .lit (.int .i64 a11), .lit (.int .i64 a12), .lit (.int .i64 a13), .lit (.int .i64 a14)]=>(ae.mk a1 a2 a3 a4 a5 a6 a7 (ab.mk a8 a9) a10 a11 a12 a13 a14)
  | _=>aU
theorem cf:ef aR dF:=.flat (fun _=>rfl) fun _=>rfl
theorem lY (x:ae) (d:D) (h:d∈aR x):d.scal = true:=by
  have:(aR x).all D.scal = true:=rfl
  exact List.all_eq_true.1 this d h
structure bt where
  Mode:Int
  Unit:Int
def Tq:bt:=⟨(0:Int),(0:Int)⟩
structure ap where
  Kind:Int
  Limit:Int
def cX:ap:=⟨(0:Int),(0:Int)⟩
def cO (x:ap):List D:=[(di x.Kind),(di x.Limit)]
def bA:List D→ap
  | [.lit (.int .i64 a1), .lit (.int .i64 a2)]=>(ap.mk a1 a2)
  | _=>cX
theorem ja:ef cO bA:=.flat (fun _=>rfl) fun _=>rfl
structure aF where
  Num:Int
  Den:Int
def gp:aF:=⟨(0:Int),(0:Int)⟩
def mj (x:aF):List D:=[(di x.Num),(di x.Den)]
def KO:List D→aF
  | [.lit (.int .i64 a1), .lit (.int .i64 a2)]=>(aF.mk a1 a2)
  | _=>gp
structure aY where
  Year:Int
  Factor:aF
def eh:aY:=⟨(0:Int),gp⟩
def fb (x:aY):List D:=[(di x.Year),(di x.Factor.Num),(di x.Factor.Den)]
def bN:List D→aY
  | [.lit (.int .i64 a1), .lit (.int .i64 a2), .lit (.int .i64 a3)]=>(aY.mk a1 (aF.mk a2 a3))
  | _=>eh
theorem kz:ef fb bN:=.flat (fun _=>rfl) fun _=>rfl
structure ay where
  Op:Int
  Value:aF
  Dim:Int
  Name:ByteArray
  Args:(List ay)
def aM:ay:=⟨(0:Int),gp,(0:Int),(ak []),([]:List ay)⟩
mutual
def eGExprR:ay→List D
  | ⟨x0,x1,x2,x3,x4⟩=>[(di x0),(di x1.Num),(di x1.Den),(di x2),(ds x3),(.sl 6 x4.length (aGExpr x4))]
def aGExpr:List ay→Nat→List D
  | []=>fun _=>[]
  | x :: r=>fun i=>match i with | 0=>eGExprR x | j+1=>aGExpr r j
end
def ee (x:ay):List D:=[(di x.Op),(di x.Value.Num),(di x.Value.Den),(di x.Dim),(ds x.Name),(.sl 6 x.Args.length (aGExpr x.Args))]
theorem R2 (x:ay):eGExprR x = ee x:=by cases x; unfold eGExprR; rfl
theorem rJ:∀ (l:List ay) (i:Nat),i < l.length→aGExpr l i = ee (l.getD i aM)
  | [],i,h=>by simp at h
  | x :: r,0,_=>by unfold aGExpr; exact R2 x
  | x :: r,i+1,h=>by unfold aGExpr; rw [List.getD_cons_succ]; exact rJ r i (by simpa using h)
theorem ac.aGExpr (l:List ay):ac ee aM l.length (aGExpr l) l:=⟨rfl,fun i hi=>.of_eq (rJ l i hi)⟩
theorem mr {k' k n:Nat} {el:Nat→List D} {l:List ay} (hk:0 < n→k = k') (h:ac ee aM n el l):eN (.sl k n el) (.sl k' l.length (aGExpr l)):=.row h.len hk fun i hi=>by rw [rJ l i (h.len ▸ hi)]; exact h.els i hi
mutual
def dGExpr:List D→ay
  | [.lit (.int .i64 a1), .lit (.int .i64 a2), .lit (.int .i64 a3), .lit (.int .i64 a4), .lit (.string a5),q]=>⟨a1,(aF.mk a2 a3),a4,a5,dGExprs q⟩
  | _=>aM
def dGExprs:D→List ay
  | .sl _ n el=>(List.range n).map fun i=>dGExpr (el i)
  | _=>[]
end
theorem eY:ef ee dGExpr:=by
  have key:∀ (n:Nat) (x:ay),SizeOf.sizeOf x < n→∀ ds,be ds (ee x)→dGExpr ds = x:=by
    intro n
    induction n with
    | zero=>intro x h; omega
    | succ n ih =>
      intro x hx ds h
      obtain ⟨d1,ds,rfl,h1,h⟩:=h.cons_inv
      obtain ⟨d2,ds,rfl,h2,h⟩:=h.cons_inv
      obtain ⟨d3,ds,rfl,h3,h⟩:=h.cons_inv
      obtain ⟨d4,ds,rfl,h4,h⟩:=h.cons_inv
      obtain ⟨d5,ds,rfl,h5,h⟩:=h.cons_inv
      obtain ⟨d6,ds,rfl,h6,h⟩:=h.cons_inv
      obtain rfl:=h.nil_inv
      obtain rfl:=h1.lit_inv rfl
      obtain rfl:=h2.lit_inv rfl
      obtain rfl:=h3.lit_inv rfl
      obtain rfl:=h4.lit_inv rfl
      obtain rfl:=h5.lit_inv rfl
      have e:dGExprs d6 = x.Args:=by
        rcases h6.nil_or with ⟨rfl,h0⟩ | ⟨k,el,rfl,h1⟩
        · unfold dGExprs; exact (List.eq_nil_of_length_eq_zero h0).symm
        · unfold dGExprs
          refine List.ext_getElem (by simp) fun i a b=>?_
          have hs:SizeOf.sizeOf (x.Args[i]) < n:=by
            have s1:=List.sizeOf_lt_of_mem (List.getElem_mem b)
            have s2:SizeOf.sizeOf x.Args < SizeOf.sizeOf x:=by cases x; simp; omega
            omega
          have:=ih _ hs (el i) (by have:=h1 i b; rw [rJ _ i b,List.getD_eq_getElem?_getD,List.getElem?_eq_getElem b] at this; exact this)
          simpa using this
      unfold dGExpr
      rw [e]
      cases x; rfl
  exact fun x ds h=>key _ x (Nat.lt_succ_self _) ds h
theorem xD {d:D} {k:Nat} {l:List ay} (h:eN d (.sl k l.length (aGExpr l))):dGExprs d = l:=by
  rcases h.nil_or with ⟨rfl,h0⟩ | ⟨k,el,rfl,h1⟩
  · unfold dGExprs; exact (List.eq_nil_of_length_eq_zero h0).symm
  · unfold dGExprs
    refine List.ext_getElem (by simp) fun i a b=>?_
    have:=eY _ (el i) (by have:=h1 i b; rw [rJ _ i b,List.getD_eq_getElem?_getD,List.getElem?_eq_getElem b] at this; exact this)
    simpa using this
theorem ay.eta (x:ay):(ay.mk x.Op (aF.mk x.Value.Num x.Value.Den) x.Dim x.Name x.Args) = x:=by cases x; rfl
structure bL where
  Name:ByteArray
  Body:ay
def fQ:bL:=⟨(ak []),aM⟩
def bL.s_Name (x:bL) (v:ByteArray):bL:=⟨v,x.Body⟩
def bL.s_Body (x:bL) (v:ay):bL:=⟨x.Name,v⟩
def jp (x:bL):List D:=[(ds x.Name),(di x.Body.Op),(di x.Body.Value.Num),(di x.Body.Value.Den),(di x.Body.Dim),(ds x.Body.Name),(.sl 6 x.Body.Args.length (aGExpr x.Body.Args))]
def cA:List D→bL
  | [.lit (.string a1), .lit (.int .i64 a2), .lit (.int .i64 a3), .lit (.int .i64 a4), .lit (.int .i64 a5), .lit (.string a6),a7]=>(bL.mk a1 (ay.mk a2 (aF.mk a3 a4) a5 a6 (dGExprs a7)))
  | _=>fQ
theorem pR:ef jp cA:=by
  intro x ds h
  obtain ⟨d1,ds,rfl,h1,h⟩:=h.cons_inv
  obtain ⟨d2,ds,rfl,h2,h⟩:=h.cons_inv
  obtain ⟨d3,ds,rfl,h3,h⟩:=h.cons_inv
  obtain ⟨d4,ds,rfl,h4,h⟩:=h.cons_inv
  obtain ⟨d5,ds,rfl,h5,h⟩:=h.cons_inv
  obtain ⟨d6,ds,rfl,h6,h⟩:=h.cons_inv
  obtain ⟨d7,ds,rfl,h7,h⟩:=h.cons_inv
  obtain rfl:=h.nil_inv
  obtain rfl:=h1.lit_inv rfl
  obtain rfl:=h2.lit_inv rfl
  obtain rfl:=h3.lit_inv rfl
  obtain rfl:=h4.lit_inv rfl
  obtain rfl:=h5.lit_inv rfl
  obtain rfl:=h6.lit_inv rfl
  simp only [cA,xD h7,ay.eta]
structure bC where
  Benefit:Int
  If:ay
  Pay:ay
def dj:bC:=⟨(0:Int),aM,aM⟩
def bC.s_Benefit (x:bC) (v:Int):bC:=⟨v,x.If,x.Pay⟩
def bC.s_Pay (x:bC) (v:ay):bC:=⟨x.Benefit,x.If,v⟩
def eE (x:bC):List D:=[(di x.Benefit),(di x.If.Op),(di x.If.Value.Num),(di x.If.Value.Den),(di x.If.Dim),(ds x.If.Name),(.sl 6 x.If.Args.length (aGExpr x.If.Args)),(di x.Pay.Op),(di x.Pay.Value.Num),(di x.Pay.Value.Den),(di x.Pay.Dim),(ds x.Pay.Name),(.sl 6 x.Pay.Args.length (aGExpr x.Pay.Args))]
def bJ:List D→bC
  | [.lit (.int .i64 a1), .lit (.int .i64 a2), .lit (.int .i64 a3), .lit (.int .i64 a4), .lit (.int .i64 a5), .lit (.string a6),a7, .lit (.int .i64 a8), .lit (.int .i64 a9), .lit (.int .i64 a10), .lit (.int .i64 a11), .lit (.string a12),a13]=>(bC.mk a1 (ay.mk a2 (aF.mk a3 a4) a5 a6 (dGExprs a7)) (ay.mk a8 (aF.mk a9 a10) a11 a12 (dGExprs a13)))
  | _=>dj
theorem kx:ef eE bJ:=by
  intro x ds h
  obtain ⟨d1,ds,rfl,h1,h⟩:=h.cons_inv
  obtain ⟨d2,ds,rfl,h2,h⟩:=h.cons_inv
  obtain ⟨d3,ds,rfl,h3,h⟩:=h.cons_inv
  obtain ⟨d4,ds,rfl,h4,h⟩:=h.cons_inv
  obtain ⟨d5,ds,rfl,h5,h⟩:=h.cons_inv
  obtain ⟨d6,ds,rfl,h6,h⟩:=h.cons_inv
  obtain ⟨d7,ds,rfl,h7,h⟩:=h.cons_inv
  obtain ⟨d8,ds,rfl,h8,h⟩:=h.cons_inv
  obtain ⟨d9,ds,rfl,h9,h⟩:=h.cons_inv
  obtain ⟨d10,ds,rfl,h10,h⟩:=h.cons_inv
  obtain ⟨d11,ds,rfl,h11,h⟩:=h.cons_inv
  obtain ⟨d12,ds,rfl,h12,h⟩:=h.cons_inv
  obtain ⟨d13,ds,rfl,h13,h⟩:=h.cons_inv
  obtain rfl:=h.nil_inv
  obtain rfl:=h1.lit_inv rfl
  obtain rfl:=h2.lit_inv rfl
  obtain rfl:=h3.lit_inv rfl
  obtain rfl:=h4.lit_inv rfl
  obtain rfl:=h5.lit_inv rfl
  obtain rfl:=h6.lit_inv rfl
  obtain rfl:=h8.lit_inv rfl
  obtain rfl:=h9.lit_inv rfl
  obtain rfl:=h10.lit_inv rfl
  obtain rfl:=h11.lit_inv rfl
  obtain rfl:=h12.lit_inv rfl
  simp only [bJ,xD h7,xD h13,ay.eta]
structure cS where
  Benefit:Int
  By:ay
def ij:cS:=⟨(0:Int),aM⟩
def eI (x:cS):List D:=[(di x.Benefit),(di x.By.Op),(di x.By.Value.Num),(di x.By.Value.Den),(di x.By.Dim),(ds x.By.Name),(.sl 6 x.By.Args.length (aGExpr x.By.Args))]
def bD:List D→cS
  | [.lit (.int .i64 a1), .lit (.int .i64 a2), .lit (.int .i64 a3), .lit (.int .i64 a4), .lit (.int .i64 a5), .lit (.string a6),a7]=>(cS.mk a1 (ay.mk a2 (aF.mk a3 a4) a5 a6 (dGExprs a7)))
  | _=>ij
theorem i7:ef eI bD:=by
  intro x ds h
  obtain ⟨d1,ds,rfl,h1,h⟩:=h.cons_inv
  obtain ⟨d2,ds,rfl,h2,h⟩:=h.cons_inv
  obtain ⟨d3,ds,rfl,h3,h⟩:=h.cons_inv
  obtain ⟨d4,ds,rfl,h4,h⟩:=h.cons_inv
  obtain ⟨d5,ds,rfl,h5,h⟩:=h.cons_inv
  obtain ⟨d6,ds,rfl,h6,h⟩:=h.cons_inv
  obtain ⟨d7,ds,rfl,h7,h⟩:=h.cons_inv
  obtain rfl:=h.nil_inv
  obtain rfl:=h1.lit_inv rfl
  obtain rfl:=h2.lit_inv rfl
  obtain rfl:=h3.lit_inv rfl
  obtain rfl:=h4.lit_inv rfl
  obtain rfl:=h5.lit_inv rfl
  obtain rfl:=h6.lit_inv rfl
  simp only [bD,xD h7,ay.eta]
structure az where
  From:Int
  Rounding:bt
  Credits:(List ap)
  Series:(List aY)
  Lets:(List bL)
  Grants:(List bC)
  Reduces:(List cS)
def rA:az:=⟨(0:Int),Tq,([]:List ap),([]:List aY),([]:List bL),([]:List bC),([]:List cS)⟩
def eX (x:az):List D:=[(di x.From),(di x.Rounding.Mode),(di x.Rounding.Unit),(.sl 2 x.Credits.length (aV cO cX x.Credits)),(.sl 3 x.Series.length (aV fb eh x.Series)),(.sl 7 x.Lets.length (aV jp fQ x.Lets)),(.sl 13 x.Grants.length (aV eE dj x.Grants)),(.sl 7 x.Reduces.length (aV eI ij x.Reduces))]
structure cm where
  hi:Int
  lo:Int
def kC:cm:=⟨(0:Int),(0:Int)⟩
def kD (x:cm):List D:=[(.lit (.int .u64 x.hi)),(.lit (.int .u64 x.lo))]
def vu:List D→cm
  | [.lit (.int .u64 a1), .lit (.int .u64 a2)]=>(cm.mk a1 a2)
  | _=>kC
structure au where
  Name:ByteArray
  Dim:Int
def cw:au:=⟨(ak []),(0:Int)⟩
def dU (x:au):List D:=[(ds x.Name),(di x.Dim)]
def cW:List D→au
  | [.lit (.string a1), .lit (.int .i64 a2)]=>(au.mk a1 a2)
  | _=>cw
theorem ib:ef dU cW:=.flat (fun _=>rfl) fun _=>rfl
structure aa where
  l:(List Int)
  at_:Int
  left:Int
def af:aa:=⟨([]:List Int),(0:Int),(0:Int)⟩
def aj (x:aa):List D:=[(.sl 1 x.l.length (aV aP (0:Int) x.l)),(di x.at_),(di x.left)]
structure ax where
  State:Int
  Version:az
def cU:ax:=⟨(0:Int),rA⟩
def gv (x:ax):List D:=[(di x.State),(di x.Version.From),(di x.Version.Rounding.Mode),(di x.Version.Rounding.Unit),(.sl 2 x.Version.Credits.length (aV cO cX x.Version.Credits)),(.sl 3 x.Version.Series.length (aV fb eh x.Version.Series)),(.sl 7 x.Version.Lets.length (aV jp fQ x.Version.Lets)),(.sl 13 x.Version.Grants.length (aV eE dj x.Version.Grants)),(.sl 7 x.Version.Reduces.length (aV eI ij x.Version.Reduces))]
def qO:List D→ax
  | [.lit (.int .i64 a1), .lit (.int .i64 a2), .lit (.int .i64 a3), .lit (.int .i64 a4),a5,a6,a7,a8,a9]=>(ax.mk a1 (az.mk a2 (bt.mk a3 a4) (Mw bA a5) (Mw bN a6) (Mw cA a7) (Mw bJ a8) (Mw bD a9)))
  | _=>cU
theorem kV:ef gv qO:=by
  intro x ds h
  obtain ⟨d1,ds,rfl,h1,h⟩:=h.cons_inv
  obtain ⟨d2,ds,rfl,h2,h⟩:=h.cons_inv
  obtain ⟨d3,ds,rfl,h3,h⟩:=h.cons_inv
  obtain ⟨d4,ds,rfl,h4,h⟩:=h.cons_inv
  obtain ⟨d5,ds,rfl,h5,h⟩:=h.cons_inv
  obtain ⟨d6,ds,rfl,h6,h⟩:=h.cons_inv
  obtain ⟨d7,ds,rfl,h7,h⟩:=h.cons_inv
  obtain ⟨d8,ds,rfl,h8,h⟩:=h.cons_inv
  obtain ⟨d9,ds,rfl,h9,h⟩:=h.cons_inv
  obtain rfl:=h.nil_inv
  obtain rfl:=h1.lit_inv rfl
  obtain rfl:=h2.lit_inv rfl
  obtain rfl:=h3.lit_inv rfl
  obtain rfl:=h4.lit_inv rfl
  simp only [qO,yY ja h5,yY kz h6,yY pR h7,yY kx h8,yY i7 h9]
structure aZ where
  Span:ab
  State:Int
  Rule:Int
def gg:aZ:=⟨aq,(0:Int),(0:Int)⟩
def ju (x:aZ):List D:=[(di x.Span.From),(di x.Span.To),(di x.State),(di x.Rule)]
def oF:List D→aZ
  | [.lit (.int .i64 a1), .lit (.int .i64 a2), .lit (.int .i64 a3), .lit (.int .i64 a4)]=>(aZ.mk (ab.mk a1 a2) a3 a4)
  | _=>gg
theorem ig:ef ju oF:=.flat (fun _=>rfl) fun _=>rfl
structure ao where
  State:Int
  Rank:Int
  Span:ab
def cG:ao:=⟨(0:Int),(0:Int),aq⟩
def dJ (x:ao):List D:=[(di x.State),(di x.Rank),(di x.Span.From),(di x.Span.To)]
def l9:List D→ao
  | [.lit (.int .i64 a1), .lit (.int .i64 a2), .lit (.int .i64 a3), .lit (.int .i64 a4)]=>(ao.mk a1 a2 (ab.mk a3 a4))
  | _=>cG
theorem HD:ef dJ l9:=.flat (fun _=>rfl) fun _=>rfl
theorem yc (x:ao) (d:D) (h:d∈dJ x):d.scal = true:=by
  have:(dJ x).all D.scal = true:=rfl
  exact List.all_eq_true.1 this d h
structure bX where
  kind:Int
  rank:Int
def mx:bX:=⟨(0:Int),(0:Int)⟩
def fj (x:bX):List D:=[(di x.kind),(di x.rank)]
theorem Pf (x:bX) (d:D) (h:d∈fj x):d.scal = true:=by
  have:(fj x).all D.scal = true:=rfl
  exact List.all_eq_true.1 this d h
abbrev bF (l:List Int):Nat→List D:=aV aP (0:Int) l
abbrev fG (l:List Int):V:=.c (.sl 1 l.length (aV aP (0:Int) l))
abbrev ik (o t:Nat) (l:List Int):Nat × Option Ob:=(o,some (.row t 1 l.length (aV aP (0:Int) l)))
abbrev yt (l:List Int):Prop:=aJ aP bh 1 1 l.length (aV aP (0:Int) l)
abbrev bw:RT Int:=⟨aP,bh,(0:Int),1,aw⟩
abbrev YP:AC (List Int):=aL aP bh (0:Int) 1
abbrev Ol (l:List Int):Nat→List D:=aV lS (0:Int) l
abbrev Ep (o t:Nat) (l:List Int):Nat × Option Ob:=(o,some (.row t 1 l.length (aV lS (0:Int) l)))
abbrev BJ:RT Int:=⟨lS,nH,(0:Int),1,mZ⟩
abbrev Sc (l:List ByteArray):Nat→List D:=aV Dd (ak []) l
abbrev wH (o t:Nat) (l:List ByteArray):Nat × Option Ob:=(o,some (.row t 1 l.length (aV Dd (ak []) l)))
abbrev eW (l:List aN):V:=.c (.sl 13 l.length (aV ct bq l))
abbrev FY:RT aN:=⟨ct,dV,bq,13,iu⟩
abbrev vB:AC (List aN):=aL ct dV bq 13
def oB:List D→Bool
  | [.lit (.int .i64 _), .lit (.int .i64 _), .lit (.int .i64 _), .lit (.bool _), .lit (.int .i64 _), .lit (.int .i64 _), .lit (.int .i64 _), .lit (.int .i64 _), .lit (.int .i64 _), .lit (.int .i64 _), .lit (.int .i64 _), .lit (.int .i64 _), .lit (.int .i64 _)]=>true
  | _=>false
theorem Fv (ds:List D) (h:oB ds = true):ct (dV ds) = ds:=by
  unfold oB at h
  split at h
  · rfl
  · cases h
abbrev Gk:AC aN:=aG oB ct dV Fv
def qZ:AC al where
  dec
    | .agg [(.c (.lit (.int .i64 a1))),(.c (.lit (.int .i64 a2))),(.c (.lit (.int .i64 a3))),(.c (.sl k4 n4 e4)),(.c (.sl k5 n5 e5)),(.c (.sl k6 n6 e6)),(.c (.sl k7 n7 e7)),(.c (.sl k8 n8 e8)),(.c (.sl k9 n9 e9)),(.c (.lit (.int .i64 a10)))]=>some ([aJ aP bh 1 k4 n4 e4,aJ aP bh 1 k5 n5 e5,aJ kE fg 1 k6 n6 e6,aJ kE fg 1 k7 n7 e7,aJ kE fg 1 k8 n8 e8,aJ kE fg 1 k9 n9 e9],(al.mk a1 a2 a3 (lst bh n4 e4) (lst bh n5 e5) (lst fg n6 e6) (lst fg n7 e7) (lst fg n8 e8) (lst fg n9 e9) a10))
    | _=>none
  can x:=.ag (aT x)
  ok v p x h hp:=by
    split at h
    · cases h
      obtain ⟨g0,hp⟩:=ce hp
      obtain ⟨g1,hp⟩:=ce hp
      obtain ⟨g2,hp⟩:=ce hp
      obtain ⟨g3,hp⟩:=ce hp
      obtain ⟨g4,hp⟩:=ce hp
      obtain ⟨g5,hp⟩:=ce hp
      exact VLe.agg (VLes.cons .r (VLes.cons .r (VLes.cons .r (VLes.cons (VLe.slk g0.1 (ac.of_ok g0)) (VLes.cons (VLe.slk g1.1 (ac.of_ok g1)) (VLes.cons (VLe.slk g2.1 (ac.of_ok g2)) (VLes.cons (VLe.slk g3.1 (ac.of_ok g3)) (VLes.cons (VLe.slk g4.1 (ac.of_ok g4)) (VLes.cons (VLe.slk g5.1 (ac.of_ok g5)) (VLes.cons .r VLes.nil))))))))))
    · cases h
abbrev bE (l:List ab):Nat→List D:=aV aO aq l
abbrev cF (l:List ab):V:=.c (.sl 2 l.length (aV aO aq l))
abbrev bp (o t:Nat) (l:List ab):Nat × Option Ob:=(o,some (.row t 2 l.length (aV aO aq l)))
abbrev mP:RT ab:=⟨aO,bB,aq,2,aW⟩
abbrev jc:AC (List ab):=aL aO bB aq 2
def O2:List D→Bool
  | [.lit (.int .i64 _), .lit (.int .i64 _)]=>true
  | _=>false
theorem afj (ds:List D) (h:O2 ds = true):aO (bB ds) = ds:=by
  unfold O2 at h
  split at h
  · rfl
  · cases h
abbrev yB:AC ab:=aG O2 aO bB afj
abbrev et (l:List ae):Nat→List D:=aV aR aU l
abbrev bk (l:List ae):V:=.c (.sl 14 l.length (aV aR aU l))
abbrev bP (o t:Nat) (l:List ae):Nat × Option Ob:=(o,some (.row t 14 l.length (aV aR aU l)))
abbrev P2 (l:List ae):Prop:=aJ aR dF 14 14 l.length (aV aR aU l)
abbrev jG:RT ae:=⟨aR,dF,aU,14,cf⟩
abbrev ii:AC (List ae):=aL aR dF aU 14
def OV:List D→Bool
  | [.lit (.int .i64 _), .lit (.int .i64 _), .lit (.int .i64 _), .lit (.bool _), .lit (.int .i64 _), .lit (.int .i64 _), .lit (.int .i64 _), .lit (.int .i64 _), .lit (.int .i64 _), .lit (.int .i64 _), .lit (.int .i64 _), .lit (.int .i64 _), .lit (.int .i64 _), .lit (.int .i64 _)]=>true
  | _=>false
theorem afC (ds:List D) (h:OV ds = true):aR (dF ds) = ds:=by
  unfold OV at h
  split at h
  · rfl
  · cases h
abbrev wk:AC ae:=aG OV aR dF afC
abbrev gE (l:List ap):Nat→List D:=aV cO cX l
abbrev oz (l:List ap):V:=.c (.sl 2 l.length (aV cO cX l))
abbrev ck (o t:Nat) (l:List ap):Nat × Option Ob:=(o,some (.row t 2 l.length (aV cO cX l)))
abbrev Jl (l:List ap):Prop:=aJ cO bA 2 2 l.length (aV cO cX l)
abbrev DG:RT ap:=⟨cO,bA,cX,2,ja⟩
def D3:List D→Bool
  | [.lit (.int .i64 _), .lit (.int .i64 _)]=>true
  | _=>false
theorem QN (ds:List D) (h:D3 ds = true):mj (KO ds) = ds:=by
  unfold D3 at h
  split at h
  · rfl
  · cases h
abbrev Du:AC aF:=aG D3 mj KO QN
abbrev jy (l:List aY):Nat→List D:=aV fb eh l
abbrev Ln (l:List aY):V:=.c (.sl 3 l.length (aV fb eh l))
abbrev cT (o t:Nat) (l:List aY):Nat × Option Ob:=(o,some (.row t 3 l.length (aV fb eh l)))
abbrev Ly (l:List aY):Prop:=aJ fb bN 3 3 l.length (aV fb eh l)
abbrev Mq:RT aY:=⟨fb,bN,eh,3,kz⟩
abbrev dZ (l:List ay):Nat→List D:=aV ee aM l
abbrev bm (l:List ay):V:=.c (.sl 6 l.length (aV ee aM l))
abbrev JX (o t:Nat) (l:List ay):Nat × Option Ob:=(o,some (.row t 6 l.length (aV ee aM l)))
abbrev Vl (l:List ay):Prop:=aJ ee dGExpr 6 6 l.length (aV ee aM l)
abbrev Vx:RT ay:=⟨ee,dGExpr,aM,6,eY⟩
abbrev l7 (l:List bL):Nat→List D:=aV jp fQ l
abbrev R7 (l:List bL):V:=.c (.sl 7 l.length (aV jp fQ l))
abbrev gH (o t:Nat) (l:List bL):Nat × Option Ob:=(o,some (.row t 7 l.length (aV jp fQ l)))
abbrev SA (l:List bL):Prop:=aJ jp cA 7 7 l.length (aV jp fQ l)
abbrev Sh:RT bL:=⟨jp,cA,fQ,7,pR⟩
abbrev io (l:List bC):Nat→List D:=aV eE dj l
abbrev Lo (l:List bC):V:=.c (.sl 13 l.length (aV eE dj l))
abbrev fy (o t:Nat) (l:List bC):Nat × Option Ob:=(o,some (.row t 13 l.length (aV eE dj l)))
abbrev LU (l:List bC):Prop:=aJ eE bJ 13 13 l.length (aV eE dj l)
abbrev Mm:RT bC:=⟨eE,bJ,dj,13,kx⟩
abbrev iX (l:List cS):Nat→List D:=aV eI ij l
abbrev I8 (l:List cS):V:=.c (.sl 7 l.length (aV eI ij l))
abbrev fV (o t:Nat) (l:List cS):Nat × Option Ob:=(o,some (.row t 7 l.length (aV eI ij l)))
abbrev IN (l:List cS):Prop:=aJ eI bD 7 7 l.length (aV eI ij l)
abbrev Jb:RT cS:=⟨eI,bD,ij,7,i7⟩
def VI:AC az where
  dec
    | .agg [(.c (.lit (.int .i64 a1))),(.c (.lit (.int .i64 a2))),(.c (.lit (.int .i64 a3))),(.c (.sl k4 n4 e4)),(.c (.sl k5 n5 e5)),(.c (.sl k6 n6 e6)),(.c (.sl k7 n7 e7)),(.c (.sl k8 n8 e8))]=>some ([aJ cO bA 2 k4 n4 e4,aJ fb bN 3 k5 n5 e5,aJ jp cA 7 k6 n6 e6,aJ eE bJ 13 k7 n7 e7,aJ eI bD 7 k8 n8 e8],(az.mk a1 (bt.mk a2 a3) (lst bA n4 e4) (lst bN n5 e5) (lst cA n6 e6) (lst bJ n7 e7) (lst bD n8 e8)))
    | _=>none
  can x:=.ag (eX x)
  ok v p x h hp:=by
    split at h
    · cases h
      obtain ⟨g0,hp⟩:=ce hp
      obtain ⟨g1,hp⟩:=ce hp
      obtain ⟨g2,hp⟩:=ce hp
      obtain ⟨g3,hp⟩:=ce hp
      obtain ⟨g4,hp⟩:=ce hp
      exact VLe.agg (VLes.cons .r (VLes.cons .r (VLes.cons .r (VLes.cons (VLe.slk g0.1 (ac.of_ok g0)) (VLes.cons (VLe.slk g1.1 (ac.of_ok g1)) (VLes.cons (VLe.slk g2.1 (ac.of_ok g2)) (VLes.cons (VLe.slk g3.1 (ac.of_ok g3)) (VLes.cons (VLe.slk g4.1 (ac.of_ok g4)) VLes.nil))))))))
    · cases h
def oe:List D→Bool
  | [.lit (.int .u64 _), .lit (.int .u64 _)]=>true
  | _=>false
theorem Fo (ds:List D) (h:oe ds = true):kD (vu ds) = ds:=by
  unfold oe at h
  split at h
  · rfl
  · cases h
abbrev wg:AC cm:=aG oe kD vu Fo
abbrev WB (l:List au):Nat→List D:=aV dU cw l
abbrev aD (o t:Nat) (l:List au):Nat × Option Ob:=(o,some (.row t 2 l.length (aV dU cw l)))
abbrev zU (l:List au):Prop:=aJ dU cW 2 2 l.length (aV dU cw l)
abbrev bg:RT au:=⟨dU,cW,cw,2,ib⟩
abbrev eV (l:List ax):V:=.c (.sl 9 l.length (aV gv cU l))
abbrev WO:AC (List ax):=aL gv qO cU 9
abbrev dM (l:List aZ):V:=.c (.sl 4 l.length (aV ju gg l))
abbrev Wl:RT aZ:=⟨ju,oF,gg,4,ig⟩
abbrev MX:AC (List aZ):=aL ju oF gg 4
abbrev Yf (l:List ao):Nat→List D:=aV dJ cG l
abbrev er (l:List ao):V:=.c (.sl 4 l.length (aV dJ cG l))
abbrev fi (o t:Nat) (l:List ao):Nat × Option Ob:=(o,some (.row t 4 l.length (aV dJ cG l)))
abbrev yU:RT ao:=⟨dJ,l9,cG,4,HD⟩
abbrev XB:AC (List ao):=aL dJ l9 cG 4
abbrev D0 (o t:Nat) (l:List bX):Nat × Option Ob:=(o,some (.row t 2 l.length (aV fj mx l)))
abbrev J7:RT (List Int):=⟨kE,fg,([]:List Int),1,Nz⟩
def DF (x:(List ab)):List D:=[(.sl 2 x.length (aV aO aq x))]
def DP:List D→(List ab)
  | [d]=>Mw bB d
  | _=>[]
theorem wZ:ef DF DP:=by
  intro x ds h
  obtain ⟨d,ds,rfl,h1,h⟩:=h.cons_inv
  obtain rfl:=h.nil_inv
  exact yY aW h1
abbrev mA (l:List (List ab)):V:=.c (.sl 1 l.length (aV DF ([]:List ab) l))
abbrev YN:AC (List (List ab)):=aL DF DP ([]:List ab) 1
noncomputable def amd:List Code:=aA (an Tryz.f11)
def NQ (x_1:Int):bK:=.data (i64 x_1)
def aoa (x_1:Int):St:=⟨[sv 4 (i64 x_1)],[],0⟩
def alp (n k:Int):St:=⟨[sv 0 (i64 n),sv 1 (i64 k)],[],0⟩
def rX (n k:Int):PT _ (rE aoa) iK:=.bf (decide (k < 1)) (.lf (some 0) .ret _<|hh fun _=>l0) (.g1 (k≠0)<|.g1 (k≠0)<|.lf (some (Int.tmod (ai ((Int.tmod n k)+k)) k)) .ret _<|hh fun _=>l0)
theorem agk {n k}:Ax tP 14 amd 0 iK (rX n k) (alp n k):=.tE mixed [] [4] 5
def fu (n k:Int):Option (Int):=(rX n k).opt
def Ib:bU:=fH (aI .i64) (aI .i64) fu (0:Int) NQ
theorem Oi:bc tP 11 Ib:=dA Tryz.f11 (an Tryz.f11) [.tmp 4] 14 fun u0 u1 y h=>@agk u0 u1 _ (bn.2 ⟨y,h,(cz (i64 y) (VLe.rfl' _))⟩)
abbrev ez:FE tP:=⟨11, .pure Ib,Oi⟩
noncomputable def amk:List Code:=aA (an Tryz.f47)
def Nk (x_1:Int):bK:=.data (i64 x_1)
def anU (x_1:Int):St:=⟨[sv 4 (i64 x_1)],[],0⟩
def als (n m:Int):St:=⟨[sv 0 (i64 n),sv 1 (i64 m)],[],0⟩
def sP (n m:Int):PT _ (rE anU) iK:=.g1 (m≠0)<|.bf (decide ((Int.tmod n m) < 0)) (.lf (some (ai ((Int.tmod n m)+m))) .ret _<|hh fun _=>l0) (.lf (some (Int.tmod n m)) .ret _<|hh fun _=>l0)
theorem Z2 {n m}:Ax tP 15 amk 0 iK (sP n m) (als n m):=.tE mixed [] [4] 6
def bH (n m:Int):Option (Int):=(sP n m).opt
def Ig:bU:=fH (aI .i64) (aI .i64) bH (0:Int) Nk
theorem O4:bc tP 47 Ig:=dA Tryz.f47 (an Tryz.f47) [.tmp 4] 15 fun u0 u1 y h=>@Z2 u0 u1 _ (bn.2 ⟨y,h,(cz (i64 y) (VLe.rfl' _))⟩)
abbrev Ro:FE tP:=⟨47, .pure Ig,O4⟩
noncomputable def amE:List Code:=aA (an Tryz.f48)
def Jz (x_1:Int):bK:=.data (i64 x_1)
def aoi (x_1:Int):St:=⟨[sv 2 (i64 x_1)],[],0⟩
def akR (n:Int):St:=⟨[sv 0 (i64 n)],[],0⟩
def oR (n:Int):PT _ (rE aoi) iK:=.bd (bH n 4) 0 fun r_6=>.bf (r_6 == 0) (.tv ((4:Int)≠0) (by decide)<|.bd (bH (ai (Int.tdiv n 4)) 9000) 0 fun r_7=>.lf (some (ai (1+r_7))) .ret _<|hh fun _=>l0) (.bf (r_6 == 1) (.tv ((4:Int)≠0) (by decide)<|.bd (bH (ai (Int.tdiv n 4)) 1200) 0 fun r_8=>.lf (some (ai (1+r_8))) .ret _<|hh fun _=>l0) (.bf (r_6 == 2) (.tv ((4:Int)≠0) (by decide)<|.bd (bH (ai (Int.tdiv n 4)) 120) 0 fun r_9=>.lf (some (ai (1+r_9))) .ret _<|hh fun _=>l0) (.tv ((4:Int)≠0) (by decide)<|.bd (bH (ai (Int.tdiv n 4)) 12) 0 fun r_10=>.lf (some (ai (1+r_10))) .ret _<|hh fun _=>l0)))
theorem aao {n}:Ax tP 27 amE 0 iK (oR n) (akR n):=.tE mixed [Ro] [2] 5
def vh (n:Int):Option (Int):=(oR n).opt
def Fi:bU:=dI (aI .i64) vh (0:Int) Jz
theorem Lg:bc tP 48 Fi:=cD Tryz.f48 (an Tryz.f48) [.tmp 2] 27 fun u0 y h=>@aao u0 _ (bn.2 ⟨y,h,(cz (i64 y) (VLe.rfl' _))⟩)
abbrev e48:FE tP:=⟨48, .pure Fi,Lg⟩
noncomputable def amS:List Code:=aA (an Tryz.f49)
def Lz (x_1:ByteArray):bK:=.data (aX x_1)
def an1 (x_1:ByteArray):St:=⟨[sv 2 (aX x_1)],[],0⟩
def akw (kind:Int):St:=⟨[sv 0 (i64 kind)],[],0⟩
def qf (kind:Int):PT _ (rE an1) iK:=.bf (bif (decide (kind < 1)) then true else (decide (15≤kind))) (.lf (some (ak [])) .ret _<|hh fun _=>l0) (.g2 (0≤kind) (kind < ((15:Nat):Int))<|.lf (some (([(ak []),(ak [83,80,84,72,67,65]),(ak [83,80,72,67,65]),(ak [83,80,72,67,65]),(ak [83,80,84]),(ak [83,80]),(ak [83,80,67,65]),(ak [83,80]),(ak [83,80]),(ak [83,80]),(ak [83,80,82]),(ak [80]),(ak [80]),(ak [80]),(ak [80,82])]:List ByteArray).getD (0+(Int.toNat kind)) (ak []))) .ret _<|hh fun _=>l0)
theorem abh {kind}:Ax tP 17 amS 0 iK (qf kind) (akw kind):=.tE mixed [] [2] 6
def mh (kind:Int):Option (ByteArray):=(qf kind).opt
def Gi:bU:=dI (aI .i64) mh (ak []) Lz
theorem NC:bc tP 49 Gi:=cD Tryz.f49 (an Tryz.f49) [.tmp 2] 17 fun u0 y h=>@abh u0 _ (bn.2 ⟨y,h,(cz (aX y) (VLe.rfl' _))⟩)
abbrev Kg:FE tP:=⟨49, .pure Gi,NC⟩
noncomputable def qo:List Code:=aA (an Tryz.f21)
noncomputable def Hv:List Code:=aA (ah (ah (aQ qo 9)))
def Nw (x_1:ae):bK:=.data (.agg [(i64 x_1.Issuer),(i64 x_1.Number),(i64 x_1.Version),(bl x_1.Withdrawn),(i64 x_1.Person),(i64 x_1.Kind),(i64 x_1.State),(i64 x_1.Span.From),(i64 x_1.Span.To),(i64 x_1.Seat),(i64 x_1.Share),(i64 x_1.Currency),(i64 x_1.Amount),(i64 x_1.Ref)])
def P8 (x_1:ae):St:=⟨[sv 2 (.ptr 0 14 0 0)],[(0,some (.box [(i64 x_1.Issuer),(i64 x_1.Number),(i64 x_1.Version),(bl x_1.Withdrawn),(i64 x_1.Person),(i64 x_1.Kind),(i64 x_1.State),(i64 x_1.Span.From),(i64 x_1.Span.To),(i64 x_1.Seat),(i64 x_1.Share),(i64 x_1.Currency),(i64 x_1.Amount),(i64 x_1.Ref)]))],1⟩
def wa (from_1 to_1:Int) (u:ByteArray) (r_1:aN) (f:ae) (s:(Int × ae)):St:=match s with | (i_1,f_2)=>⟨[sv 1 (.ptr 0 13 0 0),sv 2 (.ptr 1 14 0 0),sv 3 (.ptr 2 14 0 0),sv 4 (i64 from_1),sv 5 (i64 to_1),sv 6 (aX u),sv 7 (i64 i_1)],[(0,some (.bx (ct r_1))),(1,some (.bx (aR (ae.mk 0 0 0 false 0 0 0 (ab.mk 0 0) 0 0 0 0 0)))),(2,some (.bx (aR f_2)))],3⟩
def ab0 (from_1 to_1:Int) (u:ByteArray) (r_1:aN) (f:ae) (s:ae):St:=match s with | f_4=>⟨[sv 2 (.ptr 0 14 0 0),sv 3 (.ptr 1 14 0 0)],[(0,some (.bx (aR (ae.mk 0 0 0 false 0 0 0 (ab.mk 0 0) 0 0 0 0 0)))),(1,some (.bx (aR f_4)))],2⟩
def v6 (from_1 to_1:Int) (u:ByteArray) (r_1:aN) (f:ae) (r:((ae))) (K:KT):Prop:=match r with | s=>K (.exit 1) (ab0 from_1 to_1 u r_1 f s)
def alX (from_1 to_1:Int) (u:ByteArray) (i_3:Int) (r_1:aN) (f_1:ae):St:=⟨[sv 1 (.ptr 0 13 0 0),sv 2 (.ptr 1 14 0 0),sv 3 (.ptr 2 14 0 0),sv 4 (i64 from_1),sv 5 (i64 to_1),sv 6 (aX u),sv 7 (i64 i_3)],[(0,some (.bx (ct r_1))),(1,some (.bx (aR (ae.mk 0 0 0 false 0 0 0 (ab.mk 0 0) 0 0 0 0 0)))),(2,some (.bx (aR f_1)))],3⟩
def eU (from_1 to_1:Int) (u:ByteArray) (i_3:Int) (r_1:aN) (f_1:ae):PT _ (nE (wa from_1 to_1 u r_1 aU) (v6 from_1 to_1 u r_1 aU)) iK:=.lf (some (Sum.inl ((ai (i_3+1)),f_1))) .normal _<|hh fun _=>l0
theorem pg {from_1 to_1 u i_3 r_1 f_1}:Ax tP 156 Hv 3 iK (eU from_1 to_1 u i_3 r_1 f_1) (alX from_1 to_1 u i_3 r_1 f_1):=.tE mixed [] [1,2,3,4,5,6,7,120,121,122,123,124] 1
def ald (from_1 to_1:Int) (u:ByteArray) (i_2:Int) (r_1:aN) (f_3:ae):St:=⟨[sv 1 (.ptr 0 13 0 0),sv 2 (.ptr 1 14 0 0),sv 3 (.ptr 2 14 0 0),sv 4 (i64 from_1),sv 5 (i64 to_1),sv 6 (aX u),sv 7 (i64 i_2)],[(0,some (.bx (ct r_1))),(1,some (.bx (aR (ae.mk 0 0 0 false 0 0 0 (ab.mk 0 0) 0 0 0 0 0)))),(2,some (.bx (aR f_3)))],3⟩
def rQ (from_1 to_1:Int) (u:ByteArray) (i_2:Int) (r_1:aN) (f_3:ae):PT _ (nE (wa from_1 to_1 u r_1 aU) (v6 from_1 to_1 u r_1 aU)) (dK tP 156 Hv 3 iK):=.g2 (0≤i_2) (i_2 < (u.size:Int))<|.bf (((u.data.getD (Int.toNat i_2) 0).toNat:Int) == 83) (.bd (bH r_1.State 3) 0 fun r_19=>.lf ((eU from_1 to_1 u i_2 r_1 (ae.mk f_3.Issuer f_3.Number f_3.Version f_3.Withdrawn f_3.Person f_3.Kind r_19 f_3.Span f_3.Seat f_3.Share f_3.Currency f_3.Amount f_3.Ref)).opt) .normal _<|hh fun _ h=>l0 (pg h)) (.bf (((u.data.getD (Int.toNat i_2) 0).toNat:Int) == 80) (.lf ((eU from_1 to_1 u i_2 r_1 (ae.mk f_3.Issuer f_3.Number f_3.Version f_3.Withdrawn f_3.Person f_3.Kind f_3.State (ab.mk from_1 to_1) f_3.Seat f_3.Share f_3.Currency f_3.Amount f_3.Ref)).opt) .normal _<|hh fun _ h=>l0 (pg h)) (.bf (((u.data.getD (Int.toNat i_2) 0).toNat:Int) == 84) (.bd (bH r_1.Seat 3) 0 fun r_20=>.bf (bif (f_3.Kind == 4) then (r_20 == f_3.State) else false) (.bd (bH (ai (f_3.State+1)) 3) 0 fun r_21=>.lf ((eU from_1 to_1 u i_2 r_1 (ae.mk f_3.Issuer f_3.Number f_3.Version f_3.Withdrawn f_3.Person f_3.Kind f_3.State f_3.Span r_21 f_3.Share f_3.Currency f_3.Amount f_3.Ref)).opt) .normal _<|hh fun _ h=>lz (pg h) [1,2,3,4,5,6,7] [120,121,122,123,124] []) (.lf ((eU from_1 to_1 u i_2 r_1 (ae.mk f_3.Issuer f_3.Number f_3.Version f_3.Withdrawn f_3.Person f_3.Kind f_3.State f_3.Span r_20 f_3.Share f_3.Currency f_3.Amount f_3.Ref)).opt) .normal _<|hh fun _ h=>lz (pg h) [1,2,3,4,5,6,7] [120,121,122,123,124] [])) (.bf (((u.data.getD (Int.toNat i_2) 0).toNat:Int) == 72) (.bd (bH r_1.Share 100) 0 fun r_22=>.lf ((eU from_1 to_1 u i_2 r_1 (ae.mk f_3.Issuer f_3.Number f_3.Version f_3.Withdrawn f_3.Person f_3.Kind f_3.State f_3.Span f_3.Seat (ai (1+r_22)) f_3.Currency f_3.Amount f_3.Ref)).opt) .normal _<|hh fun _ h=>l0 (pg h)) (.bf (((u.data.getD (Int.toNat i_2) 0).toNat:Int) == 67) (.tv ((3:Int)≠0) (by decide)<|.bd (bH (ai (r_1.Seat+(Int.tmod r_1.State 3))) 3) 0 fun r_23=>.lf ((eU from_1 to_1 u i_2 r_1 (ae.mk f_3.Issuer f_3.Number f_3.Version f_3.Withdrawn f_3.Person f_3.Kind f_3.State f_3.Span f_3.Seat f_3.Share (ai (1+r_23)) f_3.Amount f_3.Ref)).opt) .normal _<|hh fun _ h=>l0 (pg h)) (.bf (((u.data.getD (Int.toNat i_2) 0).toNat:Int) == 65) (.bd (bH r_1.Amount 3000000) 0 fun r_24=>.lf ((eU from_1 to_1 u i_2 r_1 (ae.mk f_3.Issuer f_3.Number f_3.Version f_3.Withdrawn f_3.Person f_3.Kind f_3.State f_3.Span f_3.Seat f_3.Share f_3.Currency r_24 f_3.Ref)).opt) .normal _<|hh fun _ h=>l0 (pg h)) (.bd (bH r_1.Ref 4) 0 fun r_25=>.bf ((ai (1+r_25)) == f_3.Person) (.bd (bH f_3.Person 4) 0 fun r_26=>.lf ((eU from_1 to_1 u i_2 r_1 (ae.mk f_3.Issuer f_3.Number f_3.Version f_3.Withdrawn f_3.Person f_3.Kind f_3.State f_3.Span f_3.Seat f_3.Share f_3.Currency f_3.Amount (ai (1+r_26)))).opt) .normal _<|hh fun _ h=>l0 (pg h)) (.lf ((eU from_1 to_1 u i_2 r_1 (ae.mk f_3.Issuer f_3.Number f_3.Version f_3.Withdrawn f_3.Person f_3.Kind f_3.State f_3.Span f_3.Seat f_3.Share f_3.Currency f_3.Amount (ai (1+r_25)))).opt) .normal _<|hh fun _ h=>l0 (pg h))))))))
theorem ab8 {from_1 to_1 u i_2 r_1 f_3}:Ax tP 156 Hv 2 iK (rQ from_1 to_1 u i_2 r_1 f_3) (ald from_1 to_1 u i_2 r_1 f_3):=.tD mixed [Ro] [1,2,3,4,5,6,7,120,121,122,123,124] 1
def ajG (from_1 to_1:Int) (u:ByteArray) (i_1:Int) (r_1:aN) (f_2:ae):St:=wa from_1 to_1 u r_1 aU (i_1,f_2)
def so (from_1 to_1:Int) (u:ByteArray) (i_1:Int) (r_1:aN) (f_2:ae):PT _ (nE (wa from_1 to_1 u r_1 aU) (v6 from_1 to_1 u r_1 aU)) (dK tP 156 Hv 2 iK):=.bf (decide (i_1 < (u.size:Int))) (.lf ((rQ from_1 to_1 u i_1 r_1 f_2).opt) .normal _<|hh fun _ h=>l0 (ab8 h)) (.lf (some (Sum.inr f_2)) (.exit 1) (wa from_1 to_1 u r_1 aU (i_1,f_2))<|hh fun _=>lg (.cn [2,3]))
theorem afe {from_1 to_1 u i_1 r_1 f_2}:Ax tP 156 Hv 0 iK (so from_1 to_1 u i_1 r_1 f_2) (ajG from_1 to_1 u i_1 r_1 f_2):=.tD mixed [] [1,2,3,4,5,6,7,120,121,122,123,124] 2
def yz (from_1 to_1:Int) (u:ByteArray) (r_1:aN) (f:ae) (s:(Int × ae)):Option ((Int × ae) ⊕ ((ae))):=match s with | (i_1,f_2)=>(so from_1 to_1 u i_1 r_1 f_2).opt
theorem aa6 (from_1 to_1 u r_1 f s):Pp tP 156 (List.drop 0 Hv) (wa from_1 to_1 u r_1 f s) (yz from_1 to_1 u r_1 f s) (cl (wa from_1 to_1 u r_1 f) (v6 from_1 to_1 u r_1 f)):=fun K h=>match s,h with | (i_1,f_2),h=>(afe h)
theorem Tk (from_1 to_1 u r_1 f):∀ r J K,v6 from_1 to_1 u r_1 f r K→v6 from_1 to_1 u r_1 f r (aH J K)
  | s,_,_,h=>h
def UW (f_5:ae):St:=⟨[sv 2 (.ptr 0 14 0 0),sv 3 (.ptr 1 14 0 0)],[(0,some (.bx (aR (ae.mk 0 0 0 false 0 0 0 (ab.mk 0 0) 0 0 0 0 0)))),(1,some (.bx (aR f_5)))],2⟩
def sf (f_5:ae):PT _ (rE P8) iK:=.lf (some f_5) .ret _<|hh fun _=>l0
theorem acz {f_5}:Ax tP 156 qo 10 iK (sf f_5) (UW f_5):=.tE mixed [] [2] 2
def agT (from_1 to_1:Int) (u:ByteArray) (r_1:aN) (f:ae):St:=⟨[sv 1 (.ptr 0 13 0 0),sv 2 (.ptr 1 14 0 0),sv 3 (.ptr 2 14 0 0),sv 4 (i64 from_1),sv 5 (i64 to_1),sv 6 (aX u),sv 7 (i64 0)],[(0,some (.bx (ct r_1))),(1,some (.bx (aR (ae.mk 0 0 0 false 0 0 0 (ab.mk 0 0) 0 0 0 0 0)))),(2,some (.bx (aR f)))],3⟩
abbrev BR (from_1 to_1:Int) (u:ByteArray) (r_1:aN) (f:ae) (r:((ae))):Option (ae):=match r with | f_4=>((sf f_4).opt)
def FG (from_1 to_1:Int) (u:ByteArray) (r_1:aN) (f:ae):Option (ae):=(fixL (yz from_1 to_1 u r_1 f) (0,f)).bind (BR from_1 to_1 u r_1 f)
theorem acg:List.drop 9 qo = .block 1 (.loop (ah (ah (aQ qo 9)))) :: List.drop 10 qo:=by kernel_rfl
theorem akI (from_1 to_1 u r_1 f K):∀ r,W (BR from_1 to_1 u r_1 f r) (rE P8 K)→v6 from_1 to_1 u r_1 f r (wK (bj 1 (aH (ar tP 156 (List.drop 10 qo) K) K)))
  | f_4,h=>⟨(UW f_4),(.refl _),(acz h)⟩
theorem agC {from_1 to_1 u r_1 f K} (h:W (FG from_1 to_1 u r_1 f) (rE P8 K)):ar tP 156 (List.drop 9 qo) K (agT from_1 to_1 u r_1 f) :=
  ar.at_ acg (ar.cons_loop (aC.weak (aC.ent (.refl _) (aC.loopF (x:=ah (ah (aQ qo 9))) (f:=yz from_1 to_1 u r_1 f) (emb:=wa from_1 to_1 u r_1 f) (E:=v6 from_1 to_1 u r_1 f) (aa6 from_1 to_1 u r_1 f) (Tk from_1 to_1 u r_1 f) (bT h (akI from_1 to_1 u r_1 f K))))))
def akD (from_1 to_1:Int) (r_1:aN) (f:ae):St:=⟨[sv 1 (.ptr 0 13 0 0),sv 2 (.ptr 1 14 0 0),sv 3 (.ptr 2 14 0 0),sv 4 (i64 from_1),sv 5 (i64 to_1)],[(0,some (.bx (ct r_1))),(1,some (.bx (aR (ae.mk 0 0 0 false 0 0 0 (ab.mk 0 0) 0 0 0 0 0)))),(2,some (.bx (aR f)))],3⟩
def jE (from_1 to_1:Int) (r_1:aN) (f:ae):PT _ (rE P8) (dK tP 156 qo 9 iK):=.bd (mh f.Kind) (ak []) fun r_27=>.lf (FG from_1 to_1 r_27 r_1 f) .normal _<|hh fun _ h=>l0 (agC h)
theorem Hm {from_1 to_1 r_1 f}:Ax tP 156 qo 7 iK (jE from_1 to_1 r_1 f) (akD from_1 to_1 r_1 f):=.tD mixed [Kg] [1,2,3,4,5,6,7,120,121,122,123,124] 2
def ah9 (r_1:aN):St:=⟨[sv 0 (.ag (ct r_1))],[],0⟩
def se (r_1:aN):PT _ (rE P8) (dK tP 156 qo 7 iK):=.bd (bH r_1.Issuer 3) 0 fun r_31=>.bd (bH r_1.Number 20) 0 fun r_32=>.bd (bH r_1.Version 3) 0 fun r_33=>.bd (bH r_1.Person 4) 0 fun r_34=>.bd (bH r_1.Kind 14) 0 fun r_35=>.bd (bH r_1.From 16000) 0 fun r_36=>.bd (vh r_1.Length) 0 fun r_37=>.bf ((ai (1+r_35)) == 11) (.bd (bH r_1.From 5000) 0 fun r_38=>.lf ((jE (ai (12000+r_38)) (ai ((ai (12000+r_38))+1)) r_1 (ae.mk r_31 (ai (1+r_32)) (ai (1+r_33)) r_1.Withdrawn (ai (1+r_34)) (ai (1+r_35)) 0 (ab.mk 0 0) 0 0 0 0 0)).opt) .normal _<|hh fun _ h=>l0 (Hm h)) (.bf ((ai (1+r_35)) == 12) (.bd (bH r_1.From 6000) 0 fun r_39=>.lf ((jE (ai (34000+r_39)) (ai ((ai (34000+r_39))+1)) r_1 (ae.mk r_31 (ai (1+r_32)) (ai (1+r_33)) r_1.Withdrawn (ai (1+r_34)) (ai (1+r_35)) 0 (ab.mk 0 0) 0 0 0 0 0)).opt) .normal _<|hh fun _ h=>l0 (Hm h)) (.bf ((ai (1+r_35)) == 8) (.bd (bH r_1.From 4000) 0 fun r_40=>.bd (bH r_1.Length 700) 0 fun r_41=>.lf ((jE (ai (34000+r_40)) (ai ((ai ((ai (34000+r_40))+1))+r_41)) r_1 (ae.mk r_31 (ai (1+r_32)) (ai (1+r_33)) r_1.Withdrawn (ai (1+r_34)) (ai (1+r_35)) 0 (ab.mk 0 0) 0 0 0 0 0)).opt) .normal _<|hh fun _ h=>l0 (Hm h)) (.lf ((jE (ai (21900+r_36)) (ai ((ai (21900+r_36))+r_37)) r_1 (ae.mk r_31 (ai (1+r_32)) (ai (1+r_33)) r_1.Withdrawn (ai (1+r_34)) (ai (1+r_35)) 0 (ab.mk 0 0) 0 0 0 0 0)).opt) .normal _<|hh fun _ h=>l0 (Hm h))))
theorem afG {r_1}:Ax tP 156 qo 0 iK (se r_1) (ah9 r_1):=.tD mixed [Ro,e48] [1,2,3,4,5,120,121,122,123,124] 7
def zJ (r_1:aN):Option (ae):=(se r_1).opt
def Ia:bU:=dI Gk zJ aU Nw
theorem PU:bc tP 21 Ia:=cD Tryz.f21 (an Tryz.f21) [.cell 2 70] 156 fun u0 y h=>@afG u0 _ (bn.2 ⟨y,h,(cz (.agg [(i64 y.Issuer),(i64 y.Number),(i64 y.Version),(bl y.Withdrawn),(i64 y.Person),(i64 y.Kind),(i64 y.State),(i64 y.Span.From),(i64 y.Span.To),(i64 y.Seat),(i64 y.Share),(i64 y.Currency),(i64 y.Amount),(i64 y.Ref)]) (VLe.rfl' _))⟩)
abbrev e21:FE tP:=⟨21, .pure Ia,PU⟩
noncomputable def am8:List Code:=aA (an Tryz.f50)
def NJ (x_1:Int):bK:=.data (i64 x_1)
def aok (x_1:Int):St:=⟨[sv 4 (i64 x_1)],[],0⟩
def agH (n:(List Int)) (i_1:Int):St:=⟨[sv 0 (fG n),sv 1 (i64 i_1)],[],0⟩
def F7 (n:(List Int)) (i_1:Int):PT _ (rE aok) iK:=.bf ((n.length:Int) == 0) (.lf (some 0) .ret _<|hh fun _=>l0) (.bd (bH i_1 (n.length:Int)) 0 fun r_2=>.g2 (0≤r_2) (r_2 < (n.length:Int))<|.lf (some (n.getD (Int.toNat r_2) (0:Int))) .ret _<|hh fun _=>l0)
theorem abC {n i_1}:Ax tP 15 am8 0 iK (F7 n i_1) (agH n i_1):=.tE mixed [Ro] [4] 5
def fp (n:(List Int)) (i_1:Int):Option (Int):=(F7 n i_1).opt
def Io:bU:=fH YP (aI .i64) fp (0:Int) NJ
theorem Qj:bc tP 50 Io:=dA Tryz.f50 (an Tryz.f50) [.tmp 4] 15 fun u0 u1 y h=>@abC u0 u1 _ (bn.2 ⟨y,h,(cz (i64 y) (VLe.rfl' _))⟩)
abbrev e50:FE tP:=⟨50, .pure Io,Qj⟩
noncomputable def u9:List Code:=aA (an Tryz.f23)
noncomputable def Hk:List Code:=aA (ah (ah (aQ u9 3)))
def Mk (x_1:(List ae)):bK:=.own true 70 14 (x_1).length (aV aR aU x_1)
def SK (x_1:(List ae)):St:=⟨[sv 2 (.row 0 14 0 x_1.length)],[(bP 0 70 x_1)],1⟩
def v8 (n:(List Int)) (s:((List ae) × Int)):St:=match s with | (out_2,p_1)=>⟨[sv 0 (fG n),sv 3 (.row 0 14 0 out_2.length),sv 4 (i64 p_1)],[(bP 0 70 out_2)],1⟩
def Rk (n:(List Int)) (s:(List ae)):St:=match s with | out_4=>⟨[sv 0 (fG n),sv 3 (.row 0 14 0 out_4.length)],[(bP 0 70 out_4)],1⟩
def wl (n:(List Int)) (r:(((List ae)))) (K:KT):Prop:=match r with | s=>K (.exit 0) (Rk n s)
def akY (n:(List Int)) (out_1:(List ae)) (p_3:Int):St:=⟨[sv 0 (fG n),sv 3 (.row 0 14 0 out_1.length),sv 4 (i64 p_3)],[(bP 0 70 out_1)],1⟩
def EJ (n:(List Int)) (out_1:(List ae)) (p_3:Int):PT _ (nE (v8 n) (wl n)) iK:=.lf (some (Sum.inl (out_1,(ai (p_3+1))))) .normal _<|hh fun _=>l0
theorem aen {n out_1 p_3}:Ax tP 163 Hk 3 iK (EJ n out_1 p_3) (akY n out_1 p_3):=.tE mixed [] [0,3,4] 1
def agR (n:(List Int)) (out_3:(List ae)) (p_2:Int):St:=⟨[sv 0 (fG n),sv 3 (.row 0 14 0 out_3.length),sv 4 (i64 p_2)],[(bP 0 70 out_3)],1⟩
def EM (n:(List Int)) (out_3:(List ae)) (p_2:Int):PT _ (nE (v8 n) (wl n)) (dK tP 163 Hk 3 iK):=.lk bw n fun L1_=>.bd (fp L1_ p_2) 0 fun r_15=>.bd (bH r_15 3) 0 fun r_16=>.tv (yt n) (kb aw)<|.bd (fp L1_ (ai (p_2+2))) 0 fun r_17=>.bd (bH r_17 3) 0 fun r_18=>.tv (yt n) (kb aw)<|.bd (fp L1_ (ai (p_2+4))) 0 fun r_19=>.bd (bH r_19 6000) 0 fun r_20=>.tv (yt n) (kb aw)<|.bd (fp L1_ (ai (p_2+6))) 0 fun r_21=>.bd (bH r_21 3000) 0 fun r_22=>.tv (out_3.length = out_3.length) rfl<|.gc (out_3.length+1) 112<|.tv ((out_3.length+1) = (out_3.length+1)) rfl<|.gc ((out_3.length+1)+1) 112<|.tv (yt n) (kb aw)<|.bd (fp L1_ (ai (p_2+8))) 0 fun r_23=>.bd (bH r_23 900000) 0 fun r_24=>.tv (((out_3.length+1)+1) = ((out_3.length+1)+1)) rfl<|.gc (((out_3.length+1)+1)+1) 112<|.tv (yt n) (kb aw)<|.bd (fp L1_ (ai (p_2+10))) 0 fun r_25=>.bd (bH r_25 3000) 0 fun r_26=>.tv (yt n) (kb aw)<|.bd (fp L1_ (ai (p_2+12))) 0 fun r_27=>.bd (bH r_27 900000) 0 fun r_28=>.tv ((((out_3.length+1)+1)+1) = (((out_3.length+1)+1)+1)) rfl<|.gc ((((out_3.length+1)+1)+1)+1) 112<|.tv (((((out_3.length+1)+1)+1)+1) = ((((out_3.length+1)+1)+1)+1)) rfl<|.gc (((((out_3.length+1)+1)+1)+1)+1) 112<|.tv ((((((out_3.length+1)+1)+1)+1)+1) = (((((out_3.length+1)+1)+1)+1)+1)) rfl<|.gc ((((((out_3.length+1)+1)+1)+1)+1)+1) 112<|.lf ((EJ n ((((((out_3++([(ae.mk r_16 (ai (900+p_2)) 1 false p_2 11 0 (ab.mk (ai (13000+r_22)) (ai ((ai (13000+r_22))+1))) 0 0 0 0 0)]:List ae))++([(ae.mk r_16 (ai (910+p_2)) 1 false p_2 5 r_16 (ab.mk 20000 60000) 0 0 0 0 0)]:List ae))++([(ae.mk r_16 (ai (920+p_2)) 1 false p_2 1 r_16 (ab.mk 22000 (ai (27000+r_20))) r_16 100 (ai (1+r_16)) (ai (900000+r_24)) 0)]:List ae))++([(ae.mk r_18 (ai (930+p_2)) 1 false p_2 1 r_18 (ab.mk (ai (27000+r_20)) (ai (34400+r_26))) r_18 50 (ai (1+r_18)) (ai (700000+r_28)) 0)]:List ae))++([(ae.mk r_16 (ai (940+p_2)) 1 false p_2 10 r_16 (ab.mk 32000 38500) 0 0 0 0 3)]:List ae))++([(ae.mk r_16 (ai (950+p_2)) 1 false p_2 14 0 (ab.mk 26000 50000) 0 0 0 0 (ai (3 - p_2)))]:List ae)) p_2).opt) .normal (⟨[sv 0 (fG n),sv 3 (.row 0 14 0 ((((((out_3.length+1)+1)+1)+1)+1)+1)),sv 4 (i64 p_2)],[(0,some (.row 70 14 ((((((out_3.length+1)+1)+1)+1)+1)+1) (fun i=>bif Nat.blt i (((((out_3.length+1)+1)+1)+1)+1) then (fun i=>bif Nat.blt i ((((out_3.length+1)+1)+1)+1) then (fun i=>bif Nat.blt i (((out_3.length+1)+1)+1) then (fun i=>bif Nat.blt i ((out_3.length+1)+1) then (fun i=>bif Nat.blt i (out_3.length+1) then (fun i=>bif Nat.blt i out_3.length then (et out_3) i else (fun i=>(dq 14 (aR (ae.mk r_16 (ai (900+p_2)) 1 false p_2 11 0 (ab.mk (ai (13000+r_22)) (ai ((ai (13000+r_22))+1))) 0 0 0 0 0))) (0+i)) (i - out_3.length)) i else (fun i=>(dq 14 (aR (ae.mk r_16 (ai (910+p_2)) 1 false p_2 5 r_16 (ab.mk 20000 60000) 0 0 0 0 0))) (0+i)) (i - (out_3.length+1))) i else (fun i=>(dq 14 (aR (ae.mk r_16 (ai (920+p_2)) 1 false p_2 1 r_16 (ab.mk 22000 (ai (27000+r_20))) r_16 100 (ai (1+r_16)) (ai (900000+r_24)) 0))) (0+i)) (i - ((out_3.length+1)+1))) i else (fun i=>(dq 14 (aR (ae.mk r_18 (ai (930+p_2)) 1 false p_2 1 r_18 (ab.mk (ai (27000+r_20)) (ai (34400+r_26))) r_18 50 (ai (1+r_18)) (ai (700000+r_28)) 0))) (0+i)) (i - (((out_3.length+1)+1)+1))) i else (fun i=>(dq 14 (aR (ae.mk r_16 (ai (940+p_2)) 1 false p_2 10 r_16 (ab.mk 32000 38500) 0 0 0 0 3))) (0+i)) (i - ((((out_3.length+1)+1)+1)+1))) i else (fun i=>(dq 14 (aR (ae.mk r_16 (ai (950+p_2)) 1 false p_2 14 0 (ab.mk 26000 50000) 0 0 0 0 (ai (3 - p_2))))) (0+i)) (i - (((((out_3.length+1)+1)+1)+1)+1)))))],1⟩)<|hh fun _ h=>lf (aen h) (.of (.q rfl (.cons rfl (.rown (bY (bY (bY (bY (bY (bY rfl rfl) rfl) rfl) rfl) rfl) rfl)) (.q rfl .nil))) (.row rfl (ac.app (ac.app (ac.app (ac.app (ac.app (ac.app .b (ac.zero (ac.l1 (enc:=aR) (z:=aU) 14 (ae.mk r_16 (ai (900+p_2)) 1 false p_2 11 0 (ab.mk (ai (13000+r_22)) (ai ((ai (13000+r_22))+1))) 0 0 0 0 0) rfl))) (ac.zero (ac.l1 (enc:=aR) (z:=aU) 14 (ae.mk r_16 (ai (910+p_2)) 1 false p_2 5 r_16 (ab.mk 20000 60000) 0 0 0 0 0) rfl))) (ac.zero (ac.l1 (enc:=aR) (z:=aU) 14 (ae.mk r_16 (ai (920+p_2)) 1 false p_2 1 r_16 (ab.mk 22000 (ai (27000+r_20))) r_16 100 (ai (1+r_16)) (ai (900000+r_24)) 0) rfl))) (ac.zero (ac.l1 (enc:=aR) (z:=aU) 14 (ae.mk r_18 (ai (930+p_2)) 1 false p_2 1 r_18 (ab.mk (ai (27000+r_20)) (ai (34400+r_26))) r_18 50 (ai (1+r_18)) (ai (700000+r_28)) 0) rfl))) (ac.zero (ac.l1 (enc:=aR) (z:=aU) 14 (ae.mk r_16 (ai (940+p_2)) 1 false p_2 10 r_16 (ab.mk 32000 38500) 0 0 0 0 3) rfl))) (ac.zero (ac.l1 (enc:=aR) (z:=aU) 14 (ae.mk r_16 (ai (950+p_2)) 1 false p_2 14 0 (ab.mk 26000 50000) 0 0 0 0 (ai (3 - p_2))) rfl))) .nil rfl) rfl)
theorem aay {n out_3 p_2}:Ax tP 163 Hk 2 iK (EM n out_3 p_2) (agR n out_3 p_2):=.tD mixed [Ro,e50] [0,3,4] 1
def ak0 (n:(List Int)) (out_2:(List ae)) (p_1:Int):St:=v8 n (out_2,p_1)
def Fg (n:(List Int)) (out_2:(List ae)) (p_1:Int):PT _ (nE (v8 n) (wl n)) (dK tP 163 Hk 2 iK):=.bf (decide (p_1≤2)) (.lf ((EM n out_2 p_1).opt) .normal _<|hh fun _ h=>l0 (aay h)) (.lf (some (Sum.inr out_2)) (.exit 0) (v8 n (out_2,p_1))<|hh fun _=>lg (.cn [0,3]))
theorem afN {n out_2 p_1}:Ax tP 163 Hk 0 iK (Fg n out_2 p_1) (ak0 n out_2 p_1):=.tD mixed [] [0,3,4] 2
def wA (n:(List Int)) (s:((List ae) × Int)):Option (((List ae) × Int) ⊕ (((List ae)))):=match s with | (out_2,p_1)=>(Fg n out_2 p_1).opt
theorem ae7 (n s):Pp tP 163 (List.drop 0 Hk) (v8 n s) (wA n s) (cl (v8 n) (wl n)):=fun K h=>match s,h with | (out_2,p_1),h=>(afN h)
theorem Tc (n):∀ r J K,wl n r K→wl n r (aH J K)
  | s,_,_,h=>h
def UQ (n:(List Int)) (out_4:(List ae)):St:=Rk n out_4
def EK (n:(List Int)) (out_4:(List ae)):PT _ (rE SK) iK:=.lk bw n fun L1_=>.bd (fp L1_ 15) 0 fun r_41=>.bd (bH r_41 2000) 0 fun r_42=>.tv (yt n) (kb aw)<|.bd (fp L1_ 16) 0 fun r_43=>.bd (bH r_43 2000) 0 fun r_44=>.tv (out_4.length = out_4.length) rfl<|.gc (out_4.length+1) 112<|.tv (yt n) (kb aw)<|.bd (fp L1_ 17) 0 fun r_45=>.bd (bH r_45 900) 0 fun r_46=>.tv (yt n) (kb aw)<|.bd (fp L1_ 17) 0 fun r_47=>.bd (bH r_47 900) 0 fun r_48=>.tv ((out_4.length+1) = (out_4.length+1)) rfl<|.gc ((out_4.length+1)+1) 112<|.tv (yt n) (kb aw)<|.bd (fp L1_ 18) 0 fun r_49=>.bd (bH r_49 1200) 0 fun r_50=>.tv (yt n) (kb aw)<|.bd (fp L1_ 19) 0 fun r_51=>.bd (bH r_51 300) 0 fun r_52=>.tv (((out_4.length+1)+1) = ((out_4.length+1)+1)) rfl<|.gc (((out_4.length+1)+1)+1) 112<|.lf (some (((out_4++([(ae.mk 0 961 1 false 1 13 0 (ab.mk (ai (34000+r_42)) (ai (36500+r_44))) 0 0 0 0 0)]:List ae))++([(ae.mk 1 962 1 false 2 12 0 (ab.mk (ai (35600+r_46)) (ai (35601+r_48))) 0 0 0 0 0)]:List ae))++([(ae.mk 0 963 1 false 1 8 0 (ab.mk (ai (35000+r_50)) (ai (36250+r_52))) 0 0 0 0 0)]:List ae))) .ret (⟨[sv 2 (.row 0 14 0 (((out_4.length+1)+1)+1))],[(0,some (.row 70 14 (((out_4.length+1)+1)+1) (fun i=>bif Nat.blt i ((out_4.length+1)+1) then (fun i=>bif Nat.blt i (out_4.length+1) then (fun i=>bif Nat.blt i out_4.length then (et out_4) i else (fun i=>(dq 14 (aR (ae.mk 0 961 1 false 1 13 0 (ab.mk (ai (34000+r_42)) (ai (36500+r_44))) 0 0 0 0 0))) (0+i)) (i - out_4.length)) i else (fun i=>(dq 14 (aR (ae.mk 1 962 1 false 2 12 0 (ab.mk (ai (35600+r_46)) (ai (35601+r_48))) 0 0 0 0 0))) (0+i)) (i - (out_4.length+1))) i else (fun i=>(dq 14 (aR (ae.mk 0 963 1 false 1 8 0 (ab.mk (ai (35000+r_50)) (ai (36250+r_52))) 0 0 0 0 0))) (0+i)) (i - ((out_4.length+1)+1)))))],1⟩)<|hh fun _=>lg (.of (.cons rfl (.rown (bY (bY (bY rfl rfl) rfl) rfl)) .nil) (.row rfl (ac.app (ac.app (ac.app .b (ac.zero (ac.l1 (enc:=aR) (z:=aU) 14 (ae.mk 0 961 1 false 1 13 0 (ab.mk (ai (34000+r_42)) (ai (36500+r_44))) 0 0 0 0 0) rfl))) (ac.zero (ac.l1 (enc:=aR) (z:=aU) 14 (ae.mk 1 962 1 false 2 12 0 (ab.mk (ai (35600+r_46)) (ai (35601+r_48))) 0 0 0 0 0) rfl))) (ac.zero (ac.l1 (enc:=aR) (z:=aU) 14 (ae.mk 0 963 1 false 1 8 0 (ab.mk (ai (35000+r_50)) (ai (36250+r_52))) 0 0 0 0 0) rfl))) .nil rfl) rfl)
theorem acK {n out_4}:Ax tP 163 u9 4 iK (EK n out_4) (UQ n out_4):=.tE mixed [Ro,e50] [2] 5
def agU (n:(List Int)):St:=⟨[sv 0 (fG n),sv 3 (.c .nil),sv 4 (i64 1)],[],0⟩
abbrev zW (n:(List Int)) (r:(((List ae)))):Option ((List ae)):=match r with | out_4=>((EK n out_4).opt)
def Ej (n:(List Int)):Option ((List ae)):=(fixL (wA n) (([]:List ae),1)).bind (zW n)
theorem aeW:List.drop 3 u9 = .block 0 (.loop (ah (ah (aQ u9 3)))) :: List.drop 4 u9:=by kernel_rfl
theorem ajM (n K):∀ r,W (zW n r) (rE SK K)→wl n r (wK (bj 0 (aH (ar tP 163 (List.drop 4 u9) K) K)))
  | out_4,h=>⟨(UQ n out_4),(.refl _),(acK h)⟩
theorem aeE {n K} (h:W (Ej n) (rE SK K)):ar tP 163 (List.drop 3 u9) K (agU n) :=
  ar.at_ aeW (ar.cons_loop (aC.weak (aC.ent (.trans (.nilrow 3 0 70 14 (aV aR aU []) (Nat.le_of_ble_eq_true rfl) rfl) (.cn [0,3,4])) (aC.loopF (x:=ah (ah (aQ u9 3))) (f:=wA n) (emb:=v8 n) (E:=wl n) (ae7 n) (Tc n) (bT h (ajM n K))))))
def agJ (n:(List Int)):St:=⟨[sv 0 (fG n)],[],0⟩
def E8 (n:(List Int)):PT _ (rE SK) (dK tP 163 u9 3 iK):=.lf (Ej n) .normal _<|hh fun _ h=>l0 (aeE h)
theorem afs {n}:Ax tP 163 u9 0 iK (E8 n) (agJ n):=.tD mixed [] [0,3,4] 3
def KU (n:(List Int)):Option ((List ae)):=(E8 n).opt
def FZ:bU:=dI YP KU ([]:List ae) Mk
theorem NN:bc tP 23 FZ:=cD Tryz.f23 (an Tryz.f23) [.tmp 2] 163 fun u0 y h=>@afs u0 _ (bn.2 ⟨y,h,(cz (.row 0 14 0 y.length) (⟨_,_,_,rfl,rfl,rfl,fun _ _=>rfl,fun _ i hi d hd=>lY _ d hd⟩))⟩)
abbrev fO:FE tP:=⟨23, .pure FZ,NN⟩
noncomputable def uQ:List Code:=aA (an Tryz.f22)
noncomputable def Za:List Code:=aA (ah (ah (aQ uQ 3)))
def Qa (x_1:(List ae)):bK:=.own true 70 14 (x_1).length (aV aR aU x_1)
def TH (x_1:(List ae)):St:=⟨[sv 4 (.row 0 14 0 x_1.length)],[(bP 0 70 x_1)],1⟩
def Cy (l:(List ae)) (person:Int) (s:((List ae) × Int)):St:=match s with | (out_1,i_1)=>⟨[sv 0 (bk l),sv 1 (i64 person),sv 5 (.row 0 14 0 out_1.length),sv 6 (i64 i_1)],[(bP 0 70 out_1)],1⟩
def afY (l:(List ae)) (person:Int) (s:(List ae)):St:=match s with | out_2=>⟨[sv 5 (.row 0 14 0 out_2.length)],[(bP 0 70 out_2)],1⟩
def Cp (l:(List ae)) (person:Int) (r:(((List ae)))) (K:KT):Prop:=match r with | s=>K (.exit 0) (afY l person s)
def akx (l:(List ae)) (person:Int) (out_1:(List ae)) (i_1:Int):St:=Cy l person (out_1,i_1)
def Ij (l:(List ae)) (person:Int) (out_1:(List ae)) (i_1:Int):PT _ (nE (Cy l person) (Cp l person)) iK:=.bf (decide (i_1 < (l.length:Int))) (.g2 (0≤i_1) (i_1 < (l.length:Int))<|.bf ((l.getD (Int.toNat i_1) aU).Person == person) (.g2 (0≤i_1) (i_1 < (l.length:Int))<|.tv (out_1.length = out_1.length) rfl<|.gc (out_1.length+1) 112<|.lf (some (Sum.inl ((out_1++([(l.getD (Int.toNat i_1) aU)]:List ae)),(ai (i_1+1))))) .normal (⟨[sv 0 (bk l),sv 1 (i64 person),sv 5 (.row 0 14 0 (out_1.length+1)),sv 6 (i64 (ai (i_1+1)))],[(0,some (.row 70 14 (out_1.length+1) (fun i=>bif Nat.blt i out_1.length then (et out_1) i else (fun i=>(dq 14 (aR (l.getD (Int.toNat i_1) aU))) (0+i)) (i - out_1.length))))],1⟩)<|hh fun _=>lg (.of (.q rfl (.q rfl (.cons rfl (.rown (bY rfl rfl)) (.q rfl .nil)))) (.row rfl (ac.app .b (ac.zero (ac.l1 (enc:=aR) (z:=aU) 14 (l.getD (Int.toNat i_1) aU) rfl))) .nil rfl) rfl)) (.lf (some (Sum.inl (out_1,(ai (i_1+1))))) .normal _<|hh fun _=>l0)) (.lf (some (Sum.inr out_1)) (.exit 0) (Cy l person (out_1,i_1))<|hh fun _=>lg (.cn [5]))
theorem adL {l person out_1 i_1}:Ax tP 28 Za 0 iK (Ij l person out_1 i_1) (akx l person out_1 i_1):=.tE mixed [] [0,1,5,6] 4
def AL (l:(List ae)) (person:Int) (s:((List ae) × Int)):Option (((List ae) × Int) ⊕ (((List ae)))):=match s with | (out_1,i_1)=>(Ij l person out_1 i_1).opt
theorem agh (l person s):Pp tP 28 (List.drop 0 Za) (Cy l person s) (AL l person s) (cl (Cy l person) (Cp l person)):=fun K h=>match s,h with | (out_1,i_1),h=>(adL h)
theorem Tg (l person):∀ r J K,Cp l person r K→Cp l person r (aH J K)
  | s,_,_,h=>h
def VH (out_3:(List ae)):St:=⟨[sv 5 (.row 0 14 0 out_3.length)],[(bP 0 70 out_3)],1⟩
def HR (out_3:(List ae)):PT _ (rE TH) iK:=.lf (some out_3) .ret _<|hh fun _=>l0
theorem aee {out_3}:Ax tP 28 uQ 4 iK (HR out_3) (VH out_3):=.tE mixed [] [4] 2
def aj7 (l:(List ae)) (person:Int):St:=⟨[sv 0 (bk l),sv 1 (i64 person),sv 5 (.c .nil),sv 6 (i64 0)],[],0⟩
abbrev Fh (l:(List ae)) (person:Int) (r:(((List ae)))):Option ((List ae)):=match r with | out_2=>((HR out_2).opt)
def H6 (l:(List ae)) (person:Int):Option ((List ae)):=(fixL (AL l person) (([]:List ae),0)).bind (Fh l person)
theorem af0:List.drop 3 uQ = .block 0 (.loop (ah (ah (aQ uQ 3)))) :: List.drop 4 uQ:=by kernel_rfl
theorem ag4 (l person K):∀ r,W (Fh l person r) (rE TH K)→Cp l person r (wK (bj 0 (aH (ar tP 28 (List.drop 4 uQ) K) K)))
  | out_2,h=>⟨(VH out_2),(.refl _),(aee h)⟩
theorem ac0 {l person K} (h:W (H6 l person) (rE TH K)):ar tP 28 (List.drop 3 uQ) K (aj7 l person) :=
  ar.at_ af0 (ar.cons_loop (aC.weak (aC.ent (.trans (.nilrow 5 0 70 14 (aV aR aU []) (Nat.le_of_ble_eq_true rfl) rfl) (.cn [0,1,5,6])) (aC.loopF (x:=ah (ah (aQ uQ 3))) (f:=AL l person) (emb:=Cy l person) (E:=Cp l person) (agh l person) (Tg l person) (bT h (ag4 l person K))))))
def alB (l:(List ae)) (person:Int):St:=⟨[sv 0 (bk l),sv 1 (i64 person)],[],0⟩
def IE (l:(List ae)) (person:Int):PT _ (rE TH) (dK tP 28 uQ 3 iK):=.lf (H6 l person) .normal _<|hh fun _ h=>l0 (ac0 h)
theorem aaw {l person}:Ax tP 28 uQ 0 iK (IE l person) (alB l person):=.tD mixed [] [0,1,5,6] 3
def Qc (l:(List ae)) (person:Int):Option ((List ae)):=(IE l person).opt
def JW:bU:=fH ii (aI .i64) Qc ([]:List ae) Qa
theorem QZ:bc tP 22 JW:=dA Tryz.f22 (an Tryz.f22) [.tmp 4] 28 fun u0 u1 y h=>@aaw u0 u1 _ (bn.2 ⟨y,h,(cz (.row 0 14 0 y.length) (⟨_,_,_,rfl,rfl,rfl,fun _ _=>rfl,fun _ i hi d hd=>lY _ d hd⟩))⟩)
abbrev M0:FE tP:=⟨22, .pure JW,QZ⟩
noncomputable def uS:List Code:=aA (an Tryz.f93)
noncomputable def ZS:List Code:=aA (ah (ah (aQ uS 3)))
def Li (x_1:Bool):bK:=.data (bl x_1)
def P9 (x_1:Bool):St:=⟨[sv 4 (bl x_1)],[],0⟩
def CU (c:Int) (s_1:ByteArray) (s:(Int)):St:=match s with | i_1=>⟨[sv 1 (.c (.lit (.int .u8 c))),sv 5 (aX s_1),sv 6 (i64 i_1)],[],0⟩
def ae0 (c:Int) (s_1:ByteArray) (s:Unit):St:=match s with | ()=>⟨[sv 4 (bl true)],[],0⟩
def ad7 (c:Int) (s_1:ByteArray) (s:Unit):St:=match s with | ()=>⟨[],[],0⟩
def BK (c:Int) (s_1:ByteArray) (r:((Unit) ⊕ (Unit))) (K:KT):Prop:=match r with | (.inl s)=>K .ret (ae0 c s_1 s) | (.inr s)=>K (.exit 0) (ad7 c s_1 s)
def ai4 (c:Int) (s_1:ByteArray) (i_1:Int):St:=CU c s_1 i_1
def kd (c:Int) (s_1:ByteArray) (i_1:Int):PT _ (nE (CU c s_1) (BK c s_1)) iK:=.bf (decide (i_1 < (s_1.size:Int))) (.g2 (0≤i_1) (i_1 < (s_1.size:Int))<|.bf (((s_1.data.getD (Int.toNat i_1) 0).toNat:Int) == c) (.lf (some (Sum.inr (Sum.inl ()))) .ret _<|hh fun _=>lx [4] [] [sv 1 (.c (.lit (.int .u8 c))),sv 5 (aX s_1),sv 6 (i64 i_1)]) (.lf (some (Sum.inl (ai (i_1+1)))) .normal _<|hh fun _=>l0)) (.lf (some (Sum.inr (Sum.inr ()))) (.exit 0) (CU c s_1 i_1)<|hh fun _=>lg (.cn []))
theorem afK {c s_1 i_1}:Ax tP 20 ZS 0 iK (kd c s_1 i_1) (ai4 c s_1 i_1):=.tE mixed [] [1,4,5,6] 4
def qx (c:Int) (s_1:ByteArray) (s:(Int)):Option ((Int) ⊕ ((Unit) ⊕ (Unit))):=match s with | i_1=>(kd c s_1 i_1).opt
theorem agt (c s_1 s):Pp tP 20 (List.drop 0 ZS) (CU c s_1 s) (qx c s_1 s) (cl (CU c s_1) (BK c s_1)):=fun K h=>match s,h with | i_1,h=>(afK h)
theorem Ud (c s_1):∀ r J K,BK c s_1 r K→BK c s_1 r (aH J K)
  | (.inl s),_,_,h=>h
  | (.inr s),_,_,h=>h
def Us:St:=⟨[],[],0⟩
def wG:PT _ (rE P9) iK:=.lf (some false) .ret _<|hh fun _=>l0
theorem adE:Ax tP 20 uS 4 iK wG Us:=.tE mixed [] [4] 2
def ahV (c:Int) (s_1:ByteArray):St:=⟨[sv 1 (.c (.lit (.int .u8 c))),sv 5 (aX s_1),sv 6 (i64 0)],[],0⟩
abbrev nC (c:Int) (s_1:ByteArray) (r:((Unit) ⊕ (Unit))):Option (Bool):=match r with | (.inl ())=>(some true) | (.inr ())=>wG.opt
def wP (c:Int) (s_1:ByteArray):Option (Bool):=(fixL (qx c s_1) 0).bind (nC c s_1)
theorem abQ:List.drop 3 uS = .block 0 (.loop (ah (ah (aQ uS 3)))) :: List.drop 4 uS:=by kernel_rfl
theorem ai1 (c s_1 K):∀ r,W (nC c s_1 r) (rE P9 K)→BK c s_1 r (wK (bj 0 (aH (ar tP 20 (List.drop 4 uS) K) K)))
  | (.inl ()),h=>⟨(P9 true),(.refl _),h⟩
  | (.inr ()),h=>⟨(Us),(.refl _),(adE h)⟩
theorem abu {c s_1 K} (h:W (wP c s_1) (rE P9 K)):ar tP 20 (List.drop 3 uS) K (ahV c s_1) :=
  ar.at_ abQ (ar.cons_loop (aC.weak (aC.ent (.refl _) (aC.loopF (x:=ah (ah (aQ uS 3))) (f:=qx c s_1) (emb:=CU c s_1) (E:=BK c s_1) (agt c s_1) (Ud c s_1) (bT h (ai1 c s_1 K))))))
def ajn (kind c:Int):St:=⟨[sv 0 (i64 kind),sv 1 (.c (.lit (.int .u8 c)))],[],0⟩
def qc (kind c:Int):PT _ (rE P9) (dK tP 20 uS 3 iK):=.bd (mh kind) (ak []) fun r_2=>.lf (wP c r_2) .normal _<|hh fun _ h=>l0 (abu h)
theorem abw {kind c}:Ax tP 20 uS 0 iK (qc kind c) (ajn kind c):=.tD mixed [Kg] [1,5,6] 3
def DI (kind c:Int):Option (Bool):=(qc kind c).opt
def FF:bU:=fH (aI .i64) (aI .u8) DI false Li
theorem NI:bc tP 93 FF:=dA Tryz.f93 (an Tryz.f93) [.tmp 4] 20 fun u0 u1 y h=>@abw u0 u1 _ (bn.2 ⟨y,h,(cz (bl y) (VLe.rfl' _))⟩)
abbrev e93:FE tP:=⟨93, .pure FF,NI⟩
noncomputable def ana:List Code:=aA (an Tryz.f72)
def KE (x_1:Bool):bK:=.data (bl x_1)
def aog (x_1:Bool):St:=⟨[sv 10 (bl x_1)],[],0⟩
def aih (kind c n least most:Int):St:=⟨[sv 0 (i64 kind),sv 1 (.c (.lit (.int .u8 c))),sv 2 (i64 n),sv 3 (i64 least),sv 4 (i64 most)],[],0⟩
def pc (kind c n least most:Int):PT _ (rE aog) iK:=.bd (DI kind c) false fun r_2=>.bf r_2 (.lf (some (bif (decide (least≤n)) then (decide (n≤most)) else false)) .ret _<|hh fun _=>l0) (.lf (some (n == 0)) .ret _<|hh fun _=>l0)
theorem acR {kind c n least most}:Ax tP 24 ana 0 iK (pc kind c n least most) (aih kind c n least most):=.tE mixed [e93] [10] 5
def bV (kind c n least most:Int):Option (Bool):=(pc kind c n least most).opt
def Es:bU:=XU (aI .i64) (aI .u8) (aI .i64) (aI .i64) (aI .i64) bV false KE
theorem Mb:bc tP 72 Es:=akO Tryz.f72 (an Tryz.f72) [.tmp 10] 24 fun u0 u1 u2 u3 u4 y h=>@acR u0 u1 u2 u3 u4 _ (bn.2 ⟨y,h,(cz (bl y) (VLe.rfl' _))⟩)
abbrev e72:FE tP:=⟨72, .pure Es,Mb⟩
noncomputable def Sf:List Code:=aA (an Tryz.f51)
def J8 (x_1:Bool):bK:=.data (bl x_1)
def ahp (x_1:Bool):St:=⟨[sv 2 (bl x_1)],[],0⟩
def alP (f:ae):St:=⟨[sv 1 (.ptr 0 14 0 0),sv 3 (i64 f.Kind)],[(0,some (.bx (aR f)))],1⟩
def tG (f:ae):PT _ (rE ahp) iK:=.bf (bif (bif (bif (bif (f.Kind == 11) then true else (f.Kind == 12)) then ((ai (f.Span.To - f.Span.From)) != 1) else false) then true else (bif (f.Kind == 4) then (f.Seat == f.State) else false)) then true else (bif (bif (f.Kind == 10) then true else (f.Kind == 14)) then (f.Ref == f.Person) else false)) (.lf (some false) .ret _<|hh fun _=>l0) (.bd (bV f.Kind 83 f.State 0 5) false fun r_2=>.g1 ((r_2&&true) = true→(bV f.Kind 84 f.Seat 0 5).isSome = true)<|.g1 (((bif r_2 then ((bV f.Kind 84 f.Seat 0 5).getD false) else false)&&true) = true→(bV f.Kind 72 f.Share 1 100).isSome = true)<|.g1 (((bif (bif r_2 then ((bV f.Kind 84 f.Seat 0 5).getD false) else false) then ((bV f.Kind 72 f.Share 1 100).getD false) else false)&&true) = true→(bV f.Kind 67 f.Currency 1 999).isSome = true)<|.g1 (((bif (bif (bif r_2 then ((bV f.Kind 84 f.Seat 0 5).getD false) else false) then ((bV f.Kind 72 f.Share 1 100).getD false) else false) then ((bV f.Kind 67 f.Currency 1 999).getD false) else false)&&true) = true→(bV f.Kind 65 f.Amount 0 1000000000).isSome = true)<|.g1 (((bif (bif (bif (bif r_2 then ((bV f.Kind 84 f.Seat 0 5).getD false) else false) then ((bV f.Kind 72 f.Share 1 100).getD false) else false) then ((bV f.Kind 67 f.Currency 1 999).getD false) else false) then ((bV f.Kind 65 f.Amount 0 1000000000).getD false) else false)&&true) = true→(bV f.Kind 82 f.Ref 1 99).isSome = true)<|.lf (some (bif (bif (bif (bif (bif r_2 then ((bV f.Kind 84 f.Seat 0 5).getD false) else false) then ((bV f.Kind 72 f.Share 1 100).getD false) else false) then ((bV f.Kind 67 f.Currency 1 999).getD false) else false) then ((bV f.Kind 65 f.Amount 0 1000000000).getD false) else false) then ((bV f.Kind 82 f.Ref 1 99).getD false) else false)) .ret _<|hh fun _=>l0)
theorem acM {f}:Ax tP 144 Sf 6 iK (tG f) (alP f):=.tE mixed [e72] [2] 4
def alQ (f:ae):St:=⟨[sv 0 (.ag (aR f))],[],0⟩
def oL (f:ae):PT _ (rE ahp) (dK tP 144 Sf 6 iK):=.g1 (((!(bif (bif (bif (bif (bif (bif (bif (decide (f.Issuer < 0)) then true else (decide (6≤f.Issuer))) then true else (decide (f.Number < 1))) then true else (decide (999 < f.Number))) then true else (decide (f.Version < 1))) then true else (decide (99 < f.Version))) then true else (decide (f.Person < 1))) then true else (decide (99 < f.Person))))&&true) = true→(mh f.Kind).isSome = true)<|.bf (bif (bif (bif (bif (bif (bif (bif (bif (decide (f.Issuer < 0)) then true else (decide (6≤f.Issuer))) then true else (decide (f.Number < 1))) then true else (decide (999 < f.Number))) then true else (decide (f.Version < 1))) then true else (decide (99 < f.Version))) then true else (decide (f.Person < 1))) then true else (decide (99 < f.Person))) then true else (((mh f.Kind).getD (ak [])).toList == (ak []).toList)) (.lf (some false) .ret (⟨[sv 1 (.ptr 0 14 0 0),sv 2 (bl false),sv 3 (i64 f.Kind)],[(0,some (.bx (aR f)))],1⟩)<|hh fun _=>lg (.cn [2])) (.bf (bif (bif (decide (f.Span.From < 0)) then true else (decide (f.Span.To≤f.Span.From))) then true else (decide (73049 < f.Span.To))) (.lf (some false) .ret (⟨[sv 1 (.ptr 0 14 0 0),sv 2 (bl false),sv 3 (i64 f.Kind)],[(0,some (.bx (aR f)))],1⟩)<|hh fun _=>lg (.cn [2])) (.lf ((tG f).opt) .normal _<|hh fun _ h=>lz (acM h) [1,3] [] [sv 2 (bl false)]))
theorem ac1 {f}:Ax tP 144 Sf 0 iK (oL f) (alQ f):=.tD mixed [Kg] [1,2,3,71,72,75,76,77,78,79,80,81,82,85,86,87,88,89,90,91,92,93,96,97,98,99,100,101,102,103,104,105,106,107,108,115,116,117,118,121,122,123,124,127,128,129,130,133,134,135,136,139,140,141,142] 6
def eZ (f:ae):Option (Bool):=(oL f).opt
def Fa:bU:=dI wk eZ false J8
theorem LH:bc tP 51 Fa:=cD Tryz.f51 (an Tryz.f51) [.tmp 2] 144 fun u0 y h=>@ac1 u0 _ (bn.2 ⟨y,h,(cz (bl y) (VLe.rfl' _))⟩)
abbrev ZY:FE tP:=⟨51, .pure Fa,LH⟩
noncomputable def al9:List Code:=aA (an Tryz.f52)
def Oq (x_1:Int):bK:=.data (i64 x_1)
def anW (x_1:Int):St:=⟨[sv 4 (i64 x_1)],[],0⟩
def ajL (a b:ae):St:=⟨[sv 0 (.ag (aR a)),sv 1 (.ag (aR b))],[],0⟩
def uU (a b:ae):PT _ (rE anW) iK:=.bf (a.Issuer != b.Issuer) (.lf (some (ai (a.Issuer - b.Issuer))) .ret _<|hh fun _=>l0) (.lf (some (ai (a.Number - b.Number))) .ret _<|hh fun _=>l0)
theorem af9 {a b}:Ax tP 20 al9 0 iK (uU a b) (ajL a b):=.tE mixed [] [4] 5
def jF (a b:ae):Option (Int):=(uU a b).opt
def J9:bU:=fH wk wk jF (0:Int) Oq
theorem QE:bc tP 52 J9:=dA Tryz.f52 (an Tryz.f52) [.tmp 4] 20 fun u0 u1 y h=>@af9 u0 u1 _ (bn.2 ⟨y,h,(cz (i64 y) (VLe.rfl' _))⟩)
abbrev e52:FE tP:=⟨52, .pure J9,QE⟩
noncomputable def uV:List Code:=aA (an Tryz.f94)
noncomputable def Y5:List Code:=aA (ah (ah (aQ uV 2)))
def Ma (x_1:(List Int)):St:=⟨[sv 6 (.row 0 1 0 x_1.length)],[(Ep 0 5 x_1)],1⟩
theorem aie (x_1:(List Int)) {H:am} {nid:Nat} {ps:List Prop} {o:Nat}:eo tP [.tmp 6] (fun σ v=>∃ m,Left [o] nid H false { pre:=ps,val:=.row o 1 0 x_1.length,eff:=[(o,some (.row 5 1 x_1.length (aV lS (0:Int) x_1)))],kill:=[o] } m σ v) .ret (Ma x_1) :=
  eo.intro (v:=(.row 0 1 0 x_1.length)) (by kernel_rfl) ⟨_,OL (q:=0) rfl (fun _ _=>rfl) (.inr fun i hi d hd=>L0 _ d hd)⟩
theorem abm (x_1:(List Int)) {H:am} {nid:Nat} {ps:List Prop}:eo tP [.tmp 6] (fun σ v=>∃ m,Left [] nid H false { pre:=ps,val:=.row nid 1 0 x_1.length,eff:=[(nid,some (.row 5 1 x_1.length (aV lS (0:Int) x_1)))],kill:=[] } m σ v) .ret (Ma x_1) :=
  eo.intro (v:=(.row 0 1 0 x_1.length)) (by kernel_rfl) ⟨_,PR (q:=0) rfl (fun _ _=>rfl) (.inr fun i hi d hd=>L0 _ d hd)⟩
def B6 (b:(List Int)) (n i_1:Int) (s:((List Int) × Int)):St:=match s with | (b_1,i_2)=>⟨[sv 0 (.row 0 1 0 b_1.length),sv 1 (i64 n),sv 7 (i64 i_2)],[(Ep 0 5 b_1)],1⟩
def aa7 (b:(List Int)) (n i_1:Int) (s:(List Int)):St:=match s with | b_2=>⟨[sv 0 (.row 0 1 0 b_2.length)],[(Ep 0 5 b_2)],1⟩
def AZ (b:(List Int)) (n i_1:Int) (r:(((List Int)))) (K:KT):Prop:=match r with | s=>K (.exit 0) (aa7 b n i_1 s)
def akg (b_1:(List Int)) (n i_2:Int):St:=B6 ([]:List Int) n (0:Int) (b_1,i_2)
def ss (b_1:(List Int)) (n i_2:Int):PT _ (nE (B6 ([]:List Int) n (0:Int)) (AZ ([]:List Int) n (0:Int))) iK:=.bf (decide (0≤i_2)) (.g1 (0≤(IntKind.u64.wrap (ai (8*i_2))))<|.tv (b_1.length = b_1.length) rfl<|.gc (b_1.length+1) 1<|.lf (some (Sum.inl ((b_1++([(IntKind.u8.wrap (Int.fdiv n (2 ^ min (Int.toNat (IntKind.u64.wrap (ai (8*i_2)))) 64)))]:List Int)),(ai (i_2 - 1))))) .normal (⟨[sv 0 (.row 0 1 0 (b_1.length+1)),sv 1 (i64 n),sv 7 (i64 (ai (i_2 - 1)))],[(0,some (.row 5 1 (b_1.length+1) (fun i=>bif Nat.blt i b_1.length then (Ol b_1) i else (fun i=>(dq 1 (lS (IntKind.u8.wrap (Int.fdiv n (2 ^ min (Int.toNat (IntKind.u64.wrap (ai (8*i_2)))) 64))))) (0+i)) (i - b_1.length))))],1⟩)<|hh fun _=>lg (.of (.cons rfl (.rown (bY rfl rfl)) (.q rfl (.q rfl .nil))) (.row rfl (ac.app .b (ac.zero (ac.l1 (enc:=lS) (z:=(0:Int)) 1 (IntKind.u8.wrap (Int.fdiv n (2 ^ min (Int.toNat (IntKind.u64.wrap (ai (8*i_2)))) 64))) rfl))) .nil rfl) rfl)) (.lf (some (Sum.inr b_1)) (.exit 0) (B6 ([]:List Int) n (0:Int) (b_1,i_2))<|hh fun _=>lg (.cn [0]))
theorem aa3 {b_1 n i_2}:Ax tP 24 Y5 0 iK (ss b_1 n i_2) (akg b_1 n i_2):=.tE mixed [] [0,1,7] 4
def xY (b:(List Int)) (n i_1:Int) (s:((List Int) × Int)):Option (((List Int) × Int) ⊕ (((List Int)))):=match s with | (b_1,i_2)=>(ss b_1 n i_2).opt
theorem adI (b n i_1 s):Pp tP 24 (List.drop 0 Y5) (B6 b n i_1 s) (xY b n i_1 s) (cl (B6 b n i_1) (AZ b n i_1)):=fun K h=>match s,h with | (b_1,i_2),h=>(aa3 h)
theorem Sd (b n i_1):∀ r J K,AZ b n i_1 r K→AZ b n i_1 r (aH J K)
  | s,_,_,h=>h
def VL (b_3:(List Int)):St:=⟨[sv 0 (.row 0 1 0 b_3.length)],[(Ep 0 5 b_3)],1⟩
def sJ (b_3:(List Int)):PT _ (rE Ma) iK:=.lf (some b_3) .ret _<|hh fun _=>l0
theorem aap {b_3}:Ax tP 24 uV 3 iK (sJ b_3) (VL b_3):=.tE mixed [] [6] 2
def aiO (b:(List Int)) (n i_1:Int):St:=⟨[sv 0 (.row 0 1 0 b.length),sv 1 (i64 n),sv 7 (i64 i_1)],[(Ep 0 5 b)],1⟩
abbrev BM (b:(List Int)) (n i_1:Int) (r:(((List Int)))):Option ((List Int)):=match r with | b_2=>((sJ b_2).opt)
def Gf (b:(List Int)) (n i_1:Int):Option ((List Int)):=(fixL (xY b n i_1) (b,i_1)).bind (BM b n i_1)
theorem aaj:List.drop 2 uV = .block 0 (.loop (ah (ah (aQ uV 2)))) :: List.drop 3 uV:=by kernel_rfl
theorem ak6 (b n i_1 K):∀ r,W (BM b n i_1 r) (rE Ma K)→AZ b n i_1 r (wK (bj 0 (aH (ar tP 24 (List.drop 3 uV) K) K)))
  | b_2,h=>⟨(VL b_2),(.refl _),(aap h)⟩
theorem afW {b n i_1 K} (h:W (Gf b n i_1) (rE Ma K)):ar tP 24 (List.drop 2 uV) K (aiO b n i_1) :=
  ar.at_ aaj (ar.cons_loop (aC.weak (aC.ent (.refl _) (aC.loopF (x:=ah (ah (aQ uV 2))) (f:=xY b n i_1) (emb:=B6 b n i_1) (E:=AZ b n i_1) (adI b n i_1) (Sd b n i_1) (bT h (ak6 b n i_1 K))))))
def ajE (b:(List Int)) (n size:Int):St:=⟨[sv 0 (.row 0 1 0 b.length),sv 1 (i64 n),sv 2 (i64 size)],[(Ep 0 5 b)],1⟩
def rN (b:(List Int)) (n size:Int):PT _ (rE Ma) (dK tP 24 uV 2 iK):=.lf (Gf b n (ai (size - 1))) .normal _<|hh fun _ h=>l0 (afW h)
theorem RQ {b n size}:Ax tP 24 uV 0 iK (rN b n size) (ajE b n size):=.tD mixed [] [0,1,7] 2
def cL (b:(List Int)) (n size:Int):Option ((List Int)):=(rN b n size).opt
def AG:am→Nat→List V→Option cM:=fun H nid args=>match oJ H [true,false,false] args with
  | [(.row o_ k_ f_ n_),(.c (.lit (.int .i64 a1))),(.c (.lit (.int .i64 a2)))]=>(match am.get H o_ with
    | some (.row t_ k2_ m_ e_)=>bif Nat.beq t_ 5&&Nat.beq k2_ 1&&Nat.beq k_ 1&&Nat.beq f_ 0&&dY [o_] H false [true,false,false] args then some { pre:=[n_ = m_,aJ lS nH 1 1 m_ e_,(cL (lst nH m_ e_) a1 a2).isSome = true],val:=.row o_ 1 0 ((cL (lst nH m_ e_) a1 a2).getD ([]:List Int)).length,eff:=[(o_,some (.row 5 1 ((cL (lst nH m_ e_) a1 a2).getD ([]:List Int)).length (aV lS (0:Int) ((cL (lst nH m_ e_) a1 a2).getD ([]:List Int)))))],kill:=[o_] } else none
    | _=>none)
  | [(.c .nil),(.c (.lit (.int .i64 a1))),(.c (.lit (.int .i64 a2)))]=>bif dY [] H false [true,false,false] args then some { pre:=[(cL ([]:List Int) a1 a2).isSome = true],val:=.row nid 1 0 ((cL ([]:List Int) a1 a2).getD ([]:List Int)).length,eff:=[(nid,some (.row 5 1 ((cL ([]:List Int) a1 a2).getD ([]:List Int)).length (aV lS (0:Int) ((cL ([]:List Int) a1 a2).getD ([]:List Int)))))],kill:=[] } else none
  | _=>none
theorem OY:bR tP 94 (.mut AG):=by
  refine MD (fn:=Tryz.f94) (c:=an Tryz.f94) (by kernel_rfl) (by kernel_rfl) (by kernel_rfl) (rs:=[.tmp 6]) (by kernel_rfl) (nt:=24) (by kernel_rfl) fun H nid args r h hp=>?_
  unfold AG at h
  split at h
  · next o_ k_ f_ n_ a1 a2 hv =>
    split at h
    · next t_ k2_ m_ e_ hg =>
      cases hb:(Nat.beq t_ 5&&Nat.beq k2_ 1&&Nat.beq k_ 1&&Nat.beq f_ 0&&dY [o_] H false [true,false,false] args) with
      | false=>rw [hb] at h; cases h
      | true =>
        rw [hb] at h
        simp only [Bool.and_eq_true,Nat.beq_eq] at hb
        obtain ⟨⟨⟨⟨rfl,rfl⟩,rfl⟩,rfl⟩,hk⟩:=hb
        cases h
        obtain ⟨hn,hp⟩:=ce hp
        obtain ⟨gr,hp⟩:=ce hp
        obtain ⟨g,hp⟩:=ce hp
        obtain ⟨x,hx⟩:=Option.isSome_iff_exists.1 g
        rw [hx]
        subst hn
        exact .inl ⟨false,[true,false,false],o_,5,1,_,e_,[.row 0 1 0 (lst nH _ e_).length,(i64 a1),(i64 a2)],hg,hk,by rw [hv]; simp only [pB,cond_true,cond_false,OX]; exact (VLes.cons (VLe.rown (ac.of_ok (z:=(0:Int)) gr).len) (VLes.cons (VLe.rfl' _) (VLes.cons (VLe.rfl' _) VLes.nil))),rfl,ar.ent (dv.of (bM.cons rfl (VLe.rfl' _) (bM.cons rfl (VLe.rfl' _) (bM.cons rfl (VLe.rfl' _) bM.nil))) (cC.row rfl (ac.of_ok gr) cC.nil rfl) rfl) (@RQ (lst nH _ e_) a1 a2 _ (bn.2 ⟨x,hx,aie x⟩))⟩
    · cases h
  · next a1 a2 hv =>
    cases hb:dY [] H false [true,false,false] args with
      | false=>rw [hb] at h; cases h
      | true =>
        rw [hb] at h
        cases h
        obtain ⟨g,hp⟩:=ce hp
        obtain ⟨x,hx⟩:=Option.isSome_iff_exists.1 g
        rw [hx]
        exact .inr ⟨false,[true,false,false],[.c .nil,(i64 a1),(i64 a2)],hb,by rw [hv]; simp only [pB,cond_true,cond_false]; exact (VLes.cons (VLe.rfl' _) (VLes.cons (VLe.rfl' _) (VLes.cons (VLe.rfl' _) VLes.nil))),rfl,ar.ent (dv.trans (dv.nilrow 0 0 5 1 (aV lS (0:Int) []) (Nat.le_refl _) rfl) (dv.of (bM.cons rfl (VLe.rown rfl) (bM.cons rfl (VLe.rfl' _) (bM.cons rfl (VLe.rfl' _) bM.nil))) (cC.row rfl (ac.ls lS (0:Int) []) cC.nil rfl) rfl)) (@RQ ([]:List Int) a1 a2 _ (bn.2 ⟨x,hx,abm x⟩))⟩
  · cases h
abbrev e94:FE tP:=⟨94, .mut AG,OY⟩
noncomputable def qy:List Code:=aA (an Tryz.f73)
noncomputable def NU:List Code:=aA (ah (ah (aQ qy 9)))
def JA (x_1:(List Int)):bK:=.own true 5 1 (x_1).length (aV lS (0:Int) x_1)
def Qd (x_1:(List Int)):St:=⟨[sv 2 (.row 0 1 0 x_1.length)],[(Ep 0 5 x_1)],1⟩
def yQ (b:(List Int)) (s_1:ByteArray) (f:ae) (s:((List Int) × Int)):St:=match s with | (b_2,i_1)=>⟨[sv 1 (.ptr 0 14 0 0),sv 4 (.row 1 1 0 b_2.length),sv 5 (aX s_1),sv 6 (i64 i_1)],[(0,some (.bx (aR f))),(Ep 1 5 b_2)],2⟩
def adf (b:(List Int)) (s_1:ByteArray) (f:ae) (s:(List Int)):St:=match s with | b_3=>⟨[sv 4 (.row 0 1 0 b_3.length)],[(Ep 0 5 b_3)],1⟩
def yH (b:(List Int)) (s_1:ByteArray) (f:ae) (r:(((List Int)))) (K:KT):Prop:=match r with | s=>K (.exit 0) (adf b s_1 f s)
def akZ (b_1:(List Int)) (s_1:ByteArray) (i_2:Int) (f:ae):St:=⟨[sv 1 (.ptr 0 14 0 0),sv 4 (.row 1 1 0 b_1.length),sv 5 (aX s_1),sv 6 (i64 i_2)],[(0,some (.bx (aR f))),(Ep 1 5 b_1)],2⟩
def ej (b_1:(List Int)) (s_1:ByteArray) (i_2:Int) (f:ae):PT _ (nE (yQ ([]:List Int) s_1 f) (yH ([]:List Int) s_1 f)) iK:=.lf (some (Sum.inl (b_1,(ai (i_2+1))))) .normal _<|hh fun _=>l0
theorem rF {b_1 s_1 i_2 f}:Ax tP 89 NU 3 iK (ej b_1 s_1 i_2 f) (akZ b_1 s_1 i_2 f):=.tE mixed [] [1,4,5,6] 1
def ahc (b_2:(List Int)) (s_1:ByteArray) (i_1:Int) (f:ae):St:=yQ ([]:List Int) s_1 f (b_2,i_1)
def jz (b_2:(List Int)) (s_1:ByteArray) (i_1:Int) (f:ae):PT _ (nE (yQ ([]:List Int) s_1 f) (yH ([]:List Int) s_1 f)) (dK tP 89 NU 3 iK):=.bf (decide (i_1 < (s_1.size:Int))) (.g2 (0≤i_1) (i_1 < (s_1.size:Int))<|.bf (((s_1.data.getD (Int.toNat i_1) 0).toNat:Int) == 83) (.tv (b_2.length = b_2.length) (rfl)<|.lk BJ b_2 fun L1_=>.bd (cL L1_ f.State 1) [] fun r_17=>.lf ((ej r_17 s_1 i_1 f).opt) .normal _<|hh fun _ h=>l0 (rF h)) (.bf (((s_1.data.getD (Int.toNat i_1) 0).toNat:Int) == 80) (.tv (b_2.length = b_2.length) (rfl)<|.lk BJ b_2 fun L2_=>.bd (cL L2_ f.Span.From 3) [] fun r_18=>.tv (r_18.length = r_18.length) (rfl)<|.lk BJ r_18 fun L3_=>.bd (cL L3_ f.Span.To 3) [] fun r_19=>.lf ((ej r_19 s_1 i_1 f).opt) .normal _<|hh fun _ h=>l0 (rF h)) (.bf (((s_1.data.getD (Int.toNat i_1) 0).toNat:Int) == 84) (.tv (b_2.length = b_2.length) (rfl)<|.lk BJ b_2 fun L4_=>.bd (cL L4_ f.Seat 1) [] fun r_20=>.lf ((ej r_20 s_1 i_1 f).opt) .normal _<|hh fun _ h=>l0 (rF h)) (.bf (((s_1.data.getD (Int.toNat i_1) 0).toNat:Int) == 72) (.tv (b_2.length = b_2.length) (rfl)<|.lk BJ b_2 fun L5_=>.bd (cL L5_ f.Share 1) [] fun r_21=>.lf ((ej r_21 s_1 i_1 f).opt) .normal _<|hh fun _ h=>l0 (rF h)) (.bf (((s_1.data.getD (Int.toNat i_1) 0).toNat:Int) == 67) (.tv (b_2.length = b_2.length) (rfl)<|.lk BJ b_2 fun L6_=>.bd (cL L6_ f.Currency 2) [] fun r_22=>.lf ((ej r_22 s_1 i_1 f).opt) .normal _<|hh fun _ h=>l0 (rF h)) (.bf (((s_1.data.getD (Int.toNat i_1) 0).toNat:Int) == 65) (.tv (b_2.length = b_2.length) (rfl)<|.lk BJ b_2 fun L7_=>.bd (cL L7_ f.Amount 4) [] fun r_23=>.lf ((ej r_23 s_1 i_1 f).opt) .normal _<|hh fun _ h=>l0 (rF h)) (.bf (((s_1.data.getD (Int.toNat i_1) 0).toNat:Int) == 82) (.tv (b_2.length = b_2.length) (rfl)<|.lk BJ b_2 fun L8_=>.bd (cL L8_ f.Ref 1) [] fun r_24=>.lf ((ej r_24 s_1 i_1 f).opt) .normal _<|hh fun _ h=>l0 (rF h)) (.lf ((ej b_2 s_1 i_1 f).opt) .normal _<|hh fun _ h=>l0 (rF h))))))))) (.lf (some (Sum.inr b_2)) (.exit 0) (yQ ([]:List Int) s_1 f (b_2,i_1))<|hh fun _=>lg (.cn [4]))
theorem aeH {b_2 s_1 i_1 f}:Ax tP 89 NU 0 iK (jz b_2 s_1 i_1 f) (ahc b_2 s_1 i_1 f):=.tD mixed [e94] [1,4,5,6] 3
def tX (b:(List Int)) (s_1:ByteArray) (f:ae) (s:((List Int) × Int)):Option (((List Int) × Int) ⊕ (((List Int)))):=match s with | (b_2,i_1)=>(jz b_2 s_1 i_1 f).opt
theorem acA (b s_1 f s):Pp tP 89 (List.drop 0 NU) (yQ b s_1 f s) (tX b s_1 f s) (cl (yQ b s_1 f) (yH b s_1 f)):=fun K h=>match s,h with | (b_2,i_1),h=>(aeH h)
theorem SJ (b s_1 f):∀ r J K,yH b s_1 f r K→yH b s_1 f r (aH J K)
  | s,_,_,h=>h
def V2 (b_4:(List Int)):St:=⟨[sv 4 (.row 0 1 0 b_4.length)],[(Ep 0 5 b_4)],1⟩
def o6 (b_4:(List Int)):PT _ (rE Qd) iK:=.lf (some b_4) .ret _<|hh fun _=>l0
theorem adc {b_4}:Ax tP 89 qy 10 iK (o6 b_4) (V2 b_4):=.tE mixed [] [2] 2
def aiL (b:(List Int)) (s_1:ByteArray) (f:ae):St:=⟨[sv 1 (.ptr 0 14 0 0),sv 4 (.row 1 1 0 b.length),sv 5 (aX s_1),sv 6 (i64 0)],[(0,some (.bx (aR f))),(Ep 1 5 b)],2⟩
abbrev yu (b:(List Int)) (s_1:ByteArray) (f:ae) (r:(((List Int)))):Option ((List Int)):=match r with | b_3=>((o6 b_3).opt)
def C6 (b:(List Int)) (s_1:ByteArray) (f:ae):Option ((List Int)):=(fixL (tX b s_1 f) (b,0)).bind (yu b s_1 f)
theorem aem:List.drop 9 qy = .block 0 (.loop (ah (ah (aQ qy 9)))) :: List.drop 10 qy:=by kernel_rfl
theorem ahM (b s_1 f K):∀ r,W (yu b s_1 f r) (rE Qd K)→yH b s_1 f r (wK (bj 0 (aH (ar tP 89 (List.drop 10 qy) K) K)))
  | b_3,h=>⟨(V2 b_3),(.refl _),(adc h)⟩
theorem acj {b s_1 f K} (h:W (C6 b s_1 f) (rE Qd K)):ar tP 89 (List.drop 9 qy) K (aiL b s_1 f) :=
  ar.at_ aem (ar.cons_loop (aC.weak (aC.ent (.refl _) (aC.loopF (x:=ah (ah (aQ qy 9))) (f:=tX b s_1 f) (emb:=yQ b s_1 f) (E:=yH b s_1 f) (acA b s_1 f) (SJ b s_1 f) (bT h (ahM b s_1 f K))))))
def alo (gone:Int) (f:ae):St:=⟨[sv 1 (.ptr 0 14 0 0),sv 3 (i64 gone)],[(0,some (.bx (aR f)))],1⟩
def lp (gone:Int) (f:ae):PT _ (rE Qd) (dK tP 89 qy 9 iK):=.bd (cL ([]:List Int) f.Issuer 1) [] fun r_25=>.tv (r_25.length = r_25.length) (rfl)<|.lk BJ r_25 fun L1_=>.bd (cL L1_ f.Number 2) [] fun r_26=>.tv (r_26.length = r_26.length) (rfl)<|.lk BJ r_26 fun L2_=>.bd (cL L2_ f.Version 1) [] fun r_27=>.tv (r_27.length = r_27.length) (rfl)<|.lk BJ r_27 fun L3_=>.bd (cL L3_ gone 1) [] fun r_28=>.tv (r_28.length = r_28.length) (rfl)<|.lk BJ r_28 fun L4_=>.bd (cL L4_ f.Person 1) [] fun r_29=>.tv (r_29.length = r_29.length) (rfl)<|.lk BJ r_29 fun L5_=>.bd (cL L5_ f.Kind 1) [] fun r_30=>.bd (mh f.Kind) (ak []) fun r_31=>.lf (C6 r_30 r_31 f) .normal _<|hh fun _ h=>l0 (acj h)
theorem Ru {gone f}:Ax tP 89 qy 6 iK (lp gone f) (alo gone f):=.tD mixed [Kg,e94] [1,4,5,6] 3
def agG (f:ae):St:=⟨[sv 0 (.ag (aR f))],[],0⟩
def oO (f:ae):PT _ (rE Qd) (dK tP 89 qy 6 iK):=.bd (eZ f) false fun r_32=>.bf (!r_32) (.lf (some ([]:List Int)) .ret (⟨[sv 1 (.ptr 0 14 0 0),sv 2 (.c .nil)],[(0,some (.bx (aR f)))],1⟩)<|hh fun _=>lg (.trans (.nilrow 2 1 5 1 (aV lS (0:Int) []) (Nat.le_of_ble_eq_true rfl) rfl) (.cn [2]))) (.bf f.Withdrawn (.lf ((lp 1 f).opt) .normal _<|hh fun _ h=>lz (Ru h) [1,3] [] [sv 2 (.c .nil)]) (.lf ((lp 0 f).opt) .normal _<|hh fun _ h=>lz (Ru h) [1,3] [] [sv 2 (.c .nil)]))
theorem aez {f}:Ax tP 89 qy 0 iK (oO f) (agG f):=.tD mixed [ZY] [1,2,3] 6
def dy (f:ae):Option ((List Int)):=(oO f).opt
def EF:bU:=dI wk dy ([]:List Int) JA
theorem LC:bc tP 73 EF:=cD Tryz.f73 (an Tryz.f73) [.tmp 2] 89 fun u0 y h=>@aez u0 _ (bn.2 ⟨y,h,(cz (.row 0 1 0 y.length) (⟨_,_,_,rfl,rfl,rfl,fun _ _=>rfl,fun _ i hi d hd=>L0 _ d hd⟩))⟩)
abbrev e73:FE tP:=⟨73, .pure EF,LC⟩
noncomputable def amh:List Code:=aA (an Tryz.f53)
def Lk (x_1:Bool):bK:=.data (bl x_1)
def Ow (x_1:Bool):St:=⟨[sv 4 (bl x_1)],[],0⟩
def alh (a b:ae):St:=⟨[sv 0 (.ag (aR a)),sv 1 (.ag (aR b))],[],0⟩
def qt (a b:ae):Option (Bool):=(eZ a).bind fun r_5=>(gd (((!(!r_5))&&true) = true→(eZ b).isSome = true) ((bif (bif (!r_5) then true else (!((eZ b).getD false))) then (some false) else (jF a b).bind fun r_6=>((bif (r_6 != 0) then (some (decide (r_6 < 0))) else (bif (a.Version != b.Version) then (some (decide (a.Version < b.Version))) else (dy a).bind fun r_7=>((dy b).bind fun r_8=>((some (Op.bytesLess (oy r_7).toList (oy r_8).toList))))))))))
theorem abq {a b K} (h:W (qt a b) (rE Ow K)):ar tP 38 (List.drop 0 amh) K (alh a b) :=
  ar.qE mixed [ZY,e52,e73] [4] 0 10 (.nx2 (a1:=lst nH ((((dy a).getD [])).length) (fun i=>(Ol ((dy a).getD [])) (0+i))) (a2:=lst nH ((((dy b).getD [])).length) (fun i=>(Ol ((dy b).getD [])) (0+i))) (lr mZ (ac.zero .b)) (lr mZ (ac.zero .b)) (fun L1_ L2_ K=>let a1_:=(dy a).getD []; let a2_:=(dy b).getD []; let a3_:=!((eZ a).getD false); ((eZ a).isSome = true)∧(((!a3_)&&true) = true→(eZ b).isSome = true)∧((bif (bif a3_ then true else (!((eZ b).getD false))) then wK K .ret (Ow false) else ((jF a b).isSome = true)∧((bif (((jF a b).getD 0) != 0) then wK K .ret (Ow (decide (((jF a b).getD 0) < 0))) else (bif (a.Version != b.Version) then wK K .ret (Ow (decide (a.Version < b.Version))) else ((dy a).isSome = true)∧((0 < (a1_).length→1 = 1))∧((∀ i,i < (a1_).length→(fun i=>(Ol a1_) (0+i)) i = lS (nH ((fun i=>(Ol a1_) (0+i)) i))))∧((dy b).isSome = true)∧((0 < (a2_).length→1 = 1))∧((∀ i,i < (a2_).length→(fun i=>(Ol a2_) (0+i)) i = lS (nH ((fun i=>(Ol a2_) (0+i)) i))))∧(wK K .ret (Ow (Op.bytesLess (oy L1_).toList (oy L2_).toList))))))))) (VN false h (fun _=>(w1 (wB l0 (wN 0 (wB l0 (wB l0 (wN [] (wC (ac.ok (k:=1) mZ (ac.zero (ac.ls lS (0:Int) ((dy a).getD [])))).1 (wC (aJ.eq (ac.ok (k:=1) mZ (ac.zero (ac.ls lS (0:Int) ((dy a).getD [])))) fun _=>rfl) (wN [] (wC (ac.ok (k:=1) mZ (ac.zero (ac.ls lS (0:Int) ((dy b).getD [])))).1 (wC (aJ.eq (ac.ok (k:=1) mZ (ac.zero (ac.ls lS (0:Int) ((dy b).getD [])))) fun _=>rfl) l0))))))))))))))
def Eh (a b:ae):Option (Bool):=qt a b
def Gd:bU:=fH wk wk Eh false Lk
theorem NF:bc tP 53 Gd:=dA Tryz.f53 (an Tryz.f53) [.tmp 4] 38 fun u0 u1 y h=>@abq u0 u1 _ (bn.2 ⟨y,h,(cz (bl y) (VLe.rfl' _))⟩)
abbrev RW:FE tP:=⟨53, .pure Gd,NF⟩
end
end Go.Ax
