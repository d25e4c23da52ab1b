import Derived.Test.YtgamnldjlncdlaaGreatZA9
import Derived.Test.YtgamnldjlncdlaaGreatZLay
import Derived.Test.YtgamnldjlncdlaaGreatZA14
import Derived.Test.YtgamnldjlncdlaaGreatRows
/- Types of the program, and functions of it: printed by a program, checked by the kernel. -/
set_option linter.all false
set_option maxRecDepth 100000
namespace Go.Ax
open Go.Proofs Go.Proofs.YtgamnldjlncdlaaGreat
noncomputable abbrev tP:Program:=Tryz.prog
noncomputable section
attribute [local irreducible] PT.opt
theorem mixed:tP.follows .mixedOrders = true:=by kernel_rfl
theorem ay:dW aT bm:=.flat (fun _=>rfl) fun _=>rfl
theorem J2 (x:Int) (d:D) (h:d∈aT x):d.scal = true:=by
  simp only [aT,List.mem_singleton] at h; subst h; rfl
theorem nb:dW l6 nP:=.flat (fun _=>rfl) fun _=>rfl
theorem NH (x:Int) (d:D) (h:d∈l6 x):d.scal = true:=by
  simp only [l6,List.mem_singleton] at h; subst h; rfl
theorem Qv (x:ByteArray) (d:D) (h:d∈Fw x):d.scal = true:=by
  simp only [Fw,List.mem_singleton] at h; subst h; rfl
structure aQ where
  Issuer:Int
  Number:Int
  Version:Int
  Withdrawn:Bool
  Person:Int
  Kind:Int
  State:Int
  Seat:Int
  From:Int
  Length:Int
  Share:Int
  Amount:Int
  Ref:Int
def bq:aQ:=⟨(0:Int),(0:Int),(0:Int),false,(0:Int),(0:Int),(0:Int),(0:Int),(0:Int),(0:Int),(0:Int),(0:Int),(0:Int)⟩
def cB (x:aQ):List D:=[(di x.Issuer),(di x.Number),(di x.Version),(db x.Withdrawn),(di x.Person),(di x.Kind),(di x.State),(di x.Seat),(di x.From),(di x.Length),(di x.Share),(di x.Amount),(di x.Ref)]
def dS:List D→aQ
  | [.lit (.int .i64 a1), .lit (.int .i64 a2), .lit (.int .i64 a3), .lit (.bool a4), .lit (.int .i64 a5), .lit (.int .i64 a6), .lit (.int .i64 a7), .lit (.int .i64 a8), .lit (.int .i64 a9), .lit (.int .i64 a10), .lit (.int .i64 a11), .lit (.int .i64 a12), .lit (.int .i64 a13)]=>(aQ.mk a1 a2 a3 a4 a5 a6 a7 a8 a9 a10 a11 a12 a13)
  | _=>bq
theorem io:dW cB dS:=.flat (fun _=>rfl) fun _=>rfl
structure ab where
  From:Int
  To:Int
def aq:ab:=⟨(0:Int),(0:Int)⟩
def ab.s_To (x:ab) (v:Int):ab:=⟨x.From,v⟩
def aN (x:ab):List D:=[(di x.From),(di x.To)]
def bD:List D→ab
  | [.lit (.int .i64 a1), .lit (.int .i64 a2)]=>(ab.mk a1 a2)
  | _=>aq
theorem aY:dW aN bD:=.flat (fun _=>rfl) fun _=>rfl
theorem dJ (x:ab) (d:D) (h:d∈aN x):d.scal = true:=by
  have:(aN x).all D.scal = true:=rfl
  exact List.all_eq_true.1 this d h
structure ar where
  Span:ab
  State:Int
  Rule:Int
def dC:ar:=⟨aq,(0:Int),(0:Int)⟩
def iC (x:ar):List D:=[(di x.Span.From),(di x.Span.To),(di x.State),(di x.Rule)]
def ko:List D→ar
  | [.lit (.int .i64 a1), .lit (.int .i64 a2), .lit (.int .i64 a3), .lit (.int .i64 a4)]=>(ar.mk (ab.mk a1 a2) a3 a4)
  | _=>dC
theorem hU:dW iC ko:=.flat (fun _=>rfl) fun _=>rfl
def kH (x:(List Int)):List D:=[(.sl 1 x.length (aV aT (0:Int) x))]
def gZ:List D→(List Int)
  | [d]=>Ah bm d
  | _=>[]
theorem mU:dW kH gZ:=by
  intro x ds h
  obtain ⟨d,ds,rfl,h1,h⟩:=h.cons_inv
  obtain rfl:=h.nil_inv
  exact lR ay h1
structure al where
  From:Int
  Mode:Int
  Unit:Int
  Credits:(List Int)
  Series:(List Int)
  Lets:(List (List Int))
  Ifs:(List (List Int))
  Pays:(List (List Int))
  Cuts:(List (List Int))
  Twist:Int
def ce:al:=⟨(0:Int),(0:Int),(0:Int),([]:List Int),([]:List Int),([]:List (List Int)),([]:List (List Int)),([]:List (List Int)),([]:List (List Int)),(0:Int)⟩
def aR (x:al):List D:=[(di x.From),(di x.Mode),(di x.Unit),(.sl 1 x.Credits.length (aV aT (0:Int) x.Credits)),(.sl 1 x.Series.length (aV aT (0:Int) x.Series)),(.sl 1 x.Lets.length (aV kH ([]:List Int) x.Lets)),(.sl 1 x.Ifs.length (aV kH ([]:List Int) x.Ifs)),(.sl 1 x.Pays.length (aV kH ([]:List Int) x.Pays)),(.sl 1 x.Cuts.length (aV kH ([]:List Int) x.Cuts)),(di x.Twist)]
def dM:List D→al
  | [.lit (.int .i64 a1), .lit (.int .i64 a2), .lit (.int .i64 a3),a4,a5,a6,a7,a8,a9, .lit (.int .i64 a10)]=>(al.mk a1 a2 a3 (Ah bm a4) (Ah bm a5) (Ah gZ a6) (Ah gZ a7) (Ah gZ a8) (Ah gZ a9) a10)
  | _=>ce
theorem kR:dW aR dM:=by
  intro x ds h
  obtain ⟨d1,ds,rfl,h1,h⟩:=h.cons_inv
  obtain ⟨d2,ds,rfl,h2,h⟩:=h.cons_inv
  obtain ⟨d3,ds,rfl,h3,h⟩:=h.cons_inv
  obtain ⟨d4,ds,rfl,h4,h⟩:=h.cons_inv
  obtain ⟨d5,ds,rfl,h5,h⟩:=h.cons_inv
  obtain ⟨d6,ds,rfl,h6,h⟩:=h.cons_inv
  obtain ⟨d7,ds,rfl,h7,h⟩:=h.cons_inv
  obtain ⟨d8,ds,rfl,h8,h⟩:=h.cons_inv
  obtain ⟨d9,ds,rfl,h9,h⟩:=h.cons_inv
  obtain ⟨d10,ds,rfl,h10,h⟩:=h.cons_inv
  obtain rfl:=h.nil_inv
  obtain rfl:=h1.lit_inv rfl
  obtain rfl:=h2.lit_inv rfl
  obtain rfl:=h3.lit_inv rfl
  obtain rfl:=h10.lit_inv rfl
  simp only [dM,lR ay h4,lR ay h5,lR mU h6,lR mU h7,lR mU h8,lR mU h9]
structure ac where
  Issuer:Int
  Number:Int
  Version:Int
  Withdrawn:Bool
  Person:Int
  Kind:Int
  State:Int
  Span:ab
  Seat:Int
  Share:Int
  Currency:Int
  Amount:Int
  Ref:Int
def aW:ac:=⟨(0:Int),(0:Int),(0:Int),false,(0:Int),(0:Int),(0:Int),aq,(0:Int),(0:Int),(0:Int),(0:Int),(0:Int)⟩
def aX (x:ac):List D:=[(di x.Issuer),(di x.Number),(di x.Version),(db x.Withdrawn),(di x.Person),(di x.Kind),(di x.State),(di x.Span.From),(di x.Span.To),(di x.Seat),(di x.Share),(di x.Currency),(di x.Amount),(di x.Ref)]
def dR:List D→ac
  | [.lit (.int .i64 a1), .lit (.int .i64 a2), .lit (.int .i64 a3), .lit (.bool a4), .lit (.int .i64 a5), .lit (.int .i64 a6), .lit (.int .i64 a7), .lit (.int .i64 a8), .lit (.int .i64 a9), .lit (.int .i64 a10), .lit (.int .i64 a11), .lit (.int .i64 a12), .lit (.int .i64 a13), .lit (.int .i64 a14)]=>(ac.mk a1 a2 a3 a4 a5 a6 a7 (ab.mk a8 a9) a10 a11 a12 a13 a14)
  | _=>aW
theorem cE:dW aX dR:=.flat (fun _=>rfl) fun _=>rfl
theorem mt (x:ac) (d:D) (h:d∈aX x):d.scal = true:=by
  have:(aX x).all D.scal = true:=rfl
  exact List.all_eq_true.1 this d h
structure bs where
  Mode:Int
  Unit:Int
def TK:bs:=⟨(0:Int),(0:Int)⟩
structure av where
  Kind:Int
  Limit:Int
def cU:av:=⟨(0:Int),(0:Int)⟩
def cT (x:av):List D:=[(di x.Kind),(di x.Limit)]
def bw:List D→av
  | [.lit (.int .i64 a1), .lit (.int .i64 a2)]=>(av.mk a1 a2)
  | _=>cU
theorem iY:dW cT bw:=.flat (fun _=>rfl) fun _=>rfl
structure aH where
  Num:Int
  Den:Int
def gA:aH:=⟨(0:Int),(0:Int)⟩
def mO (x:aH):List D:=[(di x.Num),(di x.Den)]
def Me:List D→aH
  | [.lit (.int .i64 a1), .lit (.int .i64 a2)]=>(aH.mk a1 a2)
  | _=>gA
structure bi where
  Year:Int
  Factor:aH
def eh:bi:=⟨(0:Int),gA⟩
def fa (x:bi):List D:=[(di x.Year),(di x.Factor.Num),(di x.Factor.Den)]
def bR:List D→bi
  | [.lit (.int .i64 a1), .lit (.int .i64 a2), .lit (.int .i64 a3)]=>(bi.mk a1 (aH.mk a2 a3))
  | _=>eh
theorem kp:dW fa bR:=.flat (fun _=>rfl) fun _=>rfl
structure az where
  Op:Int
  Value:aH
  Dim:Int
  Name:ByteArray
  Args:(List az)
def aO:az:=⟨(0:Int),gA,(0:Int),(am []),([]:List az)⟩
mutual
def eGExprR:az→List D
  | ⟨x0,x1,x2,x3,x4⟩=>[(di x0),(di x1.Num),(di x1.Den),(di x2),(ds x3),(.sl 6 x4.length (aGExpr x4))]
def aGExpr:List az→Nat→List D
  | []=>fun _=>[]
  | x :: r=>fun i=>match i with | 0=>eGExprR x | j+1=>aGExpr r j
end
def ea (x:az):List D:=[(di x.Op),(di x.Value.Num),(di x.Value.Den),(di x.Dim),(ds x.Name),(.sl 6 x.Args.length (aGExpr x.Args))]
theorem Ud (x:az):eGExprR x = ea x:=by cases x; unfold eGExprR; rfl
theorem rY:∀ (l:List az) (i:Nat),i < l.length→aGExpr l i = ea (l.getD i aO)
  | [],i,h=>by simp at h
  | x :: r,0,_=>by unfold aGExpr; exact Ud x
  | x :: r,i+1,h=>by unfold aGExpr; rw [List.getD_cons_succ]; exact rY r i (by simpa using h)
theorem ae.aGExpr (l:List az):ae ea aO l.length (aGExpr l) l:=⟨rfl,fun i hi=>.of_eq (rY l i hi)⟩
theorem mw {k' k n:Nat} {el:Nat→List D} {l:List az} (hk:0 < n→k = k') (h:ae ea aO n el l):dU (.sl k n el) (.sl k' l.length (aGExpr l)):=.row h.len hk fun i hi=>by rw [rY l i (h.len ▸ hi)]; exact h.els i hi
mutual
def dGExpr:List D→az
  | [.lit (.int .i64 a1), .lit (.int .i64 a2), .lit (.int .i64 a3), .lit (.int .i64 a4), .lit (.string a5),q]=>⟨a1,(aH.mk a2 a3),a4,a5,dGExprs q⟩
  | _=>aO
def dGExprs:D→List az
  | .sl _ n el=>(List.range n).map fun i=>dGExpr (el i)
  | _=>[]
end
theorem eX:dW ea dGExpr:=by
  have key:∀ (n:Nat) (x:az),SizeOf.sizeOf x < n→∀ ds,be ds (ea x)→dGExpr ds = x:=by
    intro n
    induction n with
    | zero=>intro x h; omega
    | succ n ih =>
      intro x hx ds h
      obtain ⟨d1,ds,rfl,h1,h⟩:=h.cons_inv
      obtain ⟨d2,ds,rfl,h2,h⟩:=h.cons_inv
      obtain ⟨d3,ds,rfl,h3,h⟩:=h.cons_inv
      obtain ⟨d4,ds,rfl,h4,h⟩:=h.cons_inv
      obtain ⟨d5,ds,rfl,h5,h⟩:=h.cons_inv
      obtain ⟨d6,ds,rfl,h6,h⟩:=h.cons_inv
      obtain rfl:=h.nil_inv
      obtain rfl:=h1.lit_inv rfl
      obtain rfl:=h2.lit_inv rfl
      obtain rfl:=h3.lit_inv rfl
      obtain rfl:=h4.lit_inv rfl
      obtain rfl:=h5.lit_inv rfl
      have e:dGExprs d6 = x.Args:=by
        rcases h6.nil_or with ⟨rfl,h0⟩ | ⟨k,el,rfl,h1⟩
        · unfold dGExprs; exact (List.eq_nil_of_length_eq_zero h0).symm
        · unfold dGExprs
          refine List.ext_getElem (by simp) fun i a b=>?_
          have hs:SizeOf.sizeOf (x.Args[i]) < n:=by
            have s1:=List.sizeOf_lt_of_mem (List.getElem_mem b)
            have s2:SizeOf.sizeOf x.Args < SizeOf.sizeOf x:=by cases x; simp; omega
            omega
          have:=ih _ hs (el i) (by have:=h1 i b; rw [rY _ i b,List.getD_eq_getElem?_getD,List.getElem?_eq_getElem b] at this; exact this)
          simpa using this
      unfold dGExpr
      rw [e]
      cases x; rfl
  exact fun x ds h=>key _ x (Nat.lt_succ_self _) ds h
theorem x5 {d:D} {k:Nat} {l:List az} (h:dU d (.sl k l.length (aGExpr l))):dGExprs d = l:=by
  rcases h.nil_or with ⟨rfl,h0⟩ | ⟨k,el,rfl,h1⟩
  · unfold dGExprs; exact (List.eq_nil_of_length_eq_zero h0).symm
  · unfold dGExprs
    refine List.ext_getElem (by simp) fun i a b=>?_
    have:=eX _ (el i) (by have:=h1 i b; rw [rY _ i b,List.getD_eq_getElem?_getD,List.getElem?_eq_getElem b] at this; exact this)
    simpa using this
theorem az.eta (x:az):(az.mk x.Op (aH.mk x.Value.Num x.Value.Den) x.Dim x.Name x.Args) = x:=by cases x; rfl
structure bP where
  Name:ByteArray
  Body:az
def fN:bP:=⟨(am []),aO⟩
def bP.s_Name (x:bP) (v:ByteArray):bP:=⟨v,x.Body⟩
def bP.s_Body (x:bP) (v:az):bP:=⟨x.Name,v⟩
def jl (x:bP):List D:=[(ds x.Name),(di x.Body.Op),(di x.Body.Value.Num),(di x.Body.Value.Den),(di x.Body.Dim),(ds x.Body.Name),(.sl 6 x.Body.Args.length (aGExpr x.Body.Args))]
def cG:List D→bP
  | [.lit (.string a1), .lit (.int .i64 a2), .lit (.int .i64 a3), .lit (.int .i64 a4), .lit (.int .i64 a5), .lit (.string a6),a7]=>(bP.mk a1 (az.mk a2 (aH.mk a3 a4) a5 a6 (dGExprs a7)))
  | _=>fN
theorem qf:dW jl cG:=by
  intro x ds h
  obtain ⟨d1,ds,rfl,h1,h⟩:=h.cons_inv
  obtain ⟨d2,ds,rfl,h2,h⟩:=h.cons_inv
  obtain ⟨d3,ds,rfl,h3,h⟩:=h.cons_inv
  obtain ⟨d4,ds,rfl,h4,h⟩:=h.cons_inv
  obtain ⟨d5,ds,rfl,h5,h⟩:=h.cons_inv
  obtain ⟨d6,ds,rfl,h6,h⟩:=h.cons_inv
  obtain ⟨d7,ds,rfl,h7,h⟩:=h.cons_inv
  obtain rfl:=h.nil_inv
  obtain rfl:=h1.lit_inv rfl
  obtain rfl:=h2.lit_inv rfl
  obtain rfl:=h3.lit_inv rfl
  obtain rfl:=h4.lit_inv rfl
  obtain rfl:=h5.lit_inv rfl
  obtain rfl:=h6.lit_inv rfl
  simp only [cG,x5 h7,az.eta]
structure bF where
  Benefit:Int
  If:az
  Pay:az
def dm:bF:=⟨(0:Int),aO,aO⟩
def bF.s_Benefit (x:bF) (v:Int):bF:=⟨v,x.If,x.Pay⟩
def bF.s_Pay (x:bF) (v:az):bF:=⟨x.Benefit,x.If,v⟩
def eG (x:bF):List D:=[(di x.Benefit),(di x.If.Op),(di x.If.Value.Num),(di x.If.Value.Den),(di x.If.Dim),(ds x.If.Name),(.sl 6 x.If.Args.length (aGExpr x.If.Args)),(di x.Pay.Op),(di x.Pay.Value.Num),(di x.Pay.Value.Den),(di x.Pay.Dim),(ds x.Pay.Name),(.sl 6 x.Pay.Args.length (aGExpr x.Pay.Args))]
def bO:List D→bF
  | [.lit (.int .i64 a1), .lit (.int .i64 a2), .lit (.int .i64 a3), .lit (.int .i64 a4), .lit (.int .i64 a5), .lit (.string a6),a7, .lit (.int .i64 a8), .lit (.int .i64 a9), .lit (.int .i64 a10), .lit (.int .i64 a11), .lit (.string a12),a13]=>(bF.mk a1 (az.mk a2 (aH.mk a3 a4) a5 a6 (dGExprs a7)) (az.mk a8 (aH.mk a9 a10) a11 a12 (dGExprs a13)))
  | _=>dm
theorem kz:dW eG bO:=by
  intro x ds h
  obtain ⟨d1,ds,rfl,h1,h⟩:=h.cons_inv
  obtain ⟨d2,ds,rfl,h2,h⟩:=h.cons_inv
  obtain ⟨d3,ds,rfl,h3,h⟩:=h.cons_inv
  obtain ⟨d4,ds,rfl,h4,h⟩:=h.cons_inv
  obtain ⟨d5,ds,rfl,h5,h⟩:=h.cons_inv
  obtain ⟨d6,ds,rfl,h6,h⟩:=h.cons_inv
  obtain ⟨d7,ds,rfl,h7,h⟩:=h.cons_inv
  obtain ⟨d8,ds,rfl,h8,h⟩:=h.cons_inv
  obtain ⟨d9,ds,rfl,h9,h⟩:=h.cons_inv
  obtain ⟨d10,ds,rfl,h10,h⟩:=h.cons_inv
  obtain ⟨d11,ds,rfl,h11,h⟩:=h.cons_inv
  obtain ⟨d12,ds,rfl,h12,h⟩:=h.cons_inv
  obtain ⟨d13,ds,rfl,h13,h⟩:=h.cons_inv
  obtain rfl:=h.nil_inv
  obtain rfl:=h1.lit_inv rfl
  obtain rfl:=h2.lit_inv rfl
  obtain rfl:=h3.lit_inv rfl
  obtain rfl:=h4.lit_inv rfl
  obtain rfl:=h5.lit_inv rfl
  obtain rfl:=h6.lit_inv rfl
  obtain rfl:=h8.lit_inv rfl
  obtain rfl:=h9.lit_inv rfl
  obtain rfl:=h10.lit_inv rfl
  obtain rfl:=h11.lit_inv rfl
  obtain rfl:=h12.lit_inv rfl
  simp only [bO,x5 h7,x5 h13,az.eta]
structure cW where
  Benefit:Int
  By:az
def im:cW:=⟨(0:Int),aO⟩
def eK (x:cW):List D:=[(di x.Benefit),(di x.By.Op),(di x.By.Value.Num),(di x.By.Value.Den),(di x.By.Dim),(ds x.By.Name),(.sl 6 x.By.Args.length (aGExpr x.By.Args))]
def bG:List D→cW
  | [.lit (.int .i64 a1), .lit (.int .i64 a2), .lit (.int .i64 a3), .lit (.int .i64 a4), .lit (.int .i64 a5), .lit (.string a6),a7]=>(cW.mk a1 (az.mk a2 (aH.mk a3 a4) a5 a6 (dGExprs a7)))
  | _=>im
theorem iZ:dW eK bG:=by
  intro x ds h
  obtain ⟨d1,ds,rfl,h1,h⟩:=h.cons_inv
  obtain ⟨d2,ds,rfl,h2,h⟩:=h.cons_inv
  obtain ⟨d3,ds,rfl,h3,h⟩:=h.cons_inv
  obtain ⟨d4,ds,rfl,h4,h⟩:=h.cons_inv
  obtain ⟨d5,ds,rfl,h5,h⟩:=h.cons_inv
  obtain ⟨d6,ds,rfl,h6,h⟩:=h.cons_inv
  obtain ⟨d7,ds,rfl,h7,h⟩:=h.cons_inv
  obtain rfl:=h.nil_inv
  obtain rfl:=h1.lit_inv rfl
  obtain rfl:=h2.lit_inv rfl
  obtain rfl:=h3.lit_inv rfl
  obtain rfl:=h4.lit_inv rfl
  obtain rfl:=h5.lit_inv rfl
  obtain rfl:=h6.lit_inv rfl
  simp only [bG,x5 h7,az.eta]
structure aJ where
  From:Int
  Rounding:bs
  Credits:(List av)
  Series:(List bi)
  Lets:(List bP)
  Grants:(List bF)
  Reduces:(List cW)
def rA:aJ:=⟨(0:Int),TK,([]:List av),([]:List bi),([]:List bP),([]:List bF),([]:List cW)⟩
def rC (x:aJ):List D:=[(di x.From),(di x.Rounding.Mode),(di x.Rounding.Unit),(.sl 2 x.Credits.length (aV cT cU x.Credits)),(.sl 3 x.Series.length (aV fa eh x.Series)),(.sl 7 x.Lets.length (aV jl fN x.Lets)),(.sl 13 x.Grants.length (aV eG dm x.Grants)),(.sl 7 x.Reduces.length (aV eK im x.Reduces))]
structure ct where
  hi:Int
  lo:Int
def kh:ct:=⟨(0:Int),(0:Int)⟩
def km (x:ct):List D:=[(.lit (.int .u64 x.hi)),(.lit (.int .u64 x.lo))]
def wQ:List D→ct
  | [.lit (.int .u64 a1), .lit (.int .u64 a2)]=>(ct.mk a1 a2)
  | _=>kh
structure ax where
  Name:ByteArray
  Dim:Int
def cA:ax:=⟨(am []),(0:Int)⟩
def dQ (x:ax):List D:=[(ds x.Name),(di x.Dim)]
def cY:List D→ax
  | [.lit (.string a1), .lit (.int .i64 a2)]=>(ax.mk a1 a2)
  | _=>cA
theorem hT:dW dQ cY:=.flat (fun _=>rfl) fun _=>rfl
structure aa where
  l:(List Int)
  at_:Int
  left:Int
def af:aa:=⟨([]:List Int),(0:Int),(0:Int)⟩
def ak (x:aa):List D:=[(.sl 1 x.l.length (aV aT (0:Int) x.l)),(di x.at_),(di x.left)]
structure an where
  State:Int
  Version:aJ
def bz:an:=⟨(0:Int),rA⟩
def an.s_State (x:an) (v:Int):an:=⟨v,x.Version⟩
def eo (x:an):List D:=[(di x.State),(di x.Version.From),(di x.Version.Rounding.Mode),(di x.Version.Rounding.Unit),(.sl 2 x.Version.Credits.length (aV cT cU x.Version.Credits)),(.sl 3 x.Version.Series.length (aV fa eh x.Version.Series)),(.sl 7 x.Version.Lets.length (aV jl fN x.Version.Lets)),(.sl 13 x.Version.Grants.length (aV eG dm x.Version.Grants)),(.sl 7 x.Version.Reduces.length (aV eK im x.Version.Reduces))]
def oR:List D→an
  | [.lit (.int .i64 a1), .lit (.int .i64 a2), .lit (.int .i64 a3), .lit (.int .i64 a4),a5,a6,a7,a8,a9]=>(an.mk a1 (aJ.mk a2 (bs.mk a3 a4) (Ah bw a5) (Ah bR a6) (Ah cG a7) (Ah bO a8) (Ah bG a9)))
  | _=>bz
theorem i8:dW eo oR:=by
  intro x ds h
  obtain ⟨d1,ds,rfl,h1,h⟩:=h.cons_inv
  obtain ⟨d2,ds,rfl,h2,h⟩:=h.cons_inv
  obtain ⟨d3,ds,rfl,h3,h⟩:=h.cons_inv
  obtain ⟨d4,ds,rfl,h4,h⟩:=h.cons_inv
  obtain ⟨d5,ds,rfl,h5,h⟩:=h.cons_inv
  obtain ⟨d6,ds,rfl,h6,h⟩:=h.cons_inv
  obtain ⟨d7,ds,rfl,h7,h⟩:=h.cons_inv
  obtain ⟨d8,ds,rfl,h8,h⟩:=h.cons_inv
  obtain ⟨d9,ds,rfl,h9,h⟩:=h.cons_inv
  obtain rfl:=h.nil_inv
  obtain rfl:=h1.lit_inv rfl
  obtain rfl:=h2.lit_inv rfl
  obtain rfl:=h3.lit_inv rfl
  obtain rfl:=h4.lit_inv rfl
  simp only [oR,lR iY h5,lR kp h6,lR qf h7,lR kz h8,lR iZ h9]
structure aj where
  State:Int
  Rank:Int
  Span:ab
def cr:aj:=⟨(0:Int),(0:Int),aq⟩
def cM (x:aj):List D:=[(di x.State),(di x.Rank),(di x.Span.From),(di x.Span.To)]
def iW:List D→aj
  | [.lit (.int .i64 a1), .lit (.int .i64 a2), .lit (.int .i64 a3), .lit (.int .i64 a4)]=>(aj.mk a1 a2 (ab.mk a3 a4))
  | _=>cr
theorem ja:dW cM iW:=.flat (fun _=>rfl) fun _=>rfl
theorem sF (x:aj) (d:D) (h:d∈cM x):d.scal = true:=by
  have:(cM x).all D.scal = true:=rfl
  exact List.all_eq_true.1 this d h
structure ca where
  kind:Int
  rank:Int
def mD:ca:=⟨(0:Int),(0:Int)⟩
def fh (x:ca):List D:=[(di x.kind),(di x.rank)]
theorem P5 (x:ca) (d:D) (h:d∈fh x):d.scal = true:=by
  have:(fh x).all D.scal = true:=rfl
  exact List.all_eq_true.1 this d h
abbrev bH (l:List Int):Nat→List D:=aV aT (0:Int) l
abbrev fC (l:List Int):V:=.c (.sl 1 l.length (aV aT (0:Int) l))
abbrev jG (o t:Nat) (l:List Int):Nat × Option Ob:=(o,some (.row t 1 l.length (aV aT (0:Int) l)))
abbrev yz (l:List Int):Prop:=aK aT bm 1 1 l.length (aV aT (0:Int) l)
abbrev bC:RT Int:=⟨aT,bm,(0:Int),1,ay⟩
abbrev ZL:AC (List Int):=aL aT bm (0:Int) 1
abbrev Q1 (l:List Int):Nat→List D:=aV l6 (0:Int) l
abbrev Gt (o t:Nat) (l:List Int):Nat × Option Ob:=(o,some (.row t 1 l.length (aV l6 (0:Int) l)))
abbrev Ck:RT Int:=⟨l6,nP,(0:Int),1,nb⟩
abbrev Vc (l:List ByteArray):Nat→List D:=aV Fw (am []) l
abbrev xf (o t:Nat) (l:List ByteArray):Nat × Option Ob:=(o,some (.row t 1 l.length (aV Fw (am []) l)))
abbrev eN (l:List aQ):V:=.c (.sl 13 l.length (aV cB bq l))
abbrev G2:RT aQ:=⟨cB,dS,bq,13,io⟩
abbrev wr:AC (List aQ):=aL cB dS bq 13
def oI:List D→Bool
  | [.lit (.int .i64 _), .lit (.int .i64 _), .lit (.int .i64 _), .lit (.bool _), .lit (.int .i64 _), .lit (.int .i64 _), .lit (.int .i64 _), .lit (.int .i64 _), .lit (.int .i64 _), .lit (.int .i64 _), .lit (.int .i64 _), .lit (.int .i64 _), .lit (.int .i64 _)]=>true
  | _=>false
theorem GC (ds:List D) (h:oI ds = true):cB (dS ds) = ds:=by
  unfold oI at h
  split at h
  · rfl
  · cases h
abbrev HC:AC aQ:=aG oI cB dS GC
abbrev bB (l:List ab):Nat→List D:=aV aN aq l
abbrev dF (l:List ab):V:=.c (.sl 2 l.length (aV aN aq l))
abbrev bh (o t:Nat) (l:List ab):Nat × Option Ob:=(o,some (.row t 2 l.length (aV aN aq l)))
abbrev oQ:RT ab:=⟨aN,bD,aq,2,aY⟩
abbrev lD:AC (List ab):=aL aN bD aq 2
def QE:List D→Bool
  | [.lit (.int .i64 _), .lit (.int .i64 _)]=>true
  | _=>false
theorem aej (ds:List D) (h:QE ds = true):aN (bD ds) = ds:=by
  unfold QE at h
  split at h
  · rfl
  · cases h
abbrev zo:AC ab:=aG QE aN bD aej
abbrev bE (l:List ar):V:=.c (.sl 4 l.length (aV iC dC l))
abbrev V7 (l:List ar):Prop:=aK iC ko 4 4 l.length (aV iC dC l)
abbrev HR:RT ar:=⟨iC,ko,dC,4,hU⟩
abbrev wq:AC (List ar):=aL iC ko dC 4
abbrev eB (l:List al):V:=.c (.sl 10 l.length (aV aR ce l))
abbrev BP:RT al:=⟨aR,dM,ce,10,kR⟩
abbrev rB:AC (List al):=aL aR dM ce 10
def Ce:AC al where
  dec
    | .agg [(.c (.lit (.int .i64 a1))),(.c (.lit (.int .i64 a2))),(.c (.lit (.int .i64 a3))),(.c (.sl k4 n4 e4)),(.c (.sl k5 n5 e5)),(.c (.sl k6 n6 e6)),(.c (.sl k7 n7 e7)),(.c (.sl k8 n8 e8)),(.c (.sl k9 n9 e9)),(.c (.lit (.int .i64 a10)))]=>some ([aK aT bm 1 k4 n4 e4,aK aT bm 1 k5 n5 e5,aK kH gZ 1 k6 n6 e6,aK kH gZ 1 k7 n7 e7,aK kH gZ 1 k8 n8 e8,aK kH gZ 1 k9 n9 e9],(al.mk a1 a2 a3 (lst bm n4 e4) (lst bm n5 e5) (lst gZ n6 e6) (lst gZ n7 e7) (lst gZ n8 e8) (lst gZ n9 e9) a10))
    | _=>none
  can x:=.ag (aR x)
  ok v p x h hp:=by
    split at h
    · cases h
      obtain ⟨g0,hp⟩:=co hp
      obtain ⟨g1,hp⟩:=co hp
      obtain ⟨g2,hp⟩:=co hp
      obtain ⟨g3,hp⟩:=co hp
      obtain ⟨g4,hp⟩:=co hp
      obtain ⟨g5,hp⟩:=co hp
      exact VLe.agg (VLes.cons .r (VLes.cons .r (VLes.cons .r (VLes.cons (VLe.slk g0.1 (ae.of_ok g0)) (VLes.cons (VLe.slk g1.1 (ae.of_ok g1)) (VLes.cons (VLe.slk g2.1 (ae.of_ok g2)) (VLes.cons (VLe.slk g3.1 (ae.of_ok g3)) (VLes.cons (VLe.slk g4.1 (ae.of_ok g4)) (VLes.cons (VLe.slk g5.1 (ae.of_ok g5)) (VLes.cons .r VLes.nil))))))))))
    · cases h
abbrev fH (l:List ac):Nat→List D:=aV aX aW l
abbrev aU (l:List ac):V:=.c (.sl 14 l.length (aV aX aW l))
abbrev bZ (o t:Nat) (l:List ac):Nat × Option Ob:=(o,some (.row t 14 l.length (aV aX aW l)))
abbrev QK (l:List ac):Prop:=aK aX dR 14 14 l.length (aV aX aW l)
abbrev gX:RT ac:=⟨aX,dR,aW,14,cE⟩
abbrev gn:AC (List ac):=aL aX dR aW 14
def Qq:List D→Bool
  | [.lit (.int .i64 _), .lit (.int .i64 _), .lit (.int .i64 _), .lit (.bool _), .lit (.int .i64 _), .lit (.int .i64 _), .lit (.int .i64 _), .lit (.int .i64 _), .lit (.int .i64 _), .lit (.int .i64 _), .lit (.int .i64 _), .lit (.int .i64 _), .lit (.int .i64 _), .lit (.int .i64 _)]=>true
  | _=>false
theorem adB (ds:List D) (h:Qq ds = true):aX (dR ds) = ds:=by
  unfold Qq at h
  split at h
  · rfl
  · cases h
abbrev wz:AC ac:=aG Qq aX dR adB
abbrev gq (l:List av):Nat→List D:=aV cT cU l
abbrev oz (l:List av):V:=.c (.sl 2 l.length (aV cT cU l))
abbrev cq (o t:Nat) (l:List av):Nat × Option Ob:=(o,some (.row t 2 l.length (aV cT cU l)))
abbrev JW (l:List av):Prop:=aK cT bw 2 2 l.length (aV cT cU l)
abbrev zx:RT av:=⟨cT,bw,cU,2,iY⟩
def Eg:List D→Bool
  | [.lit (.int .i64 _), .lit (.int .i64 _)]=>true
  | _=>false
theorem Sc (ds:List D) (h:Eg ds = true):mO (Me ds) = ds:=by
  unfold Eg at h
  split at h
  · rfl
  · cases h
abbrev E3:AC aH:=aG Eg mO Me Sc
abbrev jv (l:List bi):Nat→List D:=aV fa eh l
abbrev Nz (l:List bi):V:=.c (.sl 3 l.length (aV fa eh l))
abbrev cX (o t:Nat) (l:List bi):Nat × Option Ob:=(o,some (.row t 3 l.length (aV fa eh l)))
abbrev MS (l:List bi):Prop:=aK fa bR 3 3 l.length (aV fa eh l)
abbrev It:RT bi:=⟨fa,bR,eh,3,kp⟩
abbrev dZ (l:List az):Nat→List D:=aV ea aO l
abbrev bp (l:List az):V:=.c (.sl 6 l.length (aV ea aO l))
abbrev K4 (o t:Nat) (l:List az):Nat × Option Ob:=(o,some (.row t 6 l.length (aV ea aO l)))
abbrev WJ (l:List az):Prop:=aK ea dGExpr 6 6 l.length (aV ea aO l)
abbrev Wj:RT az:=⟨ea,dGExpr,aO,6,eX⟩
abbrev mE (l:List bP):Nat→List D:=aV jl fN l
abbrev Ty (l:List bP):V:=.c (.sl 7 l.length (aV jl fN l))
abbrev gy (o t:Nat) (l:List bP):Nat × Option Ob:=(o,some (.row t 7 l.length (aV jl fN l)))
abbrev Tg (l:List bP):Prop:=aK jl cG 7 7 l.length (aV jl fN l)
abbrev Ps:RT bP:=⟨jl,cG,fN,7,qf⟩
abbrev ik (l:List bF):Nat→List D:=aV eG dm l
abbrev MC (l:List bF):V:=.c (.sl 13 l.length (aV eG dm l))
abbrev fy (o t:Nat) (l:List bF):Nat × Option Ob:=(o,some (.row t 13 l.length (aV eG dm l)))
abbrev Ni (l:List bF):Prop:=aK eG bO 13 13 l.length (aV eG dm l)
abbrev Ig:RT bF:=⟨eG,bO,dm,13,kz⟩
abbrev iT (l:List cW):Nat→List D:=aV eK im l
abbrev Ka (l:List cW):V:=.c (.sl 7 l.length (aV eK im l))
abbrev fO (o t:Nat) (l:List cW):Nat × Option Ob:=(o,some (.row t 7 l.length (aV eK im l)))
abbrev JS (l:List cW):Prop:=aK eK bG 7 7 l.length (aV eK im l)
abbrev EX:RT cW:=⟨eK,bG,im,7,iZ⟩
def N6:AC aJ where
  dec
    | .agg [(.c (.lit (.int .i64 a1))),(.c (.lit (.int .i64 a2))),(.c (.lit (.int .i64 a3))),(.c (.sl k4 n4 e4)),(.c (.sl k5 n5 e5)),(.c (.sl k6 n6 e6)),(.c (.sl k7 n7 e7)),(.c (.sl k8 n8 e8))]=>some ([aK cT bw 2 k4 n4 e4,aK fa bR 3 k5 n5 e5,aK jl cG 7 k6 n6 e6,aK eG bO 13 k7 n7 e7,aK eK bG 7 k8 n8 e8],(aJ.mk a1 (bs.mk a2 a3) (lst bw n4 e4) (lst bR n5 e5) (lst cG n6 e6) (lst bO n7 e7) (lst bG n8 e8)))
    | _=>none
  can x:=.ag (rC x)
  ok v p x h hp:=by
    split at h
    · cases h
      obtain ⟨g0,hp⟩:=co hp
      obtain ⟨g1,hp⟩:=co hp
      obtain ⟨g2,hp⟩:=co hp
      obtain ⟨g3,hp⟩:=co hp
      obtain ⟨g4,hp⟩:=co hp
      exact VLe.agg (VLes.cons .r (VLes.cons .r (VLes.cons .r (VLes.cons (VLe.slk g0.1 (ae.of_ok g0)) (VLes.cons (VLe.slk g1.1 (ae.of_ok g1)) (VLes.cons (VLe.slk g2.1 (ae.of_ok g2)) (VLes.cons (VLe.slk g3.1 (ae.of_ok g3)) (VLes.cons (VLe.slk g4.1 (ae.of_ok g4)) VLes.nil))))))))
    · cases h
def oE:List D→Bool
  | [.lit (.int .u64 _), .lit (.int .u64 _)]=>true
  | _=>false
theorem GE (ds:List D) (h:oE ds = true):km (wQ ds) = ds:=by
  unfold oE at h
  split at h
  · rfl
  · cases h
abbrev wS:AC ct:=aG oE km wQ GE
abbrev Wm (l:List ax):Nat→List D:=aV dQ cA l
abbrev aF (o t:Nat) (l:List ax):Nat × Option Ob:=(o,some (.row t 2 l.length (aV dQ cA l)))
abbrev AR (l:List ax):Prop:=aK dQ cY 2 2 l.length (aV dQ cA l)
abbrev bj:RT ax:=⟨dQ,cY,cA,2,hT⟩
abbrev yY (l:List an):Nat→List D:=aV eo bz l
abbrev cc (l:List an):V:=.c (.sl 9 l.length (aV eo bz l))
abbrev ES (o t:Nat) (l:List an):Nat × Option Ob:=(o,some (.row t 9 l.length (aV eo bz l)))
abbrev QQ:AC (List an):=aL eo oR bz 9
abbrev EL (l:List aj):Nat→List D:=aV cM cr l
abbrev iQ (l:List aj):V:=.c (.sl 4 l.length (aV cM cr l))
abbrev cw (o t:Nat) (l:List aj):Nat × Option Ob:=(o,some (.row t 4 l.length (aV cM cr l)))
abbrev Qk (l:List aj):Prop:=aK cM iW 4 4 l.length (aV cM cr l)
abbrev Fa:RT aj:=⟨cM,iW,cr,4,ja⟩
abbrev QV:AC (List aj):=aL cM iW cr 4
abbrev Ft (o t:Nat) (l:List ca):Nat × Option Ob:=(o,some (.row t 2 l.length (aV fh mD l)))
abbrev Ml:RT (List Int):=⟨kH,gZ,([]:List Int),1,mU⟩
def EQ (x:(List ab)):List D:=[(.sl 2 x.length (aV aN aq x))]
def Fm:List D→(List ab)
  | [d]=>Ah bD d
  | _=>[]
theorem xx:dW EQ Fm:=by
  intro x ds h
  obtain ⟨d,ds,rfl,h1,h⟩:=h.cons_inv
  obtain rfl:=h.nil_inv
  exact lR aY h1
abbrev ml (l:List (List ab)):V:=.c (.sl 1 l.length (aV EQ ([]:List ab) l))
abbrev Zs:AC (List (List ab)):=aL EQ Fm ([]:List ab) 1
noncomputable def apK:List Code:=aA (ao Tryz.f11)
def O1 (x_1:Int):bN:=.data (i64 x_1)
def aqq (x_1:Int):St:=⟨[sv 4 (i64 x_1)],[],0⟩
def alP (n k:Int):St:=⟨[sv 0 (i64 n),sv 1 (i64 k)],[],0⟩
def sg (n k:Int):PT _ (rE aqq) iK:=.bf (decide (k < 1)) (.lf (some 0) .ret _<|hh fun _=>l0) (.g1 (k≠0)<|.g1 (k≠0)<|.lf (some (Int.tmod (ai ((Int.tmod n k)+k)) k)) .ret _<|hh fun _=>l0)
theorem air {n k}:Ax tP 14 apK 0 iK (sg n k) (alP n k):=.tE mixed [] [4] 5
def fU (n k:Int):Option (Int):=(sg n k).opt
def JC:bW:=fj (aI .i64) (aI .i64) fU (0:Int) O1
theorem P8:bg tP 11 JC:=dv Tryz.f11 (ao Tryz.f11) [.tmp 4] 14 fun u0 u1 y h=>@air u0 u1 _ (bn.2 ⟨y,h,(cx (i64 y) (VLe.rfl' _))⟩)
abbrev eH:FE tP:=⟨11, .pure JC,P8⟩
noncomputable def aoZ:List Code:=aA (ao Tryz.f47)
def OL (x_1:Int):bN:=.data (i64 x_1)
def aqR (x_1:Int):St:=⟨[sv 4 (i64 x_1)],[],0⟩
def amZ (n m:Int):St:=⟨[sv 0 (i64 n),sv 1 (i64 m)],[],0⟩
def ss (n m:Int):PT _ (rE aqR) iK:=.g1 (m≠0)<|.bf (decide ((Int.tmod n m) < 0)) (.lf (some (ai ((Int.tmod n m)+m))) .ret _<|hh fun _=>l0) (.lf (some (Int.tmod n m)) .ret _<|hh fun _=>l0)
theorem abP {n m}:Ax tP 15 aoZ 0 iK (ss n m) (amZ n m):=.tE mixed [] [4] 6
def bK (n m:Int):Option (Int):=(ss n m).opt
def Ji:bW:=fj (aI .i64) (aI .i64) bK (0:Int) OL
theorem PO:bg tP 47 Ji:=dv Tryz.f47 (ao Tryz.f47) [.tmp 4] 15 fun u0 u1 y h=>@abP u0 u1 _ (bn.2 ⟨y,h,(cx (i64 y) (VLe.rfl' _))⟩)
abbrev S1:FE tP:=⟨47, .pure Ji,PO⟩
noncomputable def aoP:List Code:=aA (ao Tryz.f48)
def L9 (x_1:Int):bN:=.data (i64 x_1)
def aqg (x_1:Int):St:=⟨[sv 2 (i64 x_1)],[],0⟩
def ak0 (n:Int):St:=⟨[sv 0 (i64 n)],[],0⟩
def px (n:Int):PT _ (rE aqg) iK:=.bd (bK n 4) 0 fun r_6=>.bf (r_6 == 0) (.tv ((4:Int)≠0) (by decide)<|.bd (bK (ai (Int.tdiv n 4)) 9000) 0 fun r_7=>.lf (some (ai (1+r_7))) .ret _<|hh fun _=>l0) (.bf (r_6 == 1) (.tv ((4:Int)≠0) (by decide)<|.bd (bK (ai (Int.tdiv n 4)) 1200) 0 fun r_8=>.lf (some (ai (1+r_8))) .ret _<|hh fun _=>l0) (.bf (r_6 == 2) (.tv ((4:Int)≠0) (by decide)<|.bd (bK (ai (Int.tdiv n 4)) 120) 0 fun r_9=>.lf (some (ai (1+r_9))) .ret _<|hh fun _=>l0) (.tv ((4:Int)≠0) (by decide)<|.bd (bK (ai (Int.tdiv n 4)) 12) 0 fun r_10=>.lf (some (ai (1+r_10))) .ret _<|hh fun _=>l0)))
theorem aho {n}:Ax tP 27 aoP 0 iK (px n) (ak0 n):=.tE mixed [S1] [2] 5
def vn (n:Int):Option (Int):=(px n).opt
def Gj:bW:=dH (aI .i64) vn (0:Int) L9
theorem ND:bg tP 48 Gj:=cJ Tryz.f48 (ao Tryz.f48) [.tmp 2] 27 fun u0 y h=>@aho u0 _ (bn.2 ⟨y,h,(cx (i64 y) (VLe.rfl' _))⟩)
abbrev e48:FE tP:=⟨48, .pure Gj,ND⟩
noncomputable def ao2:List Code:=aA (ao Tryz.f49)
def MV (x_1:ByteArray):bN:=.data (bc x_1)
def aqL (x_1:ByteArray):St:=⟨[sv 2 (bc x_1)],[],0⟩
def anK (kind:Int):St:=⟨[sv 0 (i64 kind)],[],0⟩
def qH (kind:Int):PT _ (rE aqL) iK:=.bf (bif (decide (kind < 1)) then true else (decide (15≤kind))) (.lf (some (am [])) .ret _<|hh fun _=>l0) (.g2 (0≤kind) (kind < ((15:Nat):Int))<|.lf (some (([(am []),(am [83,80,84,72,67,65]),(am [83,80,72,67,65]),(am [83,80,72,67,65]),(am [83,80,84]),(am [83,80]),(am [83,80,67,65]),(am [83,80]),(am [83,80]),(am [83,80]),(am [83,80,82]),(am [80]),(am [80]),(am [80]),(am [80,82])]:List ByteArray).getD (0+(Int.toNat kind)) (am []))) .ret _<|hh fun _=>l0)
theorem ail {kind}:Ax tP 17 ao2 0 iK (qH kind) (anK kind):=.tE mixed [] [2] 6
def mr (kind:Int):Option (ByteArray):=(qH kind).opt
def GO:bW:=dH (aI .i64) mr (am []) MV
theorem OZ:bg tP 49 GO:=cJ Tryz.f49 (ao Tryz.f49) [.tmp 2] 17 fun u0 y h=>@ail u0 _ (bn.2 ⟨y,h,(cx (bc y) (VLe.rfl' _))⟩)
abbrev KJ:FE tP:=⟨49, .pure GO,OZ⟩
noncomputable def qx:List Code:=aA (ao Tryz.f21)
noncomputable def IL:List Code:=aA (ah (ah (aP qx 9)))
def OO (x_1:ac):bN:=.data (.agg [(i64 x_1.Issuer),(i64 x_1.Number),(i64 x_1.Version),(bl x_1.Withdrawn),(i64 x_1.Person),(i64 x_1.Kind),(i64 x_1.State),(i64 x_1.Span.From),(i64 x_1.Span.To),(i64 x_1.Seat),(i64 x_1.Share),(i64 x_1.Currency),(i64 x_1.Amount),(i64 x_1.Ref)])
def PZ (x_1:ac):St:=⟨[sv 2 (.ptr 0 14 0 0)],[(0,some (.box [(i64 x_1.Issuer),(i64 x_1.Number),(i64 x_1.Version),(bl x_1.Withdrawn),(i64 x_1.Person),(i64 x_1.Kind),(i64 x_1.State),(i64 x_1.Span.From),(i64 x_1.Span.To),(i64 x_1.Seat),(i64 x_1.Share),(i64 x_1.Currency),(i64 x_1.Amount),(i64 x_1.Ref)]))],1⟩
def wJ (from_1 to_1:Int) (u:ByteArray) (r_1:aQ) (f:ac) (s:(Int × ac)):St:=match s with | (i_1,f_2)=>⟨[sv 1 (.ptr 0 13 0 0),sv 2 (.ptr 1 14 0 0),sv 3 (.ptr 2 14 0 0),sv 4 (i64 from_1),sv 5 (i64 to_1),sv 6 (bc u),sv 7 (i64 i_1)],[(0,some (.bx (cB r_1))),(1,some (.bx (aX (ac.mk 0 0 0 false 0 0 0 (ab.mk 0 0) 0 0 0 0 0)))),(2,some (.bx (aX f_2)))],3⟩
def afk (from_1 to_1:Int) (u:ByteArray) (r_1:aQ) (f:ac) (s:ac):St:=match s with | f_4=>⟨[sv 2 (.ptr 0 14 0 0),sv 3 (.ptr 1 14 0 0)],[(0,some (.bx (aX (ac.mk 0 0 0 false 0 0 0 (ab.mk 0 0) 0 0 0 0 0)))),(1,some (.bx (aX f_4)))],2⟩
def wa (from_1 to_1:Int) (u:ByteArray) (r_1:aQ) (f:ac) (r:((ac))) (K:KT):Prop:=match r with | s=>K (.exit 1) (afk from_1 to_1 u r_1 f s)
def anZ (from_1 to_1:Int) (u:ByteArray) (i_3:Int) (r_1:aQ) (f_1:ac):St:=⟨[sv 1 (.ptr 0 13 0 0),sv 2 (.ptr 1 14 0 0),sv 3 (.ptr 2 14 0 0),sv 4 (i64 from_1),sv 5 (i64 to_1),sv 6 (bc u),sv 7 (i64 i_3)],[(0,some (.bx (cB r_1))),(1,some (.bx (aX (ac.mk 0 0 0 false 0 0 0 (ab.mk 0 0) 0 0 0 0 0)))),(2,some (.bx (aX f_1)))],3⟩
def eP (from_1 to_1:Int) (u:ByteArray) (i_3:Int) (r_1:aQ) (f_1:ac):PT _ (nE (wJ from_1 to_1 u r_1 aW) (wa from_1 to_1 u r_1 aW)) iK:=.lf (some (Sum.inl ((ai (i_3+1)),f_1))) .normal _<|hh fun _=>l0
theorem pz {from_1 to_1 u i_3 r_1 f_1}:Ax tP 156 IL 3 iK (eP from_1 to_1 u i_3 r_1 f_1) (anZ from_1 to_1 u i_3 r_1 f_1):=.tE mixed [] [1,2,3,4,5,6,7,120,121,122,123,124] 1
def an3 (from_1 to_1:Int) (u:ByteArray) (i_2:Int) (r_1:aQ) (f_3:ac):St:=⟨[sv 1 (.ptr 0 13 0 0),sv 2 (.ptr 1 14 0 0),sv 3 (.ptr 2 14 0 0),sv 4 (i64 from_1),sv 5 (i64 to_1),sv 6 (bc u),sv 7 (i64 i_2)],[(0,some (.bx (cB r_1))),(1,some (.bx (aX (ac.mk 0 0 0 false 0 0 0 (ab.mk 0 0) 0 0 0 0 0)))),(2,some (.bx (aX f_3)))],3⟩
def su (from_1 to_1:Int) (u:ByteArray) (i_2:Int) (r_1:aQ) (f_3:ac):PT _ (nE (wJ from_1 to_1 u r_1 aW) (wa from_1 to_1 u r_1 aW)) (dK tP 156 IL 3 iK):=.g2 (0≤i_2) (i_2 < (u.size:Int))<|.bf (((u.data.getD (Int.toNat i_2) 0).toNat:Int) == 83) (.bd (bK r_1.State 3) 0 fun r_19=>.lf ((eP from_1 to_1 u i_2 r_1 (ac.mk f_3.Issuer f_3.Number f_3.Version f_3.Withdrawn f_3.Person f_3.Kind r_19 f_3.Span f_3.Seat f_3.Share f_3.Currency f_3.Amount f_3.Ref)).opt) .normal _<|hh fun _ h=>l0 (pz h)) (.bf (((u.data.getD (Int.toNat i_2) 0).toNat:Int) == 80) (.lf ((eP from_1 to_1 u i_2 r_1 (ac.mk f_3.Issuer f_3.Number f_3.Version f_3.Withdrawn f_3.Person f_3.Kind f_3.State (ab.mk from_1 to_1) f_3.Seat f_3.Share f_3.Currency f_3.Amount f_3.Ref)).opt) .normal _<|hh fun _ h=>l0 (pz h)) (.bf (((u.data.getD (Int.toNat i_2) 0).toNat:Int) == 84) (.bd (bK r_1.Seat 3) 0 fun r_20=>.bf (bif (f_3.Kind == 4) then (r_20 == f_3.State) else false) (.bd (bK (ai (f_3.State+1)) 3) 0 fun r_21=>.lf ((eP from_1 to_1 u i_2 r_1 (ac.mk f_3.Issuer f_3.Number f_3.Version f_3.Withdrawn f_3.Person f_3.Kind f_3.State f_3.Span r_21 f_3.Share f_3.Currency f_3.Amount f_3.Ref)).opt) .normal _<|hh fun _ h=>lz (pz h) [1,2,3,4,5,6,7] [120,121,122,123,124] []) (.lf ((eP from_1 to_1 u i_2 r_1 (ac.mk f_3.Issuer f_3.Number f_3.Version f_3.Withdrawn f_3.Person f_3.Kind f_3.State f_3.Span r_20 f_3.Share f_3.Currency f_3.Amount f_3.Ref)).opt) .normal _<|hh fun _ h=>lz (pz h) [1,2,3,4,5,6,7] [120,121,122,123,124] [])) (.bf (((u.data.getD (Int.toNat i_2) 0).toNat:Int) == 72) (.bd (bK r_1.Share 100) 0 fun r_22=>.lf ((eP from_1 to_1 u i_2 r_1 (ac.mk f_3.Issuer f_3.Number f_3.Version f_3.Withdrawn f_3.Person f_3.Kind f_3.State f_3.Span f_3.Seat (ai (1+r_22)) f_3.Currency f_3.Amount f_3.Ref)).opt) .normal _<|hh fun _ h=>l0 (pz h)) (.bf (((u.data.getD (Int.toNat i_2) 0).toNat:Int) == 67) (.tv ((3:Int)≠0) (by decide)<|.bd (bK (ai (r_1.Seat+(Int.tmod r_1.State 3))) 3) 0 fun r_23=>.lf ((eP from_1 to_1 u i_2 r_1 (ac.mk f_3.Issuer f_3.Number f_3.Version f_3.Withdrawn f_3.Person f_3.Kind f_3.State f_3.Span f_3.Seat f_3.Share (ai (1+r_23)) f_3.Amount f_3.Ref)).opt) .normal _<|hh fun _ h=>l0 (pz h)) (.bf (((u.data.getD (Int.toNat i_2) 0).toNat:Int) == 65) (.bd (bK r_1.Amount 3000000) 0 fun r_24=>.lf ((eP from_1 to_1 u i_2 r_1 (ac.mk f_3.Issuer f_3.Number f_3.Version f_3.Withdrawn f_3.Person f_3.Kind f_3.State f_3.Span f_3.Seat f_3.Share f_3.Currency r_24 f_3.Ref)).opt) .normal _<|hh fun _ h=>l0 (pz h)) (.bd (bK r_1.Ref 4) 0 fun r_25=>.bf ((ai (1+r_25)) == f_3.Person) (.bd (bK f_3.Person 4) 0 fun r_26=>.lf ((eP from_1 to_1 u i_2 r_1 (ac.mk f_3.Issuer f_3.Number f_3.Version f_3.Withdrawn f_3.Person f_3.Kind f_3.State f_3.Span f_3.Seat f_3.Share f_3.Currency f_3.Amount (ai (1+r_26)))).opt) .normal _<|hh fun _ h=>l0 (pz h)) (.lf ((eP from_1 to_1 u i_2 r_1 (ac.mk f_3.Issuer f_3.Number f_3.Version f_3.Withdrawn f_3.Person f_3.Kind f_3.State f_3.Span f_3.Seat f_3.Share f_3.Currency f_3.Amount (ai (1+r_25)))).opt) .normal _<|hh fun _ h=>l0 (pz h))))))))
theorem acG {from_1 to_1 u i_2 r_1 f_3}:Ax tP 156 IL 2 iK (su from_1 to_1 u i_2 r_1 f_3) (an3 from_1 to_1 u i_2 r_1 f_3):=.tD mixed [S1] [1,2,3,4,5,6,7,120,121,122,123,124] 1
def al6 (from_1 to_1:Int) (u:ByteArray) (i_1:Int) (r_1:aQ) (f_2:ac):St:=wJ from_1 to_1 u r_1 aW (i_1,f_2)
def sY (from_1 to_1:Int) (u:ByteArray) (i_1:Int) (r_1:aQ) (f_2:ac):PT _ (nE (wJ from_1 to_1 u r_1 aW) (wa from_1 to_1 u r_1 aW)) (dK tP 156 IL 2 iK):=.bf (decide (i_1 < (u.size:Int))) (.lf ((su from_1 to_1 u i_1 r_1 f_2).opt) .normal _<|hh fun _ h=>l0 (acG h)) (.lf (some (Sum.inr f_2)) (.exit 1) (wJ from_1 to_1 u r_1 aW (i_1,f_2))<|hh fun _=>lg (.cn [2,3]))
theorem acw {from_1 to_1 u i_1 r_1 f_2}:Ax tP 156 IL 0 iK (sY from_1 to_1 u i_1 r_1 f_2) (al6 from_1 to_1 u i_1 r_1 f_2):=.tD mixed [] [1,2,3,4,5,6,7,120,121,122,123,124] 2
def ze (from_1 to_1:Int) (u:ByteArray) (r_1:aQ) (f:ac) (s:(Int × ac)):Option ((Int × ac) ⊕ ((ac))):=match s with | (i_1,f_2)=>(sY from_1 to_1 u i_1 r_1 f_2).opt
theorem acs (from_1 to_1 u r_1 f s):Pp tP 156 (List.drop 0 IL) (wJ from_1 to_1 u r_1 f s) (ze from_1 to_1 u r_1 f s) (cd (wJ from_1 to_1 u r_1 f) (wa from_1 to_1 u r_1 f)):=fun K h=>match s,h with | (i_1,f_2),h=>(acw h)
theorem Us (from_1 to_1 u r_1 f):∀ r J K,wa from_1 to_1 u r_1 f r K→wa from_1 to_1 u r_1 f r (aE J K)
  | s,_,_,h=>h
def XG (f_5:ac):St:=⟨[sv 2 (.ptr 0 14 0 0),sv 3 (.ptr 1 14 0 0)],[(0,some (.bx (aX (ac.mk 0 0 0 false 0 0 0 (ab.mk 0 0) 0 0 0 0 0)))),(1,some (.bx (aX f_5)))],2⟩
def sy (f_5:ac):PT _ (rE PZ) iK:=.lf (some f_5) .ret _<|hh fun _=>l0
theorem acZ {f_5}:Ax tP 156 qx 10 iK (sy f_5) (XG f_5):=.tE mixed [] [2] 2
def ajm (from_1 to_1:Int) (u:ByteArray) (r_1:aQ) (f:ac):St:=⟨[sv 1 (.ptr 0 13 0 0),sv 2 (.ptr 1 14 0 0),sv 3 (.ptr 2 14 0 0),sv 4 (i64 from_1),sv 5 (i64 to_1),sv 6 (bc u),sv 7 (i64 0)],[(0,some (.bx (cB r_1))),(1,some (.bx (aX (ac.mk 0 0 0 false 0 0 0 (ab.mk 0 0) 0 0 0 0 0)))),(2,some (.bx (aX f)))],3⟩
abbrev Cq (from_1 to_1:Int) (u:ByteArray) (r_1:aQ) (f:ac) (r:((ac))):Option (ac):=match r with | f_4=>((sy f_4).opt)
def HZ (from_1 to_1:Int) (u:ByteArray) (r_1:aQ) (f:ac):Option (ac):=(fixL (ze from_1 to_1 u r_1 f) (0,f)).bind (Cq from_1 to_1 u r_1 f)
theorem adg:List.drop 9 qx = .block 1 (.loop (ah (ah (aP qx 9)))) :: List.drop 10 qx:=by kernel_rfl
theorem aks (from_1 to_1 u r_1 f K):∀ r,W (Cq from_1 to_1 u r_1 f r) (rE PZ K)→wa from_1 to_1 u r_1 f r (wK (aZ 1 (aE (au tP 156 (List.drop 10 qx) K) K)))
  | f_4,h=>⟨(XG f_4),(.refl _),(acZ h)⟩
theorem aiu {from_1 to_1 u r_1 f K} (h:W (HZ from_1 to_1 u r_1 f) (rE PZ K)):au tP 156 (List.drop 9 qx) K (ajm from_1 to_1 u r_1 f) :=
  au.at_ adg (au.cons_loop (aC.weak (aC.ent (.refl _) (aC.loopF (x:=ah (ah (aP qx 9))) (f:=ze from_1 to_1 u r_1 f) (emb:=wJ from_1 to_1 u r_1 f) (E:=wa from_1 to_1 u r_1 f) (acs from_1 to_1 u r_1 f) (Us from_1 to_1 u r_1 f) (bM h (aks from_1 to_1 u r_1 f K))))))
def an4 (from_1 to_1:Int) (r_1:aQ) (f:ac):St:=⟨[sv 1 (.ptr 0 13 0 0),sv 2 (.ptr 1 14 0 0),sv 3 (.ptr 2 14 0 0),sv 4 (i64 from_1),sv 5 (i64 to_1)],[(0,some (.bx (cB r_1))),(1,some (.bx (aX (ac.mk 0 0 0 false 0 0 0 (ab.mk 0 0) 0 0 0 0 0)))),(2,some (.bx (aX f)))],3⟩
def jF (from_1 to_1:Int) (r_1:aQ) (f:ac):PT _ (rE PZ) (dK tP 156 qx 9 iK):=.bd (mr f.Kind) (am []) fun r_27=>.lf (HZ from_1 to_1 r_27 r_1 f) .normal _<|hh fun _ h=>l0 (aiu h)
theorem IE {from_1 to_1 r_1 f}:Ax tP 156 qx 7 iK (jF from_1 to_1 r_1 f) (an4 from_1 to_1 r_1 f):=.tD mixed [KJ] [1,2,3,4,5,6,7,120,121,122,123,124] 2
def akA (r_1:aQ):St:=⟨[sv 0 (.ag (cB r_1))],[],0⟩
def sS (r_1:aQ):PT _ (rE PZ) (dK tP 156 qx 7 iK):=.bd (bK r_1.Issuer 3) 0 fun r_31=>.bd (bK r_1.Number 20) 0 fun r_32=>.bd (bK r_1.Version 3) 0 fun r_33=>.bd (bK r_1.Person 4) 0 fun r_34=>.bd (bK r_1.Kind 14) 0 fun r_35=>.bd (bK r_1.From 16000) 0 fun r_36=>.bd (vn r_1.Length) 0 fun r_37=>.bf ((ai (1+r_35)) == 11) (.bd (bK r_1.From 5000) 0 fun r_38=>.lf ((jF (ai (12000+r_38)) (ai ((ai (12000+r_38))+1)) r_1 (ac.mk r_31 (ai (1+r_32)) (ai (1+r_33)) r_1.Withdrawn (ai (1+r_34)) (ai (1+r_35)) 0 (ab.mk 0 0) 0 0 0 0 0)).opt) .normal _<|hh fun _ h=>l0 (IE h)) (.bf ((ai (1+r_35)) == 12) (.bd (bK r_1.From 6000) 0 fun r_39=>.lf ((jF (ai (34000+r_39)) (ai ((ai (34000+r_39))+1)) r_1 (ac.mk r_31 (ai (1+r_32)) (ai (1+r_33)) r_1.Withdrawn (ai (1+r_34)) (ai (1+r_35)) 0 (ab.mk 0 0) 0 0 0 0 0)).opt) .normal _<|hh fun _ h=>l0 (IE h)) (.bf ((ai (1+r_35)) == 8) (.bd (bK r_1.From 4000) 0 fun r_40=>.bd (bK r_1.Length 700) 0 fun r_41=>.lf ((jF (ai (34000+r_40)) (ai ((ai ((ai (34000+r_40))+1))+r_41)) r_1 (ac.mk r_31 (ai (1+r_32)) (ai (1+r_33)) r_1.Withdrawn (ai (1+r_34)) (ai (1+r_35)) 0 (ab.mk 0 0) 0 0 0 0 0)).opt) .normal _<|hh fun _ h=>l0 (IE h)) (.lf ((jF (ai (21900+r_36)) (ai ((ai (21900+r_36))+r_37)) r_1 (ac.mk r_31 (ai (1+r_32)) (ai (1+r_33)) r_1.Withdrawn (ai (1+r_34)) (ai (1+r_35)) 0 (ab.mk 0 0) 0 0 0 0 0)).opt) .normal _<|hh fun _ h=>l0 (IE h))))
theorem aez {r_1}:Ax tP 156 qx 0 iK (sS r_1) (akA r_1):=.tD mixed [S1,e48] [1,2,3,4,5,120,121,122,123,124] 7
def AU (r_1:aQ):Option (ac):=(sS r_1).opt
def I3:bW:=dH HC AU aW OO
theorem QR:bg tP 21 I3:=cJ Tryz.f21 (ao Tryz.f21) [.cell 2 70] 156 fun u0 y h=>@aez u0 _ (bn.2 ⟨y,h,(cx (.agg [(i64 y.Issuer),(i64 y.Number),(i64 y.Version),(bl y.Withdrawn),(i64 y.Person),(i64 y.Kind),(i64 y.State),(i64 y.Span.From),(i64 y.Span.To),(i64 y.Seat),(i64 y.Share),(i64 y.Currency),(i64 y.Amount),(i64 y.Ref)]) (VLe.rfl' _))⟩)
abbrev e21:FE tP:=⟨21, .pure I3,QR⟩
noncomputable def aoQ:List Code:=aA (ao Tryz.f50)
def OK (x_1:Int):bN:=.data (i64 x_1)
def aq4 (x_1:Int):St:=⟨[sv 4 (i64 x_1)],[],0⟩
def al7 (n:(List Int)) (i_1:Int):St:=⟨[sv 0 (fC n),sv 1 (i64 i_1)],[],0⟩
def GU (n:(List Int)) (i_1:Int):PT _ (rE aq4) iK:=.bf ((n.length:Int) == 0) (.lf (some 0) .ret _<|hh fun _=>l0) (.bd (bK i_1 (n.length:Int)) 0 fun r_2=>.g2 (0≤r_2) (r_2 < (n.length:Int))<|.lf (some (n.getD (Int.toNat r_2) (0:Int))) .ret _<|hh fun _=>l0)
theorem agA {n i_1}:Ax tP 15 aoQ 0 iK (GU n i_1) (al7 n i_1):=.tE mixed [S1] [4] 5
def fq (n:(List Int)) (i_1:Int):Option (Int):=(GU n i_1).opt
def Jz:bW:=fj ZL (aI .i64) fq (0:Int) OK
theorem Q3:bg tP 50 Jz:=dv Tryz.f50 (ao Tryz.f50) [.tmp 4] 15 fun u0 u1 y h=>@agA u0 u1 _ (bn.2 ⟨y,h,(cx (i64 y) (VLe.rfl' _))⟩)
abbrev e50:FE tP:=⟨50, .pure Jz,Q3⟩
noncomputable def uN:List Code:=aA (ao Tryz.f23)
noncomputable def IH:List Code:=aA (ah (ah (aP uN 3)))
def Nv (x_1:(List ac)):bN:=.own true 70 14 (x_1).length (aV aX aW x_1)
def TM (x_1:(List ac)):St:=⟨[sv 2 (.row 0 14 0 x_1.length)],[(bZ 0 70 x_1)],1⟩
def wT (n:(List Int)) (s:((List ac) × Int)):St:=match s with | (out_2,p_1)=>⟨[sv 0 (fC n),sv 3 (.row 0 14 0 out_2.length),sv 4 (i64 p_1)],[(bZ 0 70 out_2)],1⟩
def Sy (n:(List Int)) (s:(List ac)):St:=match s with | out_4=>⟨[sv 0 (fC n),sv 3 (.row 0 14 0 out_4.length)],[(bZ 0 70 out_4)],1⟩
def wv (n:(List Int)) (r:(((List ac)))) (K:KT):Prop:=match r with | s=>K (.exit 0) (Sy n s)
def amM (n:(List Int)) (out_1:(List ac)) (p_3:Int):St:=⟨[sv 0 (fC n),sv 3 (.row 0 14 0 out_1.length),sv 4 (i64 p_3)],[(bZ 0 70 out_1)],1⟩
def FP (n:(List Int)) (out_1:(List ac)) (p_3:Int):PT _ (nE (wT n) (wv n)) iK:=.lf (some (Sum.inl (out_1,(ai (p_3+1))))) .normal _<|hh fun _=>l0
theorem abv {n out_1 p_3}:Ax tP 163 IH 3 iK (FP n out_1 p_3) (amM n out_1 p_3):=.tE mixed [] [0,3,4] 1
def anH (n:(List Int)) (out_3:(List ac)) (p_2:Int):St:=⟨[sv 0 (fC n),sv 3 (.row 0 14 0 out_3.length),sv 4 (i64 p_2)],[(bZ 0 70 out_3)],1⟩
def FI (n:(List Int)) (out_3:(List ac)) (p_2:Int):PT _ (nE (wT n) (wv n)) (dK tP 163 IH 3 iK):=.lk bC n fun L1_=>.bd (fq L1_ p_2) 0 fun r_15=>.bd (bK r_15 3) 0 fun r_16=>.tv (yz n) (kb ay)<|.bd (fq L1_ (ai (p_2+2))) 0 fun r_17=>.bd (bK r_17 3) 0 fun r_18=>.tv (yz n) (kb ay)<|.bd (fq L1_ (ai (p_2+4))) 0 fun r_19=>.bd (bK r_19 6000) 0 fun r_20=>.tv (yz n) (kb ay)<|.bd (fq L1_ (ai (p_2+6))) 0 fun r_21=>.bd (bK r_21 3000) 0 fun r_22=>.tv (out_3.length = out_3.length) rfl<|.gc (out_3.length+1) 112<|.tv ((out_3.length+1) = (out_3.length+1)) rfl<|.gc ((out_3.length+1)+1) 112<|.tv (yz n) (kb ay)<|.bd (fq L1_ (ai (p_2+8))) 0 fun r_23=>.bd (bK r_23 900000) 0 fun r_24=>.tv (((out_3.length+1)+1) = ((out_3.length+1)+1)) rfl<|.gc (((out_3.length+1)+1)+1) 112<|.tv (yz n) (kb ay)<|.bd (fq L1_ (ai (p_2+10))) 0 fun r_25=>.bd (bK r_25 3000) 0 fun r_26=>.tv (yz n) (kb ay)<|.bd (fq L1_ (ai (p_2+12))) 0 fun r_27=>.bd (bK r_27 900000) 0 fun r_28=>.tv ((((out_3.length+1)+1)+1) = (((out_3.length+1)+1)+1)) rfl<|.gc ((((out_3.length+1)+1)+1)+1) 112<|.tv (((((out_3.length+1)+1)+1)+1) = ((((out_3.length+1)+1)+1)+1)) rfl<|.gc (((((out_3.length+1)+1)+1)+1)+1) 112<|.tv ((((((out_3.length+1)+1)+1)+1)+1) = (((((out_3.length+1)+1)+1)+1)+1)) rfl<|.gc ((((((out_3.length+1)+1)+1)+1)+1)+1) 112<|.lf ((FP n ((((((out_3++([(ac.mk r_16 (ai (900+p_2)) 1 false p_2 11 0 (ab.mk (ai (13000+r_22)) (ai ((ai (13000+r_22))+1))) 0 0 0 0 0)]:List ac))++([(ac.mk r_16 (ai (910+p_2)) 1 false p_2 5 r_16 (ab.mk 20000 60000) 0 0 0 0 0)]:List ac))++([(ac.mk r_16 (ai (920+p_2)) 1 false p_2 1 r_16 (ab.mk 22000 (ai (27000+r_20))) r_16 100 (ai (1+r_16)) (ai (900000+r_24)) 0)]:List ac))++([(ac.mk r_18 (ai (930+p_2)) 1 false p_2 1 r_18 (ab.mk (ai (27000+r_20)) (ai (34400+r_26))) r_18 50 (ai (1+r_18)) (ai (700000+r_28)) 0)]:List ac))++([(ac.mk r_16 (ai (940+p_2)) 1 false p_2 10 r_16 (ab.mk 32000 38500) 0 0 0 0 3)]:List ac))++([(ac.mk r_16 (ai (950+p_2)) 1 false p_2 14 0 (ab.mk 26000 50000) 0 0 0 0 (ai (3 - p_2)))]:List ac)) p_2).opt) .normal (⟨[sv 0 (fC n),sv 3 (.row 0 14 0 ((((((out_3.length+1)+1)+1)+1)+1)+1)),sv 4 (i64 p_2)],[(0,some (.row 70 14 ((((((out_3.length+1)+1)+1)+1)+1)+1) (fun i=>bif Nat.blt i (((((out_3.length+1)+1)+1)+1)+1) then (fun i=>bif Nat.blt i ((((out_3.length+1)+1)+1)+1) then (fun i=>bif Nat.blt i (((out_3.length+1)+1)+1) then (fun i=>bif Nat.blt i ((out_3.length+1)+1) then (fun i=>bif Nat.blt i (out_3.length+1) then (fun i=>bif Nat.blt i out_3.length then (fH out_3) i else (fun i=>(dj 14 (aX (ac.mk r_16 (ai (900+p_2)) 1 false p_2 11 0 (ab.mk (ai (13000+r_22)) (ai ((ai (13000+r_22))+1))) 0 0 0 0 0))) (0+i)) (i - out_3.length)) i else (fun i=>(dj 14 (aX (ac.mk r_16 (ai (910+p_2)) 1 false p_2 5 r_16 (ab.mk 20000 60000) 0 0 0 0 0))) (0+i)) (i - (out_3.length+1))) i else (fun i=>(dj 14 (aX (ac.mk r_16 (ai (920+p_2)) 1 false p_2 1 r_16 (ab.mk 22000 (ai (27000+r_20))) r_16 100 (ai (1+r_16)) (ai (900000+r_24)) 0))) (0+i)) (i - ((out_3.length+1)+1))) i else (fun i=>(dj 14 (aX (ac.mk r_18 (ai (930+p_2)) 1 false p_2 1 r_18 (ab.mk (ai (27000+r_20)) (ai (34400+r_26))) r_18 50 (ai (1+r_18)) (ai (700000+r_28)) 0))) (0+i)) (i - (((out_3.length+1)+1)+1))) i else (fun i=>(dj 14 (aX (ac.mk r_16 (ai (940+p_2)) 1 false p_2 10 r_16 (ab.mk 32000 38500) 0 0 0 0 3))) (0+i)) (i - ((((out_3.length+1)+1)+1)+1))) i else (fun i=>(dj 14 (aX (ac.mk r_16 (ai (950+p_2)) 1 false p_2 14 0 (ab.mk 26000 50000) 0 0 0 0 (ai (3 - p_2))))) (0+i)) (i - (((((out_3.length+1)+1)+1)+1)+1)))))],1⟩)<|hh fun _ h=>lf (abv h) (.of (.q rfl (.cons rfl (.rown (bS (bS (bS (bS (bS (bS rfl rfl) rfl) rfl) rfl) rfl) rfl)) (.q rfl .nil))) (.row rfl (ae.app (ae.app (ae.app (ae.app (ae.app (ae.app .b (ae.zero (ae.l1 (enc:=aX) (z:=aW) 14 (ac.mk r_16 (ai (900+p_2)) 1 false p_2 11 0 (ab.mk (ai (13000+r_22)) (ai ((ai (13000+r_22))+1))) 0 0 0 0 0) rfl))) (ae.zero (ae.l1 (enc:=aX) (z:=aW) 14 (ac.mk r_16 (ai (910+p_2)) 1 false p_2 5 r_16 (ab.mk 20000 60000) 0 0 0 0 0) rfl))) (ae.zero (ae.l1 (enc:=aX) (z:=aW) 14 (ac.mk r_16 (ai (920+p_2)) 1 false p_2 1 r_16 (ab.mk 22000 (ai (27000+r_20))) r_16 100 (ai (1+r_16)) (ai (900000+r_24)) 0) rfl))) (ae.zero (ae.l1 (enc:=aX) (z:=aW) 14 (ac.mk r_18 (ai (930+p_2)) 1 false p_2 1 r_18 (ab.mk (ai (27000+r_20)) (ai (34400+r_26))) r_18 50 (ai (1+r_18)) (ai (700000+r_28)) 0) rfl))) (ae.zero (ae.l1 (enc:=aX) (z:=aW) 14 (ac.mk r_16 (ai (940+p_2)) 1 false p_2 10 r_16 (ab.mk 32000 38500) 0 0 0 0 3) rfl))) (ae.zero (ae.l1 (enc:=aX) (z:=aW) 14 (ac.mk r_16 (ai (950+p_2)) 1 false p_2 14 0 (ab.mk 26000 50000) 0 0 0 0 (ai (3 - p_2))) rfl))) .nil rfl) rfl)
theorem afA {n out_3 p_2}:Ax tP 163 IH 2 iK (FI n out_3 p_2) (anH n out_3 p_2):=.tD mixed [S1,e50] [0,3,4] 1
def ald (n:(List Int)) (out_2:(List ac)) (p_1:Int):St:=wT n (out_2,p_1)
def FV (n:(List Int)) (out_2:(List ac)) (p_1:Int):PT _ (nE (wT n) (wv n)) (dK tP 163 IH 2 iK):=.bf (decide (p_1≤2)) (.lf ((FI n out_2 p_1).opt) .normal _<|hh fun _ h=>l0 (afA h)) (.lf (some (Sum.inr out_2)) (.exit 0) (wT n (out_2,p_1))<|hh fun _=>lg (.cn [0,3]))
theorem aih {n out_2 p_1}:Ax tP 163 IH 0 iK (FV n out_2 p_1) (ald n out_2 p_1):=.tD mixed [] [0,3,4] 2
def xd (n:(List Int)) (s:((List ac) × Int)):Option (((List ac) × Int) ⊕ (((List ac)))):=match s with | (out_2,p_1)=>(FV n out_2 p_1).opt
theorem acN (n s):Pp tP 163 (List.drop 0 IH) (wT n s) (xd n s) (cd (wT n) (wv n)):=fun K h=>match s,h with | (out_2,p_1),h=>(aih h)
theorem Uc (n):∀ r J K,wv n r K→wv n r (aE J K)
  | s,_,_,h=>h
def Xv (n:(List Int)) (out_4:(List ac)):St:=Sy n out_4
def Gd (n:(List Int)) (out_4:(List ac)):PT _ (rE TM) iK:=.lk bC n fun L1_=>.bd (fq L1_ 15) 0 fun r_41=>.bd (bK r_41 2000) 0 fun r_42=>.tv (yz n) (kb ay)<|.bd (fq L1_ 16) 0 fun r_43=>.bd (bK r_43 2000) 0 fun r_44=>.tv (out_4.length = out_4.length) rfl<|.gc (out_4.length+1) 112<|.tv (yz n) (kb ay)<|.bd (fq L1_ 17) 0 fun r_45=>.bd (bK r_45 900) 0 fun r_46=>.tv (yz n) (kb ay)<|.bd (fq L1_ 17) 0 fun r_47=>.bd (bK r_47 900) 0 fun r_48=>.tv ((out_4.length+1) = (out_4.length+1)) rfl<|.gc ((out_4.length+1)+1) 112<|.tv (yz n) (kb ay)<|.bd (fq L1_ 18) 0 fun r_49=>.bd (bK r_49 1200) 0 fun r_50=>.tv (yz n) (kb ay)<|.bd (fq L1_ 19) 0 fun r_51=>.bd (bK r_51 300) 0 fun r_52=>.tv (((out_4.length+1)+1) = ((out_4.length+1)+1)) rfl<|.gc (((out_4.length+1)+1)+1) 112<|.lf (some (((out_4++([(ac.mk 0 961 1 false 1 13 0 (ab.mk (ai (34000+r_42)) (ai (36500+r_44))) 0 0 0 0 0)]:List ac))++([(ac.mk 1 962 1 false 2 12 0 (ab.mk (ai (35600+r_46)) (ai (35601+r_48))) 0 0 0 0 0)]:List ac))++([(ac.mk 0 963 1 false 1 8 0 (ab.mk (ai (35000+r_50)) (ai (36250+r_52))) 0 0 0 0 0)]:List ac))) .ret (⟨[sv 2 (.row 0 14 0 (((out_4.length+1)+1)+1))],[(0,some (.row 70 14 (((out_4.length+1)+1)+1) (fun i=>bif Nat.blt i ((out_4.length+1)+1) then (fun i=>bif Nat.blt i (out_4.length+1) then (fun i=>bif Nat.blt i out_4.length then (fH out_4) i else (fun i=>(dj 14 (aX (ac.mk 0 961 1 false 1 13 0 (ab.mk (ai (34000+r_42)) (ai (36500+r_44))) 0 0 0 0 0))) (0+i)) (i - out_4.length)) i else (fun i=>(dj 14 (aX (ac.mk 1 962 1 false 2 12 0 (ab.mk (ai (35600+r_46)) (ai (35601+r_48))) 0 0 0 0 0))) (0+i)) (i - (out_4.length+1))) i else (fun i=>(dj 14 (aX (ac.mk 0 963 1 false 1 8 0 (ab.mk (ai (35000+r_50)) (ai (36250+r_52))) 0 0 0 0 0))) (0+i)) (i - ((out_4.length+1)+1)))))],1⟩)<|hh fun _=>lg (.of (.cons rfl (.rown (bS (bS (bS rfl rfl) rfl) rfl)) .nil) (.row rfl (ae.app (ae.app (ae.app .b (ae.zero (ae.l1 (enc:=aX) (z:=aW) 14 (ac.mk 0 961 1 false 1 13 0 (ab.mk (ai (34000+r_42)) (ai (36500+r_44))) 0 0 0 0 0) rfl))) (ae.zero (ae.l1 (enc:=aX) (z:=aW) 14 (ac.mk 1 962 1 false 2 12 0 (ab.mk (ai (35600+r_46)) (ai (35601+r_48))) 0 0 0 0 0) rfl))) (ae.zero (ae.l1 (enc:=aX) (z:=aW) 14 (ac.mk 0 963 1 false 1 8 0 (ab.mk (ai (35000+r_50)) (ai (36250+r_52))) 0 0 0 0 0) rfl))) .nil rfl) rfl)
theorem ahE {n out_4}:Ax tP 163 uN 4 iK (Gd n out_4) (Xv n out_4):=.tE mixed [S1,e50] [2] 5
def akt (n:(List Int)):St:=⟨[sv 0 (fC n),sv 3 (.c .nil),sv 4 (i64 1)],[],0⟩
abbrev Ao (n:(List Int)) (r:(((List ac)))):Option ((List ac)):=match r with | out_4=>((Gd n out_4).opt)
def FB (n:(List Int)):Option ((List ac)):=(fixL (xd n) (([]:List ac),1)).bind (Ao n)
theorem ae7:List.drop 3 uN = .block 0 (.loop (ah (ah (aP uN 3)))) :: List.drop 4 uN:=by kernel_rfl
theorem anT (n K):∀ r,W (Ao n r) (rE TM K)→wv n r (wK (aZ 0 (aE (au tP 163 (List.drop 4 uN) K) K)))
  | out_4,h=>⟨(Xv n out_4),(.refl _),(ahE h)⟩
theorem abk {n K} (h:W (FB n) (rE TM K)):au tP 163 (List.drop 3 uN) K (akt n) :=
  au.at_ ae7 (au.cons_loop (aC.weak (aC.ent (.trans (.nilrow 3 0 70 14 (aV aX aW []) (Nat.le_of_ble_eq_true rfl) rfl) (.cn [0,3,4])) (aC.loopF (x:=ah (ah (aP uN 3))) (f:=xd n) (emb:=wT n) (E:=wv n) (acN n) (Uc n) (bM h (anT n K))))))
def alH (n:(List Int)):St:=⟨[sv 0 (fC n)],[],0⟩
def Gh (n:(List Int)):PT _ (rE TM) (dK tP 163 uN 3 iK):=.lf (FB n) .normal _<|hh fun _ h=>l0 (abk h)
theorem ahO {n}:Ax tP 163 uN 0 iK (Gh n) (alH n):=.tD mixed [] [0,3,4] 3
def LP (n:(List Int)):Option ((List ac)):=(Gh n).opt
def H7:bW:=dH ZL LP ([]:List ac) Nv
theorem Ox:bg tP 23 H7:=cJ Tryz.f23 (ao Tryz.f23) [.tmp 2] 163 fun u0 y h=>@ahO u0 _ (bn.2 ⟨y,h,(cx (.row 0 14 0 y.length) (⟨_,_,_,rfl,rfl,rfl,fun _ _=>rfl,fun _ i hi d hd=>mt _ d hd⟩))⟩)
abbrev fK:FE tP:=⟨23, .pure H7,Ox⟩
noncomputable def vo:List Code:=aA (ao Tryz.f22)
noncomputable def aaQ:List Code:=aA (ah (ah (aP vo 3)))
def Rr (x_1:(List ac)):bN:=.own true 70 14 (x_1).length (aV aX aW x_1)
def Va (x_1:(List ac)):St:=⟨[sv 4 (.row 0 14 0 x_1.length)],[(bZ 0 70 x_1)],1⟩
def BV (l:(List ac)) (person:Int) (s:((List ac) × Int)):St:=match s with | (out_1,i_1)=>⟨[sv 0 (aU l),sv 1 (i64 person),sv 5 (.row 0 14 0 out_1.length),sv 6 (i64 i_1)],[(bZ 0 70 out_1)],1⟩
def acU (l:(List ac)) (person:Int) (s:(List ac)):St:=match s with | out_2=>⟨[sv 5 (.row 0 14 0 out_2.length)],[(bZ 0 70 out_2)],1⟩
def D6 (l:(List ac)) (person:Int) (r:(((List ac)))) (K:KT):Prop:=match r with | s=>K (.exit 0) (acU l person s)
def ajW (l:(List ac)) (person:Int) (out_1:(List ac)) (i_1:Int):St:=BV l person (out_1,i_1)
def Jx (l:(List ac)) (person:Int) (out_1:(List ac)) (i_1:Int):PT _ (nE (BV l person) (D6 l person)) iK:=.bf (decide (i_1 < (l.length:Int))) (.g2 (0≤i_1) (i_1 < (l.length:Int))<|.bf ((l.getD (Int.toNat i_1) aW).Person == person) (.g2 (0≤i_1) (i_1 < (l.length:Int))<|.tv (out_1.length = out_1.length) rfl<|.gc (out_1.length+1) 112<|.lf (some (Sum.inl ((out_1++([(l.getD (Int.toNat i_1) aW)]:List ac)),(ai (i_1+1))))) .normal (⟨[sv 0 (aU l),sv 1 (i64 person),sv 5 (.row 0 14 0 (out_1.length+1)),sv 6 (i64 (ai (i_1+1)))],[(0,some (.row 70 14 (out_1.length+1) (fun i=>bif Nat.blt i out_1.length then (fH out_1) i else (fun i=>(dj 14 (aX (l.getD (Int.toNat i_1) aW))) (0+i)) (i - out_1.length))))],1⟩)<|hh fun _=>lg (.of (.q rfl (.q rfl (.cons rfl (.rown (bS rfl rfl)) (.q rfl .nil)))) (.row rfl (ae.app .b (ae.zero (ae.l1 (enc:=aX) (z:=aW) 14 (l.getD (Int.toNat i_1) aW) rfl))) .nil rfl) rfl)) (.lf (some (Sum.inl (out_1,(ai (i_1+1))))) .normal _<|hh fun _=>l0)) (.lf (some (Sum.inr out_1)) (.exit 0) (BV l person (out_1,i_1))<|hh fun _=>lg (.cn [5]))
theorem acA {l person out_1 i_1}:Ax tP 28 aaQ 0 iK (Jx l person out_1 i_1) (ajW l person out_1 i_1):=.tE mixed [] [0,1,5,6] 4
def BH (l:(List ac)) (person:Int) (s:((List ac) × Int)):Option (((List ac) × Int) ⊕ (((List ac)))):=match s with | (out_1,i_1)=>(Jx l person out_1 i_1).opt
theorem abX (l person s):Pp tP 28 (List.drop 0 aaQ) (BV l person s) (BH l person s) (cd (BV l person) (D6 l person)):=fun K h=>match s,h with | (out_1,i_1),h=>(acA h)
theorem Vn (l person):∀ r J K,D6 l person r K→D6 l person r (aE J K)
  | s,_,_,h=>h
def XJ (out_3:(List ac)):St:=⟨[sv 5 (.row 0 14 0 out_3.length)],[(bZ 0 70 out_3)],1⟩
def JL (out_3:(List ac)):PT _ (rE Va) iK:=.lf (some out_3) .ret _<|hh fun _=>l0
theorem ac1 {out_3}:Ax tP 28 vo 4 iK (JL out_3) (XJ out_3):=.tE mixed [] [4] 2
def anc (l:(List ac)) (person:Int):St:=⟨[sv 0 (aU l),sv 1 (i64 person),sv 5 (.c .nil),sv 6 (i64 0)],[],0⟩
abbrev Gu (l:(List ac)) (person:Int) (r:(((List ac)))):Option ((List ac)):=match r with | out_2=>((JL out_2).opt)
def I9 (l:(List ac)) (person:Int):Option ((List ac)):=(fixL (BH l person) (([]:List ac),0)).bind (Gu l person)
theorem afd:List.drop 3 vo = .block 0 (.loop (ah (ah (aP vo 3)))) :: List.drop 4 vo:=by kernel_rfl
theorem am8 (l person K):∀ r,W (Gu l person r) (rE Va K)→D6 l person r (wK (aZ 0 (aE (au tP 28 (List.drop 4 vo) K) K)))
  | out_2,h=>⟨(XJ out_2),(.refl _),(ac1 h)⟩
theorem ad2 {l person K} (h:W (I9 l person) (rE Va K)):au tP 28 (List.drop 3 vo) K (anc l person) :=
  au.at_ afd (au.cons_loop (aC.weak (aC.ent (.trans (.nilrow 5 0 70 14 (aV aX aW []) (Nat.le_of_ble_eq_true rfl) rfl) (.cn [0,1,5,6])) (aC.loopF (x:=ah (ah (aP vo 3))) (f:=BH l person) (emb:=BV l person) (E:=D6 l person) (abX l person) (Vn l person) (bM h (am8 l person K))))))
def amI (l:(List ac)) (person:Int):St:=⟨[sv 0 (aU l),sv 1 (i64 person)],[],0⟩
def Jb (l:(List ac)) (person:Int):PT _ (rE Va) (dK tP 28 vo 3 iK):=.lf (I9 l person) .normal _<|hh fun _ h=>l0 (ad2 h)
theorem ad8 {l person}:Ax tP 28 vo 0 iK (Jb l person) (amI l person):=.tD mixed [] [0,1,5,6] 3
def P6 (l:(List ac)) (person:Int):Option ((List ac)):=(Jb l person).opt
def Lr:bW:=fj gn (aI .i64) P6 ([]:List ac) Rr
theorem RF:bg tP 22 Lr:=dv Tryz.f22 (ao Tryz.f22) [.tmp 4] 28 fun u0 u1 y h=>@ad8 u0 u1 _ (bn.2 ⟨y,h,(cx (.row 0 14 0 y.length) (⟨_,_,_,rfl,rfl,rfl,fun _ _=>rfl,fun _ i hi d hd=>mt _ d hd⟩))⟩)
abbrev Om:FE tP:=⟨22, .pure Lr,RF⟩
noncomputable def vp:List Code:=aA (ao Tryz.f93)
noncomputable def abf:List Code:=aA (ah (ah (aP vp 3)))
def My (x_1:Bool):bN:=.data (bl x_1)
def Ry (x_1:Bool):St:=⟨[sv 4 (bl x_1)],[],0⟩
def CI (c:Int) (s_1:ByteArray) (s:(Int)):St:=match s with | i_1=>⟨[sv 1 (.c (.lit (.int .u8 c))),sv 5 (bc s_1),sv 6 (i64 i_1)],[],0⟩
def af1 (c:Int) (s_1:ByteArray) (s:Unit):St:=match s with | ()=>⟨[sv 4 (bl true)],[],0⟩
def acx (c:Int) (s_1:ByteArray) (s:Unit):St:=match s with | ()=>⟨[],[],0⟩
def DH (c:Int) (s_1:ByteArray) (r:((Unit) ⊕ (Unit))) (K:KT):Prop:=match r with | (.inl s)=>K .ret (af1 c s_1 s) | (.inr s)=>K (.exit 0) (acx c s_1 s)
def ajL (c:Int) (s_1:ByteArray) (i_1:Int):St:=CI c s_1 i_1
def ka (c:Int) (s_1:ByteArray) (i_1:Int):PT _ (nE (CI c s_1) (DH c s_1)) iK:=.bf (decide (i_1 < (s_1.size:Int))) (.g2 (0≤i_1) (i_1 < (s_1.size:Int))<|.bf (((s_1.data.getD (Int.toNat i_1) 0).toNat:Int) == c) (.lf (some (Sum.inr (Sum.inl ()))) .ret _<|hh fun _=>lx [4] [] [sv 1 (.c (.lit (.int .u8 c))),sv 5 (bc s_1),sv 6 (i64 i_1)]) (.lf (some (Sum.inl (ai (i_1+1)))) .normal _<|hh fun _=>l0)) (.lf (some (Sum.inr (Sum.inr ()))) (.exit 0) (CI c s_1 i_1)<|hh fun _=>lg (.cn []))
theorem ach {c s_1 i_1}:Ax tP 20 abf 0 iK (ka c s_1 i_1) (ajL c s_1 i_1):=.tE mixed [] [1,4,5,6] 4
def qp (c:Int) (s_1:ByteArray) (s:(Int)):Option ((Int) ⊕ ((Unit) ⊕ (Unit))):=match s with | i_1=>(ka c s_1 i_1).opt
theorem ahR (c s_1 s):Pp tP 20 (List.drop 0 abf) (CI c s_1 s) (qp c s_1 s) (cd (CI c s_1) (DH c s_1)):=fun K h=>match s,h with | i_1,h=>(ach h)
theorem TF (c s_1):∀ r J K,DH c s_1 r K→DH c s_1 r (aE J K)
  | (.inl s),_,_,h=>h
  | (.inr s),_,_,h=>h
def Wt:St:=⟨[],[],0⟩
def wY:PT _ (rE Ry) iK:=.lf (some false) .ret _<|hh fun _=>l0
theorem ahA:Ax tP 20 vp 4 iK wY Wt:=.tE mixed [] [4] 2
def ajk (c:Int) (s_1:ByteArray):St:=⟨[sv 1 (.c (.lit (.int .u8 c))),sv 5 (bc s_1),sv 6 (i64 0)],[],0⟩
abbrev nQ (c:Int) (s_1:ByteArray) (r:((Unit) ⊕ (Unit))):Option (Bool):=match r with | (.inl ())=>(some true) | (.inr ())=>wY.opt
def xi (c:Int) (s_1:ByteArray):Option (Bool):=(fixL (qp c s_1) 0).bind (nQ c s_1)
theorem afg:List.drop 3 vp = .block 0 (.loop (ah (ah (aP vp 3)))) :: List.drop 4 vp:=by kernel_rfl
theorem alY (c s_1 K):∀ r,W (nQ c s_1 r) (rE Ry K)→DH c s_1 r (wK (aZ 0 (aE (au tP 20 (List.drop 4 vp) K) K)))
  | (.inl ()),h=>⟨(Ry true),(.refl _),h⟩
  | (.inr ()),h=>⟨(Wt),(.refl _),(ahA h)⟩
theorem abV {c s_1 K} (h:W (xi c s_1) (rE Ry K)):au tP 20 (List.drop 3 vp) K (ajk c s_1) :=
  au.at_ afg (au.cons_loop (aC.weak (aC.ent (.refl _) (aC.loopF (x:=ah (ah (aP vp 3))) (f:=qp c s_1) (emb:=CI c s_1) (E:=DH c s_1) (ahR c s_1) (TF c s_1) (bM h (alY c s_1 K))))))
def an6 (kind c:Int):St:=⟨[sv 0 (i64 kind),sv 1 (.c (.lit (.int .u8 c)))],[],0⟩
def qv (kind c:Int):PT _ (rE Ry) (dK tP 20 vp 3 iK):=.bd (mr kind) (am []) fun r_2=>.lf (xi c r_2) .normal _<|hh fun _ h=>l0 (abV h)
theorem acE {kind c}:Ax tP 20 vp 0 iK (qv kind c) (an6 kind c):=.tD mixed [KJ] [1,5,6] 3
def Fo (kind c:Int):Option (Bool):=(qv kind c).opt
def Hh:bW:=fj (aI .i64) (aI .u8) Fo false My
theorem ON:bg tP 93 Hh:=dv Tryz.f93 (ao Tryz.f93) [.tmp 4] 20 fun u0 u1 y h=>@acE u0 u1 _ (bn.2 ⟨y,h,(cx (bl y) (VLe.rfl' _))⟩)
abbrev e93:FE tP:=⟨93, .pure Hh,ON⟩
noncomputable def aoX:List Code:=aA (ao Tryz.f72)
def KX (x_1:Bool):bN:=.data (bl x_1)
def aqV (x_1:Bool):St:=⟨[sv 10 (bl x_1)],[],0⟩
def aiQ (kind c n least most:Int):St:=⟨[sv 0 (i64 kind),sv 1 (.c (.lit (.int .u8 c))),sv 2 (i64 n),sv 3 (i64 least),sv 4 (i64 most)],[],0⟩
def pl (kind c n least most:Int):PT _ (rE aqV) iK:=.bd (Fo kind c) false fun r_2=>.bf r_2 (.lf (some (bif (decide (least≤n)) then (decide (n≤most)) else false)) .ret _<|hh fun _=>l0) (.lf (some (n == 0)) .ret _<|hh fun _=>l0)
theorem af8 {kind c n least most}:Ax tP 24 aoX 0 iK (pl kind c n least most) (aiQ kind c n least most):=.tE mixed [e93] [10] 5
def bX (kind c n least most:Int):Option (Bool):=(pl kind c n least most).opt
def FZ:bW:=Uj (aI .i64) (aI .u8) (aI .i64) (aI .i64) (aI .i64) bX false KX
theorem MO:bg tP 72 FZ:=X4 Tryz.f72 (ao Tryz.f72) [.tmp 10] 24 fun u0 u1 u2 u3 u4 y h=>@af8 u0 u1 u2 u3 u4 _ (bn.2 ⟨y,h,(cx (bl y) (VLe.rfl' _))⟩)
abbrev e72:FE tP:=⟨72, .pure FZ,MO⟩
noncomputable def TB:List Code:=aA (ao Tryz.f51)
def K0 (x_1:Bool):bN:=.data (bl x_1)
def alU (x_1:Bool):St:=⟨[sv 2 (bl x_1)],[],0⟩
def amN (f:ac):St:=⟨[sv 1 (.ptr 0 14 0 0),sv 3 (i64 f.Kind)],[(0,some (.bx (aX f)))],1⟩
def ud (f:ac):PT _ (rE alU) iK:=.bf (bif (bif (bif (bif (f.Kind == 11) then true else (f.Kind == 12)) then ((ai (f.Span.To - f.Span.From)) != 1) else false) then true else (bif (f.Kind == 4) then (f.Seat == f.State) else false)) then true else (bif (bif (f.Kind == 10) then true else (f.Kind == 14)) then (f.Ref == f.Person) else false)) (.lf (some false) .ret _<|hh fun _=>l0) (.bd (bX f.Kind 83 f.State 0 5) false fun r_2=>.g1 ((r_2&&true) = true→(bX f.Kind 84 f.Seat 0 5).isSome = true)<|.g1 (((bif r_2 then ((bX f.Kind 84 f.Seat 0 5).getD false) else false)&&true) = true→(bX f.Kind 72 f.Share 1 100).isSome = true)<|.g1 (((bif (bif r_2 then ((bX f.Kind 84 f.Seat 0 5).getD false) else false) then ((bX f.Kind 72 f.Share 1 100).getD false) else false)&&true) = true→(bX f.Kind 67 f.Currency 1 999).isSome = true)<|.g1 (((bif (bif (bif r_2 then ((bX f.Kind 84 f.Seat 0 5).getD false) else false) then ((bX f.Kind 72 f.Share 1 100).getD false) else false) then ((bX f.Kind 67 f.Currency 1 999).getD false) else false)&&true) = true→(bX f.Kind 65 f.Amount 0 1000000000).isSome = true)<|.g1 (((bif (bif (bif (bif r_2 then ((bX f.Kind 84 f.Seat 0 5).getD false) else false) then ((bX f.Kind 72 f.Share 1 100).getD false) else false) then ((bX f.Kind 67 f.Currency 1 999).getD false) else false) then ((bX f.Kind 65 f.Amount 0 1000000000).getD false) else false)&&true) = true→(bX f.Kind 82 f.Ref 1 99).isSome = true)<|.lf (some (bif (bif (bif (bif (bif r_2 then ((bX f.Kind 84 f.Seat 0 5).getD false) else false) then ((bX f.Kind 72 f.Share 1 100).getD false) else false) then ((bX f.Kind 67 f.Currency 1 999).getD false) else false) then ((bX f.Kind 65 f.Amount 0 1000000000).getD false) else false) then ((bX f.Kind 82 f.Ref 1 99).getD false) else false)) .ret _<|hh fun _=>l0)
theorem afB {f}:Ax tP 144 TB 6 iK (ud f) (amN f):=.tE mixed [e72] [2] 4
def ali (f:ac):St:=⟨[sv 0 (.ag (aX f))],[],0⟩
def pe (f:ac):PT _ (rE alU) (dK tP 144 TB 6 iK):=.g1 (((!(bif (bif (bif (bif (bif (bif (bif (decide (f.Issuer < 0)) then true else (decide (6≤f.Issuer))) then true else (decide (f.Number < 1))) then true else (decide (999 < f.Number))) then true else (decide (f.Version < 1))) then true else (decide (99 < f.Version))) then true else (decide (f.Person < 1))) then true else (decide (99 < f.Person))))&&true) = true→(mr f.Kind).isSome = true)<|.bf (bif (bif (bif (bif (bif (bif (bif (bif (decide (f.Issuer < 0)) then true else (decide (6≤f.Issuer))) then true else (decide (f.Number < 1))) then true else (decide (999 < f.Number))) then true else (decide (f.Version < 1))) then true else (decide (99 < f.Version))) then true else (decide (f.Person < 1))) then true else (decide (99 < f.Person))) then true else (((mr f.Kind).getD (am [])).toList == (am []).toList)) (.lf (some false) .ret (⟨[sv 1 (.ptr 0 14 0 0),sv 2 (bl false),sv 3 (i64 f.Kind)],[(0,some (.bx (aX f)))],1⟩)<|hh fun _=>lg (.cn [2])) (.bf (bif (bif (decide (f.Span.From < 0)) then true else (decide (f.Span.To≤f.Span.From))) then true else (decide (73049 < f.Span.To))) (.lf (some false) .ret (⟨[sv 1 (.ptr 0 14 0 0),sv 2 (bl false),sv 3 (i64 f.Kind)],[(0,some (.bx (aX f)))],1⟩)<|hh fun _=>lg (.cn [2])) (.lf ((ud f).opt) .normal _<|hh fun _ h=>lz (afB h) [1,3] [] [sv 2 (bl false)]))
theorem abK {f}:Ax tP 144 TB 0 iK (pe f) (ali f):=.tD mixed [KJ] [1,2,3,71,72,75,76,77,78,79,80,81,82,85,86,87,88,89,90,91,92,93,96,97,98,99,100,101,102,103,104,105,106,107,108,115,116,117,118,121,122,123,124,127,128,129,130,133,134,135,136,139,140,141,142] 6
def eW (f:ac):Option (Bool):=(pe f).opt
def Gw:bW:=dH wz eW false K0
theorem M3:bg tP 51 Gw:=cJ Tryz.f51 (ao Tryz.f51) [.tmp 2] 144 fun u0 y h=>@abK u0 _ (bn.2 ⟨y,h,(cx (bl y) (VLe.rfl' _))⟩)
abbrev e51:FE tP:=⟨51, .pure Gw,M3⟩
noncomputable def apw:List Code:=aA (ao Tryz.f52)
def Ql (x_1:Int):bN:=.data (i64 x_1)
def aq2 (x_1:Int):St:=⟨[sv 4 (i64 x_1)],[],0⟩
def aod (a b:ac):St:=⟨[sv 0 (.ag (aX a)),sv 1 (.ag (aX b))],[],0⟩
def vg (a b:ac):PT _ (rE aq2) iK:=.bf (a.Issuer != b.Issuer) (.lf (some (ai (a.Issuer - b.Issuer))) .ret _<|hh fun _=>l0) (.lf (some (ai (a.Number - b.Number))) .ret _<|hh fun _=>l0)
theorem aeY {a b}:Ax tP 20 apw 0 iK (vg a b) (aod a b):=.tE mixed [] [4] 5
def jC (a b:ac):Option (Int):=(vg a b).opt
def K3:bW:=fj wz wz jC (0:Int) Ql
theorem Sa:bg tP 52 K3:=dv Tryz.f52 (ao Tryz.f52) [.tmp 4] 20 fun u0 u1 y h=>@aeY u0 u1 _ (bn.2 ⟨y,h,(cx (i64 y) (VLe.rfl' _))⟩)
abbrev e52:FE tP:=⟨52, .pure K3,Sa⟩
noncomputable def vG:List Code:=aA (ao Tryz.f94)
noncomputable def aar:List Code:=aA (ah (ah (aP vG 2)))
def M1 (x_1:(List Int)):St:=⟨[sv 6 (.row 0 1 0 x_1.length)],[(Gt 0 5 x_1)],1⟩
theorem alG (x_1:(List Int)) {H:ap} {nid:Nat} {ps:List Prop} {o:Nat}:ep tP [.tmp 6] (fun σ v=>∃ m,Left [o] nid H false { pre:=ps,val:=.row o 1 0 x_1.length,eff:=[(o,some (.row 5 1 x_1.length (aV l6 (0:Int) x_1)))],kill:=[o] } m σ v) .ret (M1 x_1) :=
  ep.intro (v:=(.row 0 1 0 x_1.length)) (by kernel_rfl) ⟨_,Q2 (q:=0) rfl (fun _ _=>rfl) (.inr fun i hi d hd=>NH _ d hd)⟩
theorem ac7 (x_1:(List Int)) {H:ap} {nid:Nat} {ps:List Prop}:ep tP [.tmp 6] (fun σ v=>∃ m,Left [] nid H false { pre:=ps,val:=.row nid 1 0 x_1.length,eff:=[(nid,some (.row 5 1 x_1.length (aV l6 (0:Int) x_1)))],kill:=[] } m σ v) .ret (M1 x_1) :=
  ep.intro (v:=(.row 0 1 0 x_1.length)) (by kernel_rfl) ⟨_,QU (q:=0) rfl (fun _ _=>rfl) (.inr fun i hi d hd=>NH _ d hd)⟩
def DL (b:(List Int)) (n i_1:Int) (s:((List Int) × Int)):St:=match s with | (b_1,i_2)=>⟨[sv 0 (.row 0 1 0 b_1.length),sv 1 (i64 n),sv 7 (i64 i_2)],[(Gt 0 5 b_1)],1⟩
def aee (b:(List Int)) (n i_1:Int) (s:(List Int)):St:=match s with | b_2=>⟨[sv 0 (.row 0 1 0 b_2.length)],[(Gt 0 5 b_2)],1⟩
def CO (b:(List Int)) (n i_1:Int) (r:(((List Int)))) (K:KT):Prop:=match r with | s=>K (.exit 0) (aee b n i_1 s)
def anp (b_1:(List Int)) (n i_2:Int):St:=DL ([]:List Int) n (0:Int) (b_1,i_2)
def sL (b_1:(List Int)) (n i_2:Int):PT _ (nE (DL ([]:List Int) n (0:Int)) (CO ([]:List Int) n (0:Int))) iK:=.bf (decide (0≤i_2)) (.g1 (0≤(IntKind.u64.wrap (ai (8*i_2))))<|.tv (b_1.length = b_1.length) rfl<|.gc (b_1.length+1) 1<|.lf (some (Sum.inl ((b_1++([(IntKind.u8.wrap (Int.fdiv n (2 ^ min (Int.toNat (IntKind.u64.wrap (ai (8*i_2)))) 64)))]:List Int)),(ai (i_2 - 1))))) .normal (⟨[sv 0 (.row 0 1 0 (b_1.length+1)),sv 1 (i64 n),sv 7 (i64 (ai (i_2 - 1)))],[(0,some (.row 5 1 (b_1.length+1) (fun i=>bif Nat.blt i b_1.length then (Q1 b_1) i else (fun i=>(dj 1 (l6 (IntKind.u8.wrap (Int.fdiv n (2 ^ min (Int.toNat (IntKind.u64.wrap (ai (8*i_2)))) 64))))) (0+i)) (i - b_1.length))))],1⟩)<|hh fun _=>lg (.of (.cons rfl (.rown (bS rfl rfl)) (.q rfl (.q rfl .nil))) (.row rfl (ae.app .b (ae.zero (ae.l1 (enc:=l6) (z:=(0:Int)) 1 (IntKind.u8.wrap (Int.fdiv n (2 ^ min (Int.toNat (IntKind.u64.wrap (ai (8*i_2)))) 64))) rfl))) .nil rfl) rfl)) (.lf (some (Sum.inr b_1)) (.exit 0) (DL ([]:List Int) n (0:Int) (b_1,i_2))<|hh fun _=>lg (.cn [0]))
theorem aib {b_1 n i_2}:Ax tP 24 aar 0 iK (sL b_1 n i_2) (anp b_1 n i_2):=.tE mixed [] [0,1,7] 4
def zM (b:(List Int)) (n i_1:Int) (s:((List Int) × Int)):Option (((List Int) × Int) ⊕ (((List Int)))):=match s with | (b_1,i_2)=>(sL b_1 n i_2).opt
theorem agG (b n i_1 s):Pp tP 24 (List.drop 0 aar) (DL b n i_1 s) (zM b n i_1 s) (cd (DL b n i_1) (CO b n i_1)):=fun K h=>match s,h with | (b_1,i_2),h=>(aib h)
theorem Vj (b n i_1):∀ r J K,CO b n i_1 r K→CO b n i_1 r (aE J K)
  | s,_,_,h=>h
def X9 (b_3:(List Int)):St:=⟨[sv 0 (.row 0 1 0 b_3.length)],[(Gt 0 5 b_3)],1⟩
def sA (b_3:(List Int)):PT _ (rE M1) iK:=.lf (some b_3) .ret _<|hh fun _=>l0
theorem acO {b_3}:Ax tP 24 vG 3 iK (sA b_3) (X9 b_3):=.tE mixed [] [6] 2
def akk (b:(List Int)) (n i_1:Int):St:=⟨[sv 0 (.row 0 1 0 b.length),sv 1 (i64 n),sv 7 (i64 i_1)],[(Gt 0 5 b)],1⟩
abbrev C3 (b:(List Int)) (n i_1:Int) (r:(((List Int)))):Option ((List Int)):=match r with | b_2=>((sA b_2).opt)
def G4 (b:(List Int)) (n i_1:Int):Option ((List Int)):=(fixL (zM b n i_1) (b,i_1)).bind (C3 b n i_1)
theorem acJ:List.drop 2 vG = .block 0 (.loop (ah (ah (aP vG 2)))) :: List.drop 3 vG:=by kernel_rfl
theorem aop (b n i_1 K):∀ r,W (C3 b n i_1 r) (rE M1 K)→CO b n i_1 r (wK (aZ 0 (aE (au tP 24 (List.drop 3 vG) K) K)))
  | b_2,h=>⟨(X9 b_2),(.refl _),(acO h)⟩
theorem ag9 {b n i_1 K} (h:W (G4 b n i_1) (rE M1 K)):au tP 24 (List.drop 2 vG) K (akk b n i_1) :=
  au.at_ acJ (au.cons_loop (aC.weak (aC.ent (.refl _) (aC.loopF (x:=ah (ah (aP vG 2))) (f:=zM b n i_1) (emb:=DL b n i_1) (E:=CO b n i_1) (agG b n i_1) (Vj b n i_1) (bM h (aop b n i_1 K))))))
def ajE (b:(List Int)) (n size:Int):St:=⟨[sv 0 (.row 0 1 0 b.length),sv 1 (i64 n),sv 2 (i64 size)],[(Gt 0 5 b)],1⟩
def sX (b:(List Int)) (n size:Int):PT _ (rE M1) (dK tP 24 vG 2 iK):=.lf (G4 b n (ai (size - 1))) .normal _<|hh fun _ h=>l0 (ag9 h)
theorem Sx {b n size}:Ax tP 24 vG 0 iK (sX b n size) (ajE b n size):=.tD mixed [] [0,1,7] 2
def cS (b:(List Int)) (n size:Int):Option ((List Int)):=(sX b n size).opt
def Bl:ap→Nat→List V→Option cR:=fun H nid args=>match oV H [true,false,false] args with
  | [(.row o_ k_ f_ n_),(.c (.lit (.int .i64 a1))),(.c (.lit (.int .i64 a2)))]=>(match ap.get H o_ with
    | some (.row t_ k2_ m_ e_)=>bif Nat.beq t_ 5&&Nat.beq k2_ 1&&Nat.beq k_ 1&&Nat.beq f_ 0&&dY [o_] H false [true,false,false] args then some { pre:=[n_ = m_,aK l6 nP 1 1 m_ e_,(cS (lst nP m_ e_) a1 a2).isSome = true],val:=.row o_ 1 0 ((cS (lst nP m_ e_) a1 a2).getD ([]:List Int)).length,eff:=[(o_,some (.row 5 1 ((cS (lst nP m_ e_) a1 a2).getD ([]:List Int)).length (aV l6 (0:Int) ((cS (lst nP m_ e_) a1 a2).getD ([]:List Int)))))],kill:=[o_] } else none
    | _=>none)
  | [(.c .nil),(.c (.lit (.int .i64 a1))),(.c (.lit (.int .i64 a2)))]=>bif dY [] H false [true,false,false] args then some { pre:=[(cS ([]:List Int) a1 a2).isSome = true],val:=.row nid 1 0 ((cS ([]:List Int) a1 a2).getD ([]:List Int)).length,eff:=[(nid,some (.row 5 1 ((cS ([]:List Int) a1 a2).getD ([]:List Int)).length (aV l6 (0:Int) ((cS ([]:List Int) a1 a2).getD ([]:List Int)))))],kill:=[] } else none
  | _=>none
theorem PW:bV tP 94 (.mut Bl):=by
  refine N8 (fn:=Tryz.f94) (c:=ao Tryz.f94) (by kernel_rfl) (by kernel_rfl) (by kernel_rfl) (rs:=[.tmp 6]) (by kernel_rfl) (nt:=24) (by kernel_rfl) fun H nid args r h hp=>?_
  unfold Bl at h
  split at h
  · next o_ k_ f_ n_ a1 a2 hv =>
    split at h
    · next t_ k2_ m_ e_ hg =>
      cases hb:(Nat.beq t_ 5&&Nat.beq k2_ 1&&Nat.beq k_ 1&&Nat.beq f_ 0&&dY [o_] H false [true,false,false] args) with
      | false=>rw [hb] at h; cases h
      | true =>
        rw [hb] at h
        simp only [Bool.and_eq_true,Nat.beq_eq] at hb
        obtain ⟨⟨⟨⟨rfl,rfl⟩,rfl⟩,rfl⟩,hk⟩:=hb
        cases h
        obtain ⟨hn,hp⟩:=co hp
        obtain ⟨gr,hp⟩:=co hp
        obtain ⟨g,hp⟩:=co hp
        obtain ⟨x,hx⟩:=Option.isSome_iff_exists.1 g
        rw [hx]
        subst hn
        exact .inl ⟨false,[true,false,false],o_,5,1,_,e_,[.row 0 1 0 (lst nP _ e_).length,(i64 a1),(i64 a2)],hg,hk,by rw [hv]; simp only [pP,cond_true,cond_false,Pz]; exact (VLes.cons (VLe.rown (ae.of_ok (z:=(0:Int)) gr).len) (VLes.cons (VLe.rfl' _) (VLes.cons (VLe.rfl' _) VLes.nil))),rfl,au.ent (du.of (bQ.cons rfl (VLe.rfl' _) (bQ.cons rfl (VLe.rfl' _) (bQ.cons rfl (VLe.rfl' _) bQ.nil))) (cI.row rfl (ae.of_ok gr) cI.nil rfl) rfl) (@Sx (lst nP _ e_) a1 a2 _ (bn.2 ⟨x,hx,alG x⟩))⟩
    · cases h
  · next a1 a2 hv =>
    cases hb:dY [] H false [true,false,false] args with
      | false=>rw [hb] at h; cases h
      | true =>
        rw [hb] at h
        cases h
        obtain ⟨g,hp⟩:=co hp
        obtain ⟨x,hx⟩:=Option.isSome_iff_exists.1 g
        rw [hx]
        exact .inr ⟨false,[true,false,false],[.c .nil,(i64 a1),(i64 a2)],hb,by rw [hv]; simp only [pP,cond_true,cond_false]; exact (VLes.cons (VLe.rfl' _) (VLes.cons (VLe.rfl' _) (VLes.cons (VLe.rfl' _) VLes.nil))),rfl,au.ent (du.trans (du.nilrow 0 0 5 1 (aV l6 (0:Int) []) (Nat.le_refl _) rfl) (du.of (bQ.cons rfl (VLe.rown rfl) (bQ.cons rfl (VLe.rfl' _) (bQ.cons rfl (VLe.rfl' _) bQ.nil))) (cI.row rfl (ae.ls l6 (0:Int) []) cI.nil rfl) rfl)) (@Sx ([]:List Int) a1 a2 _ (bn.2 ⟨x,hx,ac7 x⟩))⟩
  · cases h
abbrev e94:FE tP:=⟨94, .mut Bl,PW⟩
noncomputable def qJ:List Code:=aA (ao Tryz.f73)
noncomputable def Pu:List Code:=aA (ah (ah (aP qJ 9)))
def Mv (x_1:(List Int)):bN:=.own true 5 1 (x_1).length (aV l6 (0:Int) x_1)
def P4 (x_1:(List Int)):St:=⟨[sv 2 (.row 0 1 0 x_1.length)],[(Gt 0 5 x_1)],1⟩
def zF (b:(List Int)) (s_1:ByteArray) (f:ac) (s:((List Int) × Int)):St:=match s with | (b_2,i_1)=>⟨[sv 1 (.ptr 0 14 0 0),sv 4 (.row 1 1 0 b_2.length),sv 5 (bc s_1),sv 6 (i64 i_1)],[(0,some (.bx (aX f))),(Gt 1 5 b_2)],2⟩
def afJ (b:(List Int)) (s_1:ByteArray) (f:ac) (s:(List Int)):St:=match s with | b_3=>⟨[sv 4 (.row 0 1 0 b_3.length)],[(Gt 0 5 b_3)],1⟩
def zK (b:(List Int)) (s_1:ByteArray) (f:ac) (r:(((List Int)))) (K:KT):Prop:=match r with | s=>K (.exit 0) (afJ b s_1 f s)
def ak4 (b_1:(List Int)) (s_1:ByteArray) (i_2:Int) (f:ac):St:=⟨[sv 1 (.ptr 0 14 0 0),sv 4 (.row 1 1 0 b_1.length),sv 5 (bc s_1),sv 6 (i64 i_2)],[(0,some (.bx (aX f))),(Gt 1 5 b_1)],2⟩
def ef (b_1:(List Int)) (s_1:ByteArray) (i_2:Int) (f:ac):PT _ (nE (zF ([]:List Int) s_1 f) (zK ([]:List Int) s_1 f)) iK:=.lf (some (Sum.inl (b_1,(ai (i_2+1))))) .normal _<|hh fun _=>l0
theorem rN {b_1 s_1 i_2 f}:Ax tP 89 Pu 3 iK (ef b_1 s_1 i_2 f) (ak4 b_1 s_1 i_2 f):=.tE mixed [] [1,4,5,6] 1
def aj1 (b_2:(List Int)) (s_1:ByteArray) (i_1:Int) (f:ac):St:=zF ([]:List Int) s_1 f (b_2,i_1)
def jz (b_2:(List Int)) (s_1:ByteArray) (i_1:Int) (f:ac):PT _ (nE (zF ([]:List Int) s_1 f) (zK ([]:List Int) s_1 f)) (dK tP 89 Pu 3 iK):=.bf (decide (i_1 < (s_1.size:Int))) (.g2 (0≤i_1) (i_1 < (s_1.size:Int))<|.bf (((s_1.data.getD (Int.toNat i_1) 0).toNat:Int) == 83) (.tv (b_2.length = b_2.length) (rfl)<|.lk Ck b_2 fun L1_=>.bd (cS L1_ f.State 1) [] fun r_17=>.lf ((ef r_17 s_1 i_1 f).opt) .normal _<|hh fun _ h=>l0 (rN h)) (.bf (((s_1.data.getD (Int.toNat i_1) 0).toNat:Int) == 80) (.tv (b_2.length = b_2.length) (rfl)<|.lk Ck b_2 fun L2_=>.bd (cS L2_ f.Span.From 3) [] fun r_18=>.tv (r_18.length = r_18.length) (rfl)<|.lk Ck r_18 fun L3_=>.bd (cS L3_ f.Span.To 3) [] fun r_19=>.lf ((ef r_19 s_1 i_1 f).opt) .normal _<|hh fun _ h=>l0 (rN h)) (.bf (((s_1.data.getD (Int.toNat i_1) 0).toNat:Int) == 84) (.tv (b_2.length = b_2.length) (rfl)<|.lk Ck b_2 fun L4_=>.bd (cS L4_ f.Seat 1) [] fun r_20=>.lf ((ef r_20 s_1 i_1 f).opt) .normal _<|hh fun _ h=>l0 (rN h)) (.bf (((s_1.data.getD (Int.toNat i_1) 0).toNat:Int) == 72) (.tv (b_2.length = b_2.length) (rfl)<|.lk Ck b_2 fun L5_=>.bd (cS L5_ f.Share 1) [] fun r_21=>.lf ((ef r_21 s_1 i_1 f).opt) .normal _<|hh fun _ h=>l0 (rN h)) (.bf (((s_1.data.getD (Int.toNat i_1) 0).toNat:Int) == 67) (.tv (b_2.length = b_2.length) (rfl)<|.lk Ck b_2 fun L6_=>.bd (cS L6_ f.Currency 2) [] fun r_22=>.lf ((ef r_22 s_1 i_1 f).opt) .normal _<|hh fun _ h=>l0 (rN h)) (.bf (((s_1.data.getD (Int.toNat i_1) 0).toNat:Int) == 65) (.tv (b_2.length = b_2.length) (rfl)<|.lk Ck b_2 fun L7_=>.bd (cS L7_ f.Amount 4) [] fun r_23=>.lf ((ef r_23 s_1 i_1 f).opt) .normal _<|hh fun _ h=>l0 (rN h)) (.bf (((s_1.data.getD (Int.toNat i_1) 0).toNat:Int) == 82) (.tv (b_2.length = b_2.length) (rfl)<|.lk Ck b_2 fun L8_=>.bd (cS L8_ f.Ref 1) [] fun r_24=>.lf ((ef r_24 s_1 i_1 f).opt) .normal _<|hh fun _ h=>l0 (rN h)) (.lf ((ef b_2 s_1 i_1 f).opt) .normal _<|hh fun _ h=>l0 (rN h))))))))) (.lf (some (Sum.inr b_2)) (.exit 0) (zF ([]:List Int) s_1 f (b_2,i_1))<|hh fun _=>lg (.cn [4]))
theorem ad9 {b_2 s_1 i_1 f}:Ax tP 89 Pu 0 iK (jz b_2 s_1 i_1 f) (aj1 b_2 s_1 i_1 f):=.tD mixed [e94] [1,4,5,6] 3
def uB (b:(List Int)) (s_1:ByteArray) (f:ac) (s:((List Int) × Int)):Option (((List Int) × Int) ⊕ (((List Int)))):=match s with | (b_2,i_1)=>(jz b_2 s_1 i_1 f).opt
theorem acV (b s_1 f s):Pp tP 89 (List.drop 0 Pu) (zF b s_1 f s) (uB b s_1 f s) (cd (zF b s_1 f) (zK b s_1 f)):=fun K h=>match s,h with | (b_2,i_1),h=>(ad9 h)
theorem UK (b s_1 f):∀ r J K,zK b s_1 f r K→zK b s_1 f r (aE J K)
  | s,_,_,h=>h
def Xk (b_4:(List Int)):St:=⟨[sv 4 (.row 0 1 0 b_4.length)],[(Gt 0 5 b_4)],1⟩
def pr (b_4:(List Int)):PT _ (rE P4) iK:=.lf (some b_4) .ret _<|hh fun _=>l0
theorem abs {b_4}:Ax tP 89 qJ 10 iK (pr b_4) (Xk b_4):=.tE mixed [] [2] 2
def aiM (b:(List Int)) (s_1:ByteArray) (f:ac):St:=⟨[sv 1 (.ptr 0 14 0 0),sv 4 (.row 1 1 0 b.length),sv 5 (bc s_1),sv 6 (i64 0)],[(0,some (.bx (aX f))),(Gt 1 5 b)],2⟩
abbrev zB (b:(List Int)) (s_1:ByteArray) (f:ac) (r:(((List Int)))):Option ((List Int)):=match r with | b_3=>((pr b_3).opt)
def CJ (b:(List Int)) (s_1:ByteArray) (f:ac):Option ((List Int)):=(fixL (uB b s_1 f) (b,0)).bind (zB b s_1 f)
theorem acj:List.drop 9 qJ = .block 0 (.loop (ah (ah (aP qJ 9)))) :: List.drop 10 qJ:=by kernel_rfl
theorem anU (b s_1 f K):∀ r,W (zB b s_1 f r) (rE P4 K)→zK b s_1 f r (wK (aZ 0 (aE (au tP 89 (List.drop 10 qJ) K) K)))
  | b_3,h=>⟨(Xk b_3),(.refl _),(abs h)⟩
theorem aiq {b s_1 f K} (h:W (CJ b s_1 f) (rE P4 K)):au tP 89 (List.drop 9 qJ) K (aiM b s_1 f) :=
  au.at_ acj (au.cons_loop (aC.weak (aC.ent (.refl _) (aC.loopF (x:=ah (ah (aP qJ 9))) (f:=uB b s_1 f) (emb:=zF b s_1 f) (E:=zK b s_1 f) (acV b s_1 f) (UK b s_1 f) (bM h (anU b s_1 f K))))))
def ami (gone:Int) (f:ac):St:=⟨[sv 1 (.ptr 0 14 0 0),sv 3 (i64 gone)],[(0,some (.bx (aX f)))],1⟩
def lG (gone:Int) (f:ac):PT _ (rE P4) (dK tP 89 qJ 9 iK):=.bd (cS ([]:List Int) f.Issuer 1) [] fun r_25=>.tv (r_25.length = r_25.length) (rfl)<|.lk Ck r_25 fun L1_=>.bd (cS L1_ f.Number 2) [] fun r_26=>.tv (r_26.length = r_26.length) (rfl)<|.lk Ck r_26 fun L2_=>.bd (cS L2_ f.Version 1) [] fun r_27=>.tv (r_27.length = r_27.length) (rfl)<|.lk Ck r_27 fun L3_=>.bd (cS L3_ gone 1) [] fun r_28=>.tv (r_28.length = r_28.length) (rfl)<|.lk Ck r_28 fun L4_=>.bd (cS L4_ f.Person 1) [] fun r_29=>.tv (r_29.length = r_29.length) (rfl)<|.lk Ck r_29 fun L5_=>.bd (cS L5_ f.Kind 1) [] fun r_30=>.bd (mr f.Kind) (am []) fun r_31=>.lf (CJ r_30 r_31 f) .normal _<|hh fun _ h=>l0 (aiq h)
theorem SS {gone f}:Ax tP 89 qJ 6 iK (lG gone f) (ami gone f):=.tD mixed [KJ,e94] [1,4,5,6] 3
def aj7 (f:ac):St:=⟨[sv 0 (.ag (aX f))],[],0⟩
def ph (f:ac):PT _ (rE P4) (dK tP 89 qJ 6 iK):=.bd (eW f) false fun r_32=>.bf (!r_32) (.lf (some ([]:List Int)) .ret (⟨[sv 1 (.ptr 0 14 0 0),sv 2 (.c .nil)],[(0,some (.bx (aX f)))],1⟩)<|hh fun _=>lg (.trans (.nilrow 2 1 5 1 (aV l6 (0:Int) []) (Nat.le_of_ble_eq_true rfl) rfl) (.cn [2]))) (.bf f.Withdrawn (.lf ((lG 1 f).opt) .normal _<|hh fun _ h=>lz (SS h) [1,3] [] [sv 2 (.c .nil)]) (.lf ((lG 0 f).opt) .normal _<|hh fun _ h=>lz (SS h) [1,3] [] [sv 2 (.c .nil)]))
theorem aff {f}:Ax tP 89 qJ 0 iK (ph f) (aj7 f):=.tD mixed [e51] [1,2,3] 6
def dy (f:ac):Option ((List Int)):=(ph f).opt
def Ge:bW:=dH wz dy ([]:List Int) Mv
theorem Nq:bg tP 73 Ge:=cJ Tryz.f73 (ao Tryz.f73) [.tmp 2] 89 fun u0 y h=>@aff u0 _ (bn.2 ⟨y,h,(cx (.row 0 1 0 y.length) (⟨_,_,_,rfl,rfl,rfl,fun _ _=>rfl,fun _ i hi d hd=>NH _ d hd⟩))⟩)
abbrev e73:FE tP:=⟨73, .pure Ge,Nq⟩
noncomputable def apJ:List Code:=aA (ao Tryz.f53)
def MW (x_1:Bool):bN:=.data (bl x_1)
def PQ (x_1:Bool):St:=⟨[sv 4 (bl x_1)],[],0⟩
def amb (a b:ac):St:=⟨[sv 0 (.ag (aX a)),sv 1 (.ag (aX b))],[],0⟩
def qL (a b:ac):Option (Bool):=(eW a).bind fun r_5=>(gd (((!(!r_5))&&true) = true→(eW b).isSome = true) ((bif (bif (!r_5) then true else (!((eW b).getD false))) then (some false) else (jC a b).bind fun r_6=>((bif (r_6 != 0) then (some (decide (r_6 < 0))) else (bif (a.Version != b.Version) then (some (decide (a.Version < b.Version))) else (dy a).bind fun r_7=>((dy b).bind fun r_8=>((some (Op.bytesLess (ol r_7).toList (ol r_8).toList))))))))))
theorem agb {a b K} (h:W (qL a b) (rE PQ K)):au tP 38 (List.drop 0 apJ) K (amb a b) :=
  au.qE mixed [e51,e52,e73] [4] 0 10 (.nx2 (a1:=lst nP ((((dy a).getD [])).length) (fun i=>(Q1 ((dy a).getD [])) (0+i))) (a2:=lst nP ((((dy b).getD [])).length) (fun i=>(Q1 ((dy b).getD [])) (0+i))) (lr nb (ae.zero .b)) (lr nb (ae.zero .b)) (fun L1_ L2_ K=>let a1_:=(dy a).getD []; let a2_:=(dy b).getD []; let a3_:=!((eW a).getD false); ((eW a).isSome = true)∧(((!a3_)&&true) = true→(eW b).isSome = true)∧((bif (bif a3_ then true else (!((eW b).getD false))) then wK K .ret (PQ false) else ((jC a b).isSome = true)∧((bif (((jC a b).getD 0) != 0) then wK K .ret (PQ (decide (((jC a b).getD 0) < 0))) else (bif (a.Version != b.Version) then wK K .ret (PQ (decide (a.Version < b.Version))) else ((dy a).isSome = true)∧((0 < (a1_).length→1 = 1))∧((∀ i,i < (a1_).length→(fun i=>(Q1 a1_) (0+i)) i = l6 (nP ((fun i=>(Q1 a1_) (0+i)) i))))∧((dy b).isSome = true)∧((0 < (a2_).length→1 = 1))∧((∀ i,i < (a2_).length→(fun i=>(Q1 a2_) (0+i)) i = l6 (nP ((fun i=>(Q1 a2_) (0+i)) i))))∧(wK K .ret (PQ (Op.bytesLess (ol L1_).toList (ol L2_).toList))))))))) (Vz false h (fun _=>(w1 (wB l0 (wN 0 (wB l0 (wB l0 (wN [] (wC (ae.ok (k:=1) nb (ae.zero (ae.ls l6 (0:Int) ((dy a).getD [])))).1 (wC (aK.eq (ae.ok (k:=1) nb (ae.zero (ae.ls l6 (0:Int) ((dy a).getD [])))) fun _=>rfl) (wN [] (wC (ae.ok (k:=1) nb (ae.zero (ae.ls l6 (0:Int) ((dy b).getD [])))).1 (wC (aK.eq (ae.ok (k:=1) nb (ae.zero (ae.ls l6 (0:Int) ((dy b).getD [])))) fun _=>rfl) l0))))))))))))))
def EF (a b:ac):Option (Bool):=qL a b
def GS:bW:=fj wz wz EF false MW
theorem O4:bg tP 53 GS:=dv Tryz.f53 (ao Tryz.f53) [.tmp 4] 38 fun u0 u1 y h=>@agb u0 u1 _ (bn.2 ⟨y,h,(cx (bl y) (VLe.rfl' _))⟩)
abbrev SM:FE tP:=⟨53, .pure GS,O4⟩
end
end Go.Ax
