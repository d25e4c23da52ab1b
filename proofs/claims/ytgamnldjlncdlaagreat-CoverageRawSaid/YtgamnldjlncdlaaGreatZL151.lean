import Derived.Test.YtgamnldjlncdlaaGreatZL150
set_option linter.all false
/- Facts of functions of the program: what they compute. -/
set_option maxRecDepth 100000
namespace Go.Ax
open Go.Proofs
theorem anF {n:Nat} (h:n≤1000001):zb n 112:=⟨by omega,by omega⟩
theorem Hr (p:ac→Bool):∀ (l out:List ac),l.foldl (fun out f=>if p f = true then out++[f] else out) out = out++l.filter p
  | [],out=>by simp
  | f :: l,out=>by
    rw [List.foldl_cons,Hr p l,List.filter_cons]
    by_cases h:p f = true
    · rw [if_pos h,if_pos h]; simp
    · rw [if_neg h,if_neg h]
theorem Jc {F:List ac × Int→Option ((List ac × Int) ⊕ List ac)} (l:List ac) (p:ac→Bool) (hn:l.length≤1000000)
    (hs:∀ i (hi:i < l.length) (out:List ac),out.length≤i→F (out,(i:Int)) = some (.inl (if p l[i] = true then out++[l[i]] else out,((i+1:Nat):Int))))
    (he:∀ out,F (out,(l.length:Int)) = some (.inr out)):fixL F ([],(0:Int)) = some (l.filter p):=by
  have:=Eu (f:=F) l (fun i out=>(out,(i:Int))) (fun i out=>out.length≤i) (fun f out=>.inl (if p f = true then out++[f] else out)) id [] (by simp) (fun i hi out h=>hs i hi out h)
    (fun i hi out out' h e=>by
      cases e
      split
      · simp; omega
      · omega)
    (fun out _=>he out)
  rw [zZ,Hr] at this
  simpa using this
def cD (f:ac):Bool:=jJ f&&!f.Withdrawn
theorem pR (f:ac):lA f = some (cD f):=by
  show (kX f).opt = _
  simp only [kX,oT]
  rw [OD,Option.bind_some]
  unfold cD
  cases jJ f <;> rfl
theorem qT (l:List ac) (hn:l.length≤1000000):iR l = some (l.filter cD):=by
  show (fixL (mv l) ([],(0:Int))).bind _ = _
  rw [Jc l cD hn (fun i hi out ho=>?_) (fun out=>?_)]
  · rfl
  · show (ic l out (i:Int)).opt = _
    simp only [ic,oT]
    rw [dg hi,cond_true,aD (bJ hi),er l _ i hi,lq,Option.bind_some,aD (by intro _; omega),aD (by intro _; omega),aD (bJ hi),aD (anF (by omega)),cF (by omega)]
    unfold cD
    cases jJ l[i] <;> cases l[i].Withdrawn <;> rfl
  · show (ic l out (l.length:Int)).opt = _
    simp only [ic,oT]
    rw [cl]
    rfl
def RB (kind:Int) (f:ac) (a:Int × Bool):Int × Bool:=if (f.Kind == kind&&(!a.2||decide (f.Span.From < a.1))) = true then (f.Span.From,true) else a
def fQ (l:List ac) (kind:Int):Int × Bool:=(l.filter cD).foldl (fun a f=>RB kind f a) (0,false)
theorem xa {A:Type} (p:ac→Bool) (g:A→ac→A):∀ (l:List ac) (a:A),(l.filter p).foldl g a = l.foldl (fun a f=>if p f = true then g a f else a) a
  | [],_=>rfl
  | f :: l,a=>by
    rw [List.filter_cons,List.foldl_cons]
    by_cases h:p f = true
    · rw [if_pos h,if_pos h,List.foldl_cons,xa p g l]
    · rw [if_neg h,if_neg h,xa p g l]
theorem Ap (l:List ac) (kind:Int) (hn:l.length≤1000000):sC l kind = some (fQ l kind):=by
  show (fixL (kD kind l) ((0:Int),false,(0:Int))).bind _ = _
  have:=Eu (f:=kD kind l) l (fun i (a:Int × Bool)=>(a.1,a.2,(i:Int))) (fun _ _=>True) (fun f a=>.inl (if cD f = true then RB kind f a else a)) id (0,false) trivial (fun i hi a _=>?_) (fun _ _ _ _ _ _=>trivial) (fun a _=>?_)
  · rw [zZ] at this
    rw [show ((0:Int),false,(0:Int)) = (((0:Int),false).1,((0:Int),false).2,((0:Nat):Int)) from rfl,this,Option.bind_some]
    unfold fQ
    rw [xa]
    rfl
  · show (iL kind a.1 a.2 l (i:Int)).opt = _
    simp only [iL,oT]
    rw [dg hi,cond_true,aD (bJ hi),er l _ i hi,pR,Option.bind_some,cF (by omega)]
    unfold RB
    cases cD l[i] with
    | false=>rfl
    | true =>
      simp only [cond_true,if_true,dV,lQ]
      cases (l[i].Kind == kind&&(!a.2||decide (l[i].Span.From < a.1))) <;> rfl
  · show (iL kind a.1 a.2 l (l.length:Int)).opt = _
    simp only [iL,oT]
    rw [cl]
    rfl
theorem D0 (l:List ac) (kind:Int) (hn:l.length≤1000000):vK l kind = some (fQ l kind):=by
  show (iR l).bind _ = _
  rw [qT l hn,Option.bind_some]
  have hc:(l.filter cD).length≤l.length:=List.length_filter_le _ _
  unfold fQ
  generalize l.filter cD = c at hc
  show (fixL (lV kind c) ((0:Int),false,(0:Int))).bind _ = _
  have:=Eu (f:=lV kind c) c (fun i (a:Int × Bool)=>(a.1,a.2,(i:Int))) (fun _ _=>True) (fun f a=>.inl (RB kind f a)) id (0,false) trivial (fun i hi a _=>?_) (fun _ _ _ _ _ _=>trivial) (fun a _=>?_)
  · rw [zZ] at this
    rw [show ((0:Int),false,(0:Int)) = (((0:Int),false).1,((0:Int),false).2,((0:Nat):Int)) from rfl,this,Option.bind_some]
    rfl
  · show (ju kind c a.1 a.2 (i:Int)).opt = _
    simp only [ju,oT]
    rw [dg hi,cond_true,aD (bJ hi),fp c _ i hi,aD (by intro _; omega),aD (by intro _; omega),aD (bJ hi),cF (by omega)]
    unfold RB
    simp only [dV,lQ]
    cases (c[i].Kind == kind&&(!a.2||decide (c[i].Span.From < a.1))) <;> rfl
  · show (ju kind c a.1 a.2 (c.length:Int)).opt = _
    simp only [ju,oT]
    rw [cl]
    rfl
def gu (l:List ac):ab :=
  let d:=if (fQ l 12).2 then (fQ l 12).1 else 73048
  if d < (fQ l 11).1 then ⟨0,0⟩ else ⟨(fQ l 11).1,ai (d+1)⟩
theorem Lz (l:List ac) (hn:l.length≤1000000):zI l = some (fQ l 11):=by
  show (nS l).opt = _
  simp only [nS,oT]
  rw [Ap l 11 hn]; rfl
theorem Ma (l:List ac) (hn:l.length≤1000000):zn l = some (fQ l 12):=by
  show (nN l).opt = _
  simp only [nN,oT]
  rw [Ap l 12 hn]; rfl
theorem Nw (l:List ac) (hn:l.length≤1000000):BC l = some (fQ l 11):=by
  show (pc l).opt = _
  simp only [pc,oT]
  rw [D0 l 11 hn]; rfl
theorem MA (l:List ac) (hn:l.length≤1000000):BI l = some (fQ l 12):=by
  show (pj l).opt = _
  simp only [pj,oT]
  rw [D0 l 12 hn]; rfl
theorem DI (l:List ac) (hn:l.length≤1000000):qi l = some (gu l):=by
  show (po l).opt = _
  simp only [po,oT]; simp only [oZ,oT]; unfold gu
  rw [Lz l hn,Option.bind_some,Ma l hn,Option.bind_some]
  cases (fQ l 12).2 with
  | false =>
    simp only [Bool.not_false,cond_true]
    by_cases h:73048 < (fQ l 11).1
    · simp [h]
    · simp [h]
  | true =>
    simp only [Bool.not_true,cond_false,if_true]
    by_cases h:(fQ l 12).1 < (fQ l 11).1
    · simp [h]
    · simp [h]
theorem FC (l:List ac) (hn:l.length≤1000000):tk l = some (gu l):=by
  show (qN l).opt = _
  simp only [qN,oT]; simp only [qy,oT]; unfold gu
  rw [Nw l hn,Option.bind_some,MA l hn,Option.bind_some]
  cases (fQ l 12).2 with
  | false =>
    simp only [Bool.not_false,cond_true]
    by_cases h:73048 < (fQ l 11).1
    · simp [h]
    · simp [h]
  | true =>
    simp only [Bool.not_true,cond_false,if_true]
    by_cases h:(fQ l 12).1 < (fQ l 11).1
    · simp [h]
    · simp [h]
theorem IN (l:List ac) (hn:l.length≤1000000):tV l = some (l.filter cD):=by
  show (eF l).bind _ = _
  have:eF l = some (l.filter cD):=by
    show (fixL (gf l) ([],(0:Int))).bind _ = _
    rw [Jc l cD hn (fun i hi out ho=>?_) (fun out=>?_)]
    · rfl
    · show (dO out l (i:Int)).opt = _
      simp only [dO,oT]
      rw [dg hi,cond_true,aD (bJ hi),er l _ i hi,pR,Option.bind_some,aD (anF (by omega)),cF (by omega)]
      cases cD l[i] <;> rfl
    · show (dO out l (l.length:Int)).opt = _
      simp only [dO,oT]
      rw [cl]
      rfl
  rw [this]
  rfl
end Go.Ax
