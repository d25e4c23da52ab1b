import Derived.Test.YtgamnldjlncdlaaGreatZL150
set_option linter.all false
/- Facts of functions of the program: what they compute. -/
set_option maxRecDepth 100000
namespace Go.Ax
open Go.Proofs
theorem ail {n:Nat} (h:n≤1000001):AT n 112:=⟨by omega,by omega⟩
theorem GY (p:ae→Bool):∀ (l out:List ae),l.foldl (fun out f=>if p f = true then out++[f] else out) out = out++l.filter p
  | [],out=>by simp
  | f :: l,out=>by
    rw [List.foldl_cons,GY p l,List.filter_cons]
    by_cases h:p f = true
    · rw [if_pos h,if_pos h]; simp
    · rw [if_neg h,if_neg h]
theorem Ie {F:List ae × Int→Option ((List ae × Int) ⊕ List ae)} (l:List ae) (p:ae→Bool) (hn:l.length≤1000000)
    (hs:∀ i (hi:i < l.length) (out:List ae),out.length≤i→F (out,(i:Int)) = some (.inl (if p l[i] = true then out++[l[i]] else out,((i+1:Nat):Int))))
    (he:∀ out,F (out,(l.length:Int)) = some (.inr out)):fixL F ([],(0:Int)) = some (l.filter p):=by
  have:=DS (f:=F) l (fun i out=>(out,(i:Int))) (fun i out=>out.length≤i) (fun f out=>.inl (if p f = true then out++[f] else out)) id [] (by simp) (fun i hi out h=>hs i hi out h)
    (fun i hi out out' h e=>by
      cases e
      split
      · simp; omega
      · omega)
    (fun out _=>he out)
  rw [Am,GY] at this
  simpa using this
def cr (f:ae):Bool:=jH f&&!f.Withdrawn
theorem pH (f:ae):lj f = some (cr f):=by
  show (kQ f).opt = _
  simp only [kQ,oT]
  rw [NL,Option.bind_some]
  unfold cr
  cases jH f <;> rfl
theorem qH (l:List ae) (hn:l.length≤1000000):iY l = some (l.filter cr):=by
  show (fixL (mv l) ([],(0:Int))).bind _ = _
  rw [Ie l cr hn (fun i hi out ho=>?_) (fun out=>?_)]
  · rfl
  · show (ip l out (i:Int)).opt = _
    simp only [ip,oT]
    rw [dH hi,cond_true,aE (bQ hi),eL l _ i hi,lG,Option.bind_some,aE (by intro _; omega),aE (by intro _; omega),aE (bQ hi),aE (ail (by omega)),cP (by omega)]
    unfold cr
    cases jH l[i] <;> cases l[i].Withdrawn <;> rfl
  · show (ip l out (l.length:Int)).opt = _
    simp only [ip,oT]
    rw [cu]
    rfl
def PP (kind:Int) (f:ae) (a:Int × Bool):Int × Bool:=if (f.Kind == kind&&(!a.2||decide (f.Span.From < a.1))) = true then (f.Span.From,true) else a
def gb (l:List ae) (kind:Int):Int × Bool:=(l.filter cr).foldl (fun a f=>PP kind f a) (0,false)
theorem wI {A:Type} (p:ae→Bool) (g:A→ae→A):∀ (l:List ae) (a:A),(l.filter p).foldl g a = l.foldl (fun a f=>if p f = true then g a f else a) a
  | [],_=>rfl
  | f :: l,a=>by
    rw [List.filter_cons,List.foldl_cons]
    by_cases h:p f = true
    · rw [if_pos h,if_pos h,List.foldl_cons,wI p g l]
    · rw [if_neg h,if_neg h,wI p g l]
theorem Ak (l:List ae) (kind:Int) (hn:l.length≤1000000):rO l kind = some (gb l kind):=by
  show (fixL (ky kind l) ((0:Int),false,(0:Int))).bind _ = _
  have:=DS (f:=ky kind l) l (fun i (a:Int × Bool)=>(a.1,a.2,(i:Int))) (fun _ _=>True) (fun f a=>.inl (if cr f = true then PP kind f a else a)) id (0,false) trivial (fun i hi a _=>?_) (fun _ _ _ _ _ _=>trivial) (fun a _=>?_)
  · rw [Am] at this
    rw [show ((0:Int),false,(0:Int)) = (((0:Int),false).1,((0:Int),false).2,((0:Nat):Int)) from rfl,this,Option.bind_some]
    unfold gb
    rw [wI]
    rfl
  · show (iO kind a.1 a.2 l (i:Int)).opt = _
    simp only [iO,oT]
    rw [dH hi,cond_true,aE (bQ hi),eL l _ i hi,pH,Option.bind_some,cP (by omega)]
    unfold PP
    cases cr l[i] with
    | false=>rfl
    | true =>
      simp only [cond_true,if_true,fh,m3]
      cases (l[i].Kind == kind&&(!a.2||decide (l[i].Span.From < a.1))) <;> rfl
  · show (iO kind a.1 a.2 l (l.length:Int)).opt = _
    simp only [iO,oT]
    rw [cu]
    rfl
theorem Co (l:List ae) (kind:Int) (hn:l.length≤1000000):uR l kind = some (gb l kind):=by
  show (iY l).bind _ = _
  rw [qH l hn,Option.bind_some]
  have hc:(l.filter cr).length≤l.length:=List.length_filter_le _ _
  unfold gb
  generalize l.filter cr = c at hc
  show (fixL (li kind c) ((0:Int),false,(0:Int))).bind _ = _
  have:=DS (f:=li kind c) c (fun i (a:Int × Bool)=>(a.1,a.2,(i:Int))) (fun _ _=>True) (fun f a=>.inl (PP kind f a)) id (0,false) trivial (fun i hi a _=>?_) (fun _ _ _ _ _ _=>trivial) (fun a _=>?_)
  · rw [Am] at this
    rw [show ((0:Int),false,(0:Int)) = (((0:Int),false).1,((0:Int),false).2,((0:Nat):Int)) from rfl,this,Option.bind_some]
    rfl
  · show (jw kind c a.1 a.2 (i:Int)).opt = _
    simp only [jw,oT]
    rw [dH hi,cond_true,aE (bQ hi),fX c _ i hi,aE (by intro _; omega),aE (by intro _; omega),aE (bQ hi),cP (by omega)]
    unfold PP
    simp only [fh,m3]
    cases (c[i].Kind == kind&&(!a.2||decide (c[i].Span.From < a.1))) <;> rfl
  · show (jw kind c a.1 a.2 (c.length:Int)).opt = _
    simp only [jw,oT]
    rw [cu]
    rfl
def fq (l:List ae):ab :=
  let d:=if (gb l 12).2 then (gb l 12).1 else 73048
  if d < (gb l 11).1 then ⟨0,0⟩ else ⟨(gb l 11).1,ai (d+1)⟩
theorem KB (l:List ae) (hn:l.length≤1000000):yk l = some (gb l 11):=by
  show (ng l).opt = _
  simp only [ng,oT]
  rw [Ak l 11 hn]; rfl
theorem KQ (l:List ae) (hn:l.length≤1000000):ye l = some (gb l 12):=by
  show (np l).opt = _
  simp only [np,oT]
  rw [Ak l 12 hn]; rfl
theorem Lh (l:List ae) (hn:l.length≤1000000):AX l = some (gb l 11):=by
  show (oH l).opt = _
  simp only [oH,oT]
  rw [Co l 11 hn]; rfl
theorem L6 (l:List ae) (hn:l.length≤1000000):AP l = some (gb l 12):=by
  show (oK l).opt = _
  simp only [oK,oT]
  rw [Co l 12 hn]; rfl
theorem CF (l:List ae) (hn:l.length≤1000000):pP l = some (fq l):=by
  show (oW l).opt = _
  simp only [oW,oT]; simp only [oX,oT]; unfold fq
  rw [KB l hn,Option.bind_some,KQ l hn,Option.bind_some]
  cases (gb l 12).2 with
  | false =>
    simp only [Bool.not_false,cond_true]
    by_cases h:73048 < (gb l 11).1
    · simp [h]
    · simp [h]
  | true =>
    simp only [Bool.not_true,cond_false,if_true]
    by_cases h:(gb l 12).1 < (gb l 11).1
    · simp [h]
    · simp [h]
theorem Nl (l:List ae) (hn:l.length≤1000000):xe l = some (fq l):=by
  show (qw l).opt = _
  simp only [qw,oT]; simp only [qk,oT]; unfold fq
  rw [Lh l hn,Option.bind_some,L6 l hn,Option.bind_some]
  cases (gb l 12).2 with
  | false =>
    simp only [Bool.not_false,cond_true]
    by_cases h:73048 < (gb l 11).1
    · simp [h]
    · simp [h]
  | true =>
    simp only [Bool.not_true,cond_false,if_true]
    by_cases h:(gb l 12).1 < (gb l 11).1
    · simp [h]
    · simp [h]
theorem HL (l:List ae) (hn:l.length≤1000000):tQ l = some (l.filter cr):=by
  show (eG l).bind _ = _
  have:eG l = some (l.filter cr):=by
    show (fixL (gx l) ([],(0:Int))).bind _ = _
    rw [Ie l cr hn (fun i hi out ho=>?_) (fun out=>?_)]
    · rfl
    · show (dR out l (i:Int)).opt = _
      simp only [dR,oT]
      rw [dH hi,cond_true,aE (bQ hi),eL l _ i hi,pH,Option.bind_some,aE (ail (by omega)),cP (by omega)]
      cases cr l[i] <;> rfl
    · show (dR out l (l.length:Int)).opt = _
      simp only [dR,oT]
      rw [cu]
      rfl
  rw [this]
  rfl
end Go.Ax
