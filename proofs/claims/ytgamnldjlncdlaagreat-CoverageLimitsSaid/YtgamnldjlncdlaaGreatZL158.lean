import Derived.Test.YtgamnldjlncdlaaGreatZL157
set_option linter.all false
/- The days under a law, credits, ranks; the claims of one state. -/
set_option maxRecDepth 100000
namespace Go.Ax
open Go.Proofs
def G2 (state rule:Int) (x:aZ):Bool:=(x.State == state)&&decide (x.Rule≤rule)
def pN (law:List aZ) (state rule:Int):List ab:=(law.filter (G2 state rule)).map aZ.Span
theorem nD {T A:Type} (p:T→Bool) (g:T→A):∀ l:List T,(l.filter p).map g = l.flatMap fun x=>if p x then [g x] else []
  | []=>rfl
  | x :: r=>by
    rw [List.filter_cons,List.flatMap_cons, ← nD p g r]
    split <;> simp
theorem JP (law:List aZ) (s r:Int):(pN law s r).length≤law.length:=by
  unfold pN
  rw [List.length_map]
  exact List.length_filter_le _ _
theorem Pb {A:Type} (b:Bool) (x:A):(if b = true then [x] else []).length≤1:=by split <;> simp
theorem Q2 (law:List aZ) (s r:Int) (hl:law.length≤1000000):fixL (ic s r law) (([]:List ab),(0:Int)) = some (pN law s r):=by
  unfold pN
  rw [nD]
  refine qP law (fun x=>if G2 s r x = true then [x.Span] else []) (fun out i=>(out,(i:Int))) (fun out=>out) 1 (fun x _=>Pb _ _) (fun i hi out ho=>?_) (fun out ho=>?_)
  · show (fC s r out law (i:Int)).opt = _
    simp only [fC,oT]
    rw [dH hi,cond_true,aE (bQ hi),eL law _ i hi,fh,cP (by omega)]
    cases h:G2 s r law[i] with
    | true=>unfold G2 at h; rw [h,cond_true,aE (pz (by omega))]; rfl
    | false=>unfold G2 at h; rw [h,cond_false]; simp
  · show (fC s r out law ((law.length:Nat):Int)).opt = _
    simp only [fC,oT]
    rw [cu,cond_false]
theorem Fs (law:List aZ) (s r:Int) (hl:law.length≤100000):qM law s r = some (cy (pN law s r)):=by
  show (fixL (ic s r law) (([]:List ab),(0:Int))).bind _ = _
  rw [Q2 law s r (by omega),Option.bind_some]
  show (jR (pN law s r)).opt = _
  have:=JP law s r
  simp only [jR,oT]
  rw [mG _ (by omega)]
  rfl
def du (kind:Int):List ap→Int × Bool
  | []=>(0,false)
  | c :: r=>if c.Kind = kind then (c.Limit,true) else du kind r
theorem TU (l:List ap) (k:Int) (hl:l.length≤1000000):∀ (n i:Nat),l.length = i+n →
    (fixL (bs l k) (i:Int) = some (.inr ())∧du k (l.drop i) = (0,false)) ∨
    ∃ j:Nat, ∃ h:j < l.length,fixL (bs l k) (i:Int) = some (.inl (j:Int))∧du k (l.drop i) = (l[j].Limit,true):=by
  intro n
  induction n with
  | zero =>
    intro i h
    have:i = l.length:=by omega
    subst this
    left
    refine ⟨?_,by rw [List.drop_length]; rfl⟩
    rw [bS]
    show ((bO l k ((l.length:Nat):Int)).opt).bind _ = _
    simp only [bO,oT]
    rw [cu,cond_false]
    rfl
  | succ n ih =>
    intro i h
    have hi:i < l.length:=by omega
    have e:fixL (bs l k) (i:Int) = if l[i].Kind = k then some (.inl (i:Int)) else fixL (bs l k) ((i+1:Nat):Int):=by
      rw [bS]
      show ((bO l k (i:Int)).opt).bind _ = _
      simp only [bO,oT]
      rw [dH hi,cond_true,aE (bQ hi),eL l _ i hi,show jD l[i] k = some (l[i].Kind == k) from rfl,Option.bind_some,cP (by omega)]
      by_cases hk:l[i].Kind = k
      · rw [if_pos hk,show (l[i].Kind == k) = true by simp [hk]]; rfl
      · rw [if_neg hk,show (l[i].Kind == k) = false by simp [hk]]; rfl
    rw [e,List.drop_eq_getElem_cons hi,du]
    by_cases hk:l[i].Kind = k
    · right
      exact ⟨i,hi,by rw [if_pos hk],by rw [if_pos hk]⟩
    · rw [if_neg hk,if_neg hk]
      exact ih (i+1) (by omega)
theorem HB (v:az) (k:Int) (hl:v.Credits.length≤1000000):tO v k = some (du k v.Credits):=by
  show (lh v k).opt = _
  simp only [lh,oT]
  rcases TU v.Credits k hl v.Credits.length 0 (by omega) with ⟨h1,h2⟩ | ⟨j,hj,h1,h2⟩
  · have:bW v.Credits k = some (-1):=by
      show (fixL (bs v.Credits k) (0:Int)).bind _ = _
      rw [show (0:Int) = ((0:Nat):Int) from rfl,h1]; rfl
    rw [List.drop_zero] at h2
    rw [this,h2]; rfl
  · have:bW v.Credits k = some (j:Int):=by
      show (fixL (bs v.Credits k) (0:Int)).bind _ = _
      rw [show (0:Int) = ((0:Nat):Int) from rfl,h1]; rfl
    rw [List.drop_zero] at h2
    rw [this,h2,Option.bind_some,show decide ((j:Int) < 0) = false by simp,cond_false,aE (bQ hj),eL v.Credits _ j hj]
end Go.Ax
