import Derived.Test.YtnnblpijaoocaaaGreatXP12
set_option linter.all false
/- What the states claim, by the program and by the document. -/
set_option maxRecDepth 100000
namespace Go.Ax
theorem wJ (l:List GSpan) (s:GSpan):(ik l s).length≤l.length+1:=by
 have h1:=(lP l).2.2
 have h2:(ii [s]).length≤1:=(lP [s]).2.2
 have key:∀ (a b:List GSpan),(eW a b).length≤a.length+b.length:=by
  intro a b
  induction a,b using eW.induct with
  | case1 b=>rw [oz];simp
  | case2 s r=>rw [mE];simp
  | case3 s r t u ih1 ih2 =>
   have:=Hl s t
   rw [mx,List.length_append]
   split
   ·simp only [List.length_cons] at ih1 ⊢; omega
   ·simp only [List.length_cons] at ih2 ⊢; omega
 have:=key (ii l) (ii [s])
 unfold ik
 omega
end Go.Ax
