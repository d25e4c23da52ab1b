import Derived.Test.YtnnblpijaoocaaaGreatZP12
set_option linter.all false
/- What the states claim, by the program and by the document. -/
set_option maxRecDepth 100000
namespace Go.Ax
theorem xf (l:List GSpan) (s:GSpan):(iM l s).length≤l.length+1:=by
 have h1:=(kI l).2.2
 have h2:(gY [s]).length≤1:=(kI [s]).2.2
 have key:∀ (a b:List GSpan),(ew a b).length≤a.length+b.length:=by
  intro a b
  induction a,b using ew.induct with
  | case1 b=>rw [nC];simp
  | case2 s r=>rw [md];simp
  | case3 s r t u ih1 ih2 =>
   have:=FY s t
   rw [mg,List.length_append]
   split
   ·simp only [List.length_cons] at ih1 ⊢; omega
   ·simp only [List.length_cons] at ih2 ⊢; omega
 have:=key (gY l) (gY [s])
 unfold iM
 omega
end Go.Ax
