import Derived.Test.YtnnblpijaoocaaaGreatZP12
set_option linter.all false
/- What the states claim, by the program and by the document. -/
set_option maxRecDepth 100000
namespace Go.Ax
theorem Fi (l:List GSpan) (s:GSpan):(oU l s).length≤l.length+1:=by
  have h1:=(io l).2.2
  have h2:(eF [s]).length≤1:=(io [s]).2.2
  have key:∀ (a b:List GSpan),(ed a b).length≤a.length+b.length:=by
    intro a b
    induction a,b using ed.induct with
    | case1 b=>rw [oS]; simp
    | case2 s r=>rw [m7]; simp
    | case3 s r t u ih1 ih2 =>
      have:=Ih s t
      rw [m8,List.length_append]
      split
      · simp only [List.length_cons] at ih1 ⊢; omega
      · simp only [List.length_cons] at ih2 ⊢; omega
  have:=key (eF l) (eF [s])
  unfold oU
  omega
end Go.Ax
