import Derived.Test.YtnnblpijaoocaaaGreatYP12
set_option linter.all false
/- The document's law ends: its spans are few. -/
set_option maxRecDepth 100000
namespace Go.Ax
def OM (c:List GFact):Prop:=c.length≤30∧∀ f∈c,cX f = true
section
variable {l c:List GFact} (hl:l.length≤30) (hc:OM c)
include hc
end
end Go.Ax
set_option linter.all false
/- The document's law ends: its spans are few. -/
set_option maxRecDepth 100000
namespace Go.Ax
section
variable {l c:List GFact} (hl:l.length≤30) (hc:OM c)
include hl hc
end
theorem uW (l:List GSpan) (s:GSpan):(iO l s).length≤l.length+1:=by
  have h1:=(jY l).2.2
  have h2:(fQ [s]).length≤1:=(jY [s]).2.2
  have key:∀ (a b:List GSpan),(dD a b).length≤a.length+b.length:=by
    intro a b
    induction a,b using dD.induct with
    | case1 b=>rw [mr]; simp
    | case2 s r=>rw [kU]; simp
    | case3 s r t u ih1 ih2 =>
      have:=Db s t
      rw [kS,List.length_append]
      split
      · simp only [List.length_cons] at ih1 ⊢; omega
      · simp only [List.length_cons] at ih2 ⊢; omega
  have:=key (fQ l) (fQ [s])
  unfold iO
  omega
end Go.Ax
