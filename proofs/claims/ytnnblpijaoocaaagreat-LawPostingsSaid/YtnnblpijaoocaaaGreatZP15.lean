import Derived.Test.YtnnblpijaoocaaaGreatZP12
set_option linter.all false
/- The document's law ends: its spans are few. -/
set_option maxRecDepth 100000
namespace Go.Ax
def H2 (c:List GFact):Prop:=c.length≤30∧∀ f∈c,dT f = true
section
variable {l c:List GFact} (hl:l.length≤30) (hc:H2 c)
include hc
end
end Go.Ax
set_option linter.all false
/- The document's law ends: its spans are few. -/
set_option maxRecDepth 100000
namespace Go.Ax
section
variable {l c:List GFact} (hl:l.length≤30) (hc:H2 c)
include hl hc
end
theorem pe (l:List GSpan) (s:GSpan):(fV l s).length≤l.length+1:=by
  have h1:=(gU l).2.2
  have h2:(eo [s]).length≤1:=(gU [s]).2.2
  have key:∀ (a b:List GSpan),(cX a b).length≤a.length+b.length:=by
    intro a b
    induction a,b using cX.induct with
    | case1 b=>rw [j7]; simp
    | case2 s r=>rw [iW]; simp
    | case3 s r t u ih1 ih2 =>
      have:=xU s t
      rw [iU,List.length_append]
      split
      · simp only [List.length_cons] at ih1 ⊢; omega
      · simp only [List.length_cons] at ih2 ⊢; omega
  have:=key (eo l) (eo [s])
  unfold fV
  omega
end Go.Ax
