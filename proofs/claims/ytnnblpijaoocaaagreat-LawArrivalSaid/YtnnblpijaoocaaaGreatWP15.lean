import Derived.Test.YtnnblpijaoocaaaGreatWP12
set_option linter.all false
/- The document's law ends: its spans are few. -/
set_option maxRecDepth 100000
namespace Go.Ax
def PD (c:List GFact):Prop:=c.length≤30∧∀ f∈c,cb f = true
section
variable {l c:List GFact} (hl:l.length≤30) (hc:PD c)
include hc
end
end Go.Ax
set_option linter.all false
/- The document's law ends: its spans are few. -/
set_option maxRecDepth 100000
namespace Go.Ax
section
variable {l c:List GFact} (hl:l.length≤30) (hc:PD c)
include hl hc
set_option maxHeartbeats 2000000 in
set_option maxHeartbeats 2000000 in
end
theorem Az (l:List GSpan) (s:GSpan):(gW l s).length≤l.length+1:=by
 have h1:=(ko l).2.2
 have h2:(gv [s]).length≤1:=(ko [s]).2.2
 have key:∀ (a b:List GSpan),(dN a b).length≤a.length+b.length:=by
  intro a b
  induction a,b using dN.induct with
  | case1 b=>rw [my];simp
  | case2 s r=>rw [ln];simp
  | case3 s r t u ih1 ih2 =>
   have:=Es s t
   rw [lr,List.length_append]
   split
   ·simp only [List.length_cons] at ih1 ⊢; omega
   ·simp only [List.length_cons] at ih2 ⊢; omega
 have:=key (gv l) (gv [s])
 unfold gW
 omega
end Go.Ax
