import Derived.Test.YtbjfcadcipfolaaGreatYP65
set_option linter.all false
/- What one feed adds of what the other one sends;forged chains agree after two exchanges. -/
set_option maxRecDepth 100000
namespace Go.Ax
def He (K:ay) (s:Int) (a:Nat):Prop:=∀ n:Int,(K s n).isSome = true↔1≤n∧n≤(a:Int)
theorem O5 {T:Type} {o:Option T} (h:¬ o.isSome = true):o = none:=by
 cases o with
 | none=>rfl
 | some x=>exact absurd rfl h
theorem He.pre {K:ay} {s:Int} {a:Nat} (h:He K s a) (hK:bL K):dU K s = a :=
 FW hK s (fun n h1 h2=>(h _).2 ⟨by omega,by omega⟩) (O5 fun hh=>by have:=(h _).1 hh;omega)
end Go.Ax
