import Derived.Test.YtkijjjdaijjpaaaGreatL114v
set_option linter.all false
/- The document's lists of edges. -/
set_option maxRecDepth 100000
namespace Go.Ax
open Go.Proofs

theorem capI {n : Nat} (h : n ≤ 4000000) : capB n 8 := ⟨by omega, by omega⟩
def Asc1 (l : List Int) : Prop := l.Pairwise (fun a b => a < b)
end Go.Ax
