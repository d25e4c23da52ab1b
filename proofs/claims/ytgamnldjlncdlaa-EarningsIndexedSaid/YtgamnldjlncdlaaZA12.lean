import Derived.Test.YtgamnldjlncdlaaZA11
set_option linter.all false
/- Contracts over a box that holds an own row, or nil. -/
namespace Go.Ax
open Go.RowKit
section
variable {P : Program} {σ : St} {H : ay} {nid : Nat} {nr : Bool}
end
end Go.Ax
