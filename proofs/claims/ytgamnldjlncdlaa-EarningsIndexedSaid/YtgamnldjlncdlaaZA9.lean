import Derived.Test.YtgamnldjlncdlaaZA8
import Derived.Deep.QuietTactic
set_option linter.all false
/- What a call of sort.Slice costs, paid once. -/
namespace Go.Ax
open Go.RowKit Go.Sort Go.Lib Go.Shelf Go.Proofs
end Go.Ax
