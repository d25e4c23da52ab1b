import Derived.Test.YtgamnldjlncdlaaZA9
set_option linter.all false
/- A row that is shown in part becomes the row of that part. -/
namespace Go.Ax
open Go.RowKit
section
variable {σ : St} {E : bj} {w : World} {H : ay}
end
end Go.Ax
