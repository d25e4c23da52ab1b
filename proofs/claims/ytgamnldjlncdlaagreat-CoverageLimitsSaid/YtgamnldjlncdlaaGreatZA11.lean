import Derived.Test.YtgamnldjlncdlaaGreatZA9
set_option linter.all false
/- A row that is shown in part becomes the row of that part. -/
namespace Go.Ax
open Go.RowKit
section
variable {σ:St} {E:br} {w:World} {H:am}
end
end Go.Ax
