import Derived.Test.YtbjfcadcipfolaaGreatYP67
set_option linter.all false
/- Both feeds answer all questions alike;what is no document is rejected. -/
set_option maxRecDepth 100000
namespace Go.Ax
end Go.Ax
