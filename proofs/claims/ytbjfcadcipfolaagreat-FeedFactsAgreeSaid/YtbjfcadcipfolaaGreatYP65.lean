import Derived.Test.YtbjfcadcipfolaaGreatYP64
set_option linter.all false
/- Linked chains count as a whole;without one document the earlier ones of its sender count. -/
set_option maxRecDepth 100000
namespace Go.Ax
end Go.Ax
