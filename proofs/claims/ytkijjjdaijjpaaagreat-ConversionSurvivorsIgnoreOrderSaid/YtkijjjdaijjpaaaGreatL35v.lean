import Derived.Test.YtkijjjdaijjpaaaGreatL33av
set_option linter.all false
/- Survivors that are made of numbers. -/
set_option maxRecDepth 100000
namespace Go.Ax

end Go.Ax
