import Derived.Test.YtnnblpijaoocaaaGreatWP9
set_option linter.all false
/- The document's combinations of spans. -/
set_option maxRecDepth 100000
namespace Go.Ax
end Go.Ax
