import Derived.Test.YtnnblpijaoocaaaGreatZE0
/- What functions compute: equations, checked by the kernel. -/
set_option linter.all false
set_option maxRecDepth 100000
set_option maxHeartbeats 0
namespace Go.Ax
open Go.Proofs Go.Proofs.YtnnblpijaoocaaaGreat
end Go.Ax
