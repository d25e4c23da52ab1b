import Derived.Test.YtokecajedkojlaaGreatYB14
import Derived.Shelf.Sort.Plain
import Derived.Shelf.Slices.In.SortNone
import Derived.Shelf.Slices.CompactI
import Derived.Lib.RowBridge
set_option linter.all false
/- A library function at one own row of ints: sorted where it lies, or cut and handed back. -/
namespace Go.Ax
open Go.RowKit Go.Sort Go.Proofs
section
variable {P:Program} {E:aq} {w w':World} {r:aA} {H:af} {nid:Nat}
end
end Go.Ax
