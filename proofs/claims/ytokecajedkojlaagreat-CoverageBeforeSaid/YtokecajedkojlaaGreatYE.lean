import Derived.Test.YtokecajedkojlaaGreatYE1
import Derived.Test.YtokecajedkojlaaGreatYE2
import Derived.Test.YtokecajedkojlaaGreatYE3
import Derived.Test.YtokecajedkojlaaGreatYE4
/- The functions and their equations. -/
