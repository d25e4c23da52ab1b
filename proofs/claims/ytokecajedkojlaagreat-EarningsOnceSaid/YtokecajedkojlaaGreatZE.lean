import Derived.Test.YtokecajedkojlaaGreatZE1
import Derived.Test.YtokecajedkojlaaGreatZE2
import Derived.Test.YtokecajedkojlaaGreatZE3
import Derived.Test.YtokecajedkojlaaGreatZE4
/- The functions and their equations. -/
