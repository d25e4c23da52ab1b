import Derived.Test.YtnnblpijaoocaaaGreatYE1
import Derived.Test.YtnnblpijaoocaaaGreatYE2
import Derived.Test.YtnnblpijaoocaaaGreatYE3
import Derived.Test.YtnnblpijaoocaaaGreatYE4
/- The functions and their equations. -/
