import Derived.Test.YtnnblpijaoocaaaGreatWE1
import Derived.Test.YtnnblpijaoocaaaGreatWE2
import Derived.Test.YtnnblpijaoocaaaGreatWE3
import Derived.Test.YtnnblpijaoocaaaGreatWE4
/- The functions and their equations. -/
