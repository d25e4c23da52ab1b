import Derived.Test.YtnnblpijaoocaaaGreatZE1
import Derived.Test.YtnnblpijaoocaaaGreatZE2
import Derived.Test.YtnnblpijaoocaaaGreatZE3
import Derived.Test.YtnnblpijaoocaaaGreatZE4
/- The functions and their equations. -/
