import Derived.Test.YtnnblpijaoocaaaGreatXE1
import Derived.Test.YtnnblpijaoocaaaGreatXE2
import Derived.Test.YtnnblpijaoocaaaGreatXE3
import Derived.Test.YtnnblpijaoocaaaGreatXE4
/- The functions and their equations. -/
