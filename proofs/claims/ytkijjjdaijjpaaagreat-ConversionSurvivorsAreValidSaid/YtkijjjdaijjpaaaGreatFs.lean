import Derived.Test.YtkijjjdaijjpaaaGreatF5
/- All printed functions. -/
