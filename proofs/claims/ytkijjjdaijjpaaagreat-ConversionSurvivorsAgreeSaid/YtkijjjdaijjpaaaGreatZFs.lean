import Derived.Test.YtkijjjdaijjpaaaGreatZF7
/- All printed functions. -/
