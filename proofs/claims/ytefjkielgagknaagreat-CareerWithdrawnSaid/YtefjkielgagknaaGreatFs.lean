import Derived.Test.YtefjkielgagknaaGreatF6
/- All printed functions. -/
