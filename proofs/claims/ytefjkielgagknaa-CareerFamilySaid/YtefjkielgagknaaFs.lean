import Derived.Test.YtefjkielgagknaaF6
/- All printed functions. -/
