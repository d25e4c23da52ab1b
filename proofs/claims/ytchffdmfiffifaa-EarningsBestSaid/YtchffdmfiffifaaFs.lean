import Derived.Test.YtchffdmfiffifaaF4
/- All printed functions. -/
