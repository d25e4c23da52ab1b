import Derived.Test.YtchffdmfiffifaaF6
/- All printed functions. -/
