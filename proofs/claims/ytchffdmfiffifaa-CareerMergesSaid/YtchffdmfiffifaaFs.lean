import Derived.Test.YtchffdmfiffifaaF7
/- All printed functions. -/
