import Derived.Test.YtklbaihmajbbdaaF4
/- All printed functions. -/
