import Derived.Test.YtklbaihmajbbdaaF5
/- All printed functions. -/
