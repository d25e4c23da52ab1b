import Derived.Test.YtkcekbabhmdnhaaF5
/- All printed functions. -/
