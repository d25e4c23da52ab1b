import Derived.Test.YtgamnldjlncdlaaGreatZF8
/- All printed functions. -/
