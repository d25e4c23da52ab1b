import Derived.Test.YtgamnldjlncdlaaZF7
/- All printed functions. -/
