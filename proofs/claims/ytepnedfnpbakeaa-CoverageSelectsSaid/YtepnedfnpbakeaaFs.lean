import Derived.Test.YtepnedfnpbakeaaF4
/- All printed functions. -/
