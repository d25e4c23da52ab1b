import Derived.Test.YtbjfcadcipfolaaGreatYE1
import Derived.Test.YtbjfcadcipfolaaGreatYE2
import Derived.Test.YtbjfcadcipfolaaGreatYE3
import Derived.Test.YtbjfcadcipfolaaGreatYE4
/- The functions and their equations. -/
