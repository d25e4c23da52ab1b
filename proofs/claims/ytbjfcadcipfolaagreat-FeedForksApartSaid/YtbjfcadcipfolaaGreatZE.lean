import Derived.Test.YtbjfcadcipfolaaGreatZE1
import Derived.Test.YtbjfcadcipfolaaGreatZE2
import Derived.Test.YtbjfcadcipfolaaGreatZE3
import Derived.Test.YtbjfcadcipfolaaGreatZE4
/- The functions and their equations. -/
