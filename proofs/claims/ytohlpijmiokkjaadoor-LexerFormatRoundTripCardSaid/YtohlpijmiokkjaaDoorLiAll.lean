/- All lifted functions: printed by lift.py. -/
import Derived.Test.YtohlpijmiokkjaaDoorLi1
import Derived.Test.YtohlpijmiokkjaaDoorLi2
import Derived.Test.YtohlpijmiokkjaaDoorLi3
import Derived.Test.YtohlpijmiokkjaaDoorLi4
import Derived.Test.YtohlpijmiokkjaaDoorLi5
import Derived.Test.YtohlpijmiokkjaaDoorLi6
