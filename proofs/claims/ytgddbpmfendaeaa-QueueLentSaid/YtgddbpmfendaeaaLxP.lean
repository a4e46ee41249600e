/- All programs of the M-world that are printed for these laws. Printed by lxgen.py. -/
import Derived.Test.YtgddbpmfendaeaaLxP0
import Derived.Test.YtgddbpmfendaeaaLxP1
import Derived.Test.YtgddbpmfendaeaaLxP2
import Derived.Test.YtgddbpmfendaeaaLxP3
import Derived.Test.YtgddbpmfendaeaaLxP4
