/- All programs of the M-world that are printed for these laws. Printed by lxgen.py. -/
import Derived.Test.YtfjcjecgalijfaaDoorLxP0
import Derived.Test.YtfjcjecgalijfaaDoorLxP1
import Derived.Test.YtfjcjecgalijfaaDoorLxP2
