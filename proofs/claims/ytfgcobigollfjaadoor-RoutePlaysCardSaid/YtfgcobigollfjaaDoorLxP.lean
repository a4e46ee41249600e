/- All programs of the M-world that are printed for these laws. Printed by lxgen.py. -/
import Derived.Test.YtfgcobigollfjaaDoorLxP0
import Derived.Test.YtfgcobigollfjaaDoorLxP1
import Derived.Test.YtfgcobigollfjaaDoorLxP2
import Derived.Test.YtfgcobigollfjaaDoorLxP3
