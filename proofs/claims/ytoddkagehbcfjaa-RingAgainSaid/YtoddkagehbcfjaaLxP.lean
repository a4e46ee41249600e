/- All programs of the M-world that are printed for these laws. Printed by lxgen.py. -/
import Derived.Test.YtoddkagehbcfjaaLxP0
import Derived.Test.YtoddkagehbcfjaaLxP1
import Derived.Test.YtoddkagehbcfjaaLxP2
import Derived.Test.YtoddkagehbcfjaaLxP3
