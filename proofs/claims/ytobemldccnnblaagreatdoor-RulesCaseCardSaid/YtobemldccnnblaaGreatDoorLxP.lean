/- All programs of the M-world that are printed for these laws. Printed by lxgen.py. -/
import Derived.Test.YtobemldccnnblaaGreatDoorLxP0
import Derived.Test.YtobemldccnnblaaGreatDoorLxP1
import Derived.Test.YtobemldccnnblaaGreatDoorLxP2
