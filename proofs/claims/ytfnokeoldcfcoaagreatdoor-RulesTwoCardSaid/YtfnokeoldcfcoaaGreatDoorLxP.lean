/- All programs of the M-world that are printed for these laws. Printed by lxgen.py. -/
import Derived.Test.YtfnokeoldcfcoaaGreatDoorLxP0
import Derived.Test.YtfnokeoldcfcoaaGreatDoorLxP1
import Derived.Test.YtfnokeoldcfcoaaGreatDoorLxP2
