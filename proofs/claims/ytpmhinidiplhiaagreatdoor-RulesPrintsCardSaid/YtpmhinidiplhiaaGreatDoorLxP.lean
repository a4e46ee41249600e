/- All programs of the M-world that are printed for these laws. Printed by lxgen.py. -/
import Derived.Test.YtpmhinidiplhiaaGreatDoorLxP0
import Derived.Test.YtpmhinidiplhiaaGreatDoorLxP1
import Derived.Test.YtpmhinidiplhiaaGreatDoorLxP2
