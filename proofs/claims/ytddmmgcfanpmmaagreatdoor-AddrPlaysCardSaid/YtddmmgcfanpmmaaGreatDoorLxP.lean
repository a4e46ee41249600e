/- All programs of the M-world that are printed for these laws. Printed by lxgen.py. -/
import Derived.Test.YtddmmgcfanpmmaaGreatDoorLxP0
import Derived.Test.YtddmmgcfanpmmaaGreatDoorLxP1
import Derived.Test.YtddmmgcfanpmmaaGreatDoorLxP2
import Derived.Test.YtddmmgcfanpmmaaGreatDoorLxP3
import Derived.Test.YtddmmgcfanpmmaaGreatDoorLxP4
import Derived.Test.YtddmmgcfanpmmaaGreatDoorLxP5
