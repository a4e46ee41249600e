/- All programs of the M-world that are printed for these laws. Printed by lxgen.py. -/
import Derived.Test.YtmgbjiaognomhaaGreatDoorLxP0
import Derived.Test.YtmgbjiaognomhaaGreatDoorLxP1
import Derived.Test.YtmgbjiaognomhaaGreatDoorLxP2
