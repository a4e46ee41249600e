/- All programs of the M-world that are printed for these laws. Printed by lxgen.py. -/
import Derived.Test.YtddmmgcfanpmmaaDoorLxP0
import Derived.Test.YtddmmgcfanpmmaaDoorLxP1
import Derived.Test.YtddmmgcfanpmmaaDoorLxP2
import Derived.Test.YtddmmgcfanpmmaaDoorLxP3
