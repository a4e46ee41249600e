/- All programs of the M-world that are printed for these laws. Printed by lxgen.py. -/
import Derived.Test.YtpmhinidiplhiaaDoorLxP0
import Derived.Test.YtpmhinidiplhiaaDoorLxP1
import Derived.Test.YtpmhinidiplhiaaDoorLxP2
