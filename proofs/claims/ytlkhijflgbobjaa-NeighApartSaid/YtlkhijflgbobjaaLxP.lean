/- All programs of the M-world that are printed for these laws. Printed by lxgen.py. -/
import Derived.Test.YtlkhijflgbobjaaLxP0
import Derived.Test.YtlkhijflgbobjaaLxP1
import Derived.Test.YtlkhijflgbobjaaLxP2
import Derived.Test.YtlkhijflgbobjaaLxP3
import Derived.Test.YtlkhijflgbobjaaLxP4
