/- All programs of the M-world that are printed for these laws. Printed by lxgen.py. -/
import Derived.Test.YtjceipelgkdoaaaGreatDoorLxP0
import Derived.Test.YtjceipelgkdoaaaGreatDoorLxP1
import Derived.Test.YtjceipelgkdoaaaGreatDoorLxP2
