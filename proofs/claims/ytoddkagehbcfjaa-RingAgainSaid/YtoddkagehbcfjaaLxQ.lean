/- What the claim's reader tells of the arguments of laws. Printed by lawgen.py. -/
import Derived.Test.YtoddkagehbcfjaaLxR
import Derived.Test.YtoddkagehbcfjaaLxT
set_option linter.unusedVariables false
namespace Go.Proofs.Ytoddkagehbcfjaa.Lx
open Go Go.Proofs

end Go.Proofs.Ytoddkagehbcfjaa.Lx
