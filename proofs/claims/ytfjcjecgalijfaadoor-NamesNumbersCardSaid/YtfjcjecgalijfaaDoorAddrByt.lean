/- Bytes and texts. -/
import Derived.Test.YtfjcjecgalijfaaDoorLxMs
import Derived.Test.YtfjcjecgalijfaaDoorLxSh
import Derived.Test.YtfjcjecgalijfaaDoorLxP
set_option linter.unusedVariables false
set_option linter.unusedSimpArgs false
namespace Go.Proofs.YtfjcjecgalijfaaDoor.Lx
open Go Go.Proofs Go.RowKit
end Go.Proofs.YtfjcjecgalijfaaDoor.Lx
