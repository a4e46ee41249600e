/- Names of codecs. -/
import Derived.Test.YtlkhijflgbobjaaNeighOps4
set_option linter.unusedVariables false
set_option linter.unusedSimpArgs false
namespace Go.Proofs.Ytlkhijflgbobjaa.Lx
open Go Go.Proofs Go.RowKit
abbrev cN := c_api_Neighbour
end Go.Proofs.Ytlkhijflgbobjaa.Lx
