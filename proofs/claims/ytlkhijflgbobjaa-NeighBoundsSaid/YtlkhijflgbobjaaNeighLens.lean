/- How long the lists are that a cache tells. -/
import Derived.Test.YtlkhijflgbobjaaNeighRefN
set_option linter.unusedVariables false
set_option linter.unusedSimpArgs false
namespace Go.Proofs.Ytlkhijflgbobjaa.Lx
open Go Go.Proofs Go.RowKit
end Go.Proofs.Ytlkhijflgbobjaa.Lx
