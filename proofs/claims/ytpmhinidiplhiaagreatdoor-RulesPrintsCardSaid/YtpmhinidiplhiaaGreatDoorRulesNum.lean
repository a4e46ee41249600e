
import Derived.Test.YtpmhinidiplhiaaGreatDoorRulesLex
import Derived.Test.YtpmhinidiplhiaaGreatDoorRulesWrite
set_option linter.unusedVariables false
set_option linter.unusedSimpArgs false
namespace Go.Proofs.YtpmhinidiplhiaaGreatDoor.Lx
open Go Go.Proofs Go.RowKit
end Go.Proofs.YtpmhinidiplhiaaGreatDoor.Lx
