
import Derived.Test.YtpmhinidiplhiaaGreatDoorAddrParse3
set_option linter.unusedVariables false
set_option linter.unusedSimpArgs false
namespace Go.Proofs.YtpmhinidiplhiaaGreatDoor.Lx
open Go Go.Proofs Go.RowKit
section
variable {W w : World} {Hs : List HP}
end
end Go.Proofs.YtpmhinidiplhiaaGreatDoor.Lx
