
import Derived.Test.YtpmhinidiplhiaaDoorAddrParse3
set_option linter.unusedVariables false
set_option linter.unusedSimpArgs false
namespace Go.Proofs.YtpmhinidiplhiaaDoor.Lx
open Go Go.Proofs Go.RowKit
section
variable {W w : World} {Hs : List HP}
end
end Go.Proofs.YtpmhinidiplhiaaDoor.Lx
