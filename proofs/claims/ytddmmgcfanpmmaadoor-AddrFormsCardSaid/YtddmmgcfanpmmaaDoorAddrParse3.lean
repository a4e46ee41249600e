/- A prefix is read (package addr: ParsePrefix). -/
import Derived.Test.YtddmmgcfanpmmaaDoorAddrParse2
set_option linter.unusedVariables false
set_option linter.unusedSimpArgs false
namespace Go.Proofs.YtddmmgcfanpmmaaDoor.Lx
open Go Go.Proofs Go.RowKit
section
variable {W w : World} {Hs : List HP}
end
end Go.Proofs.YtddmmgcfanpmmaaDoor.Lx
