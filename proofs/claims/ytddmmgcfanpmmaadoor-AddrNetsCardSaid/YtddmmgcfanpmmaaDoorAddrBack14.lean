/- Plain law: a prefix that is written is read back. -/
import Derived.Test.YtddmmgcfanpmmaaDoorAddrBack13
set_option linter.unusedVariables false
set_option linter.unusedSimpArgs false
namespace Go.Proofs.YtddmmgcfanpmmaaDoor.Lx
open Go Go.Proofs Go.RowKit
end Go.Proofs.YtddmmgcfanpmmaaDoor.Lx
