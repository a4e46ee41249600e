
import Derived.Test.YtfgcobigollfjaaDoorRouteTab
set_option linter.unusedVariables false
set_option linter.unusedSimpArgs false
namespace Go.Proofs.YtfgcobigollfjaaDoor.Lx
open Go Go.Proofs Go.RowKit
section
variable {W w : World} {Hs : List HP} {p b : Nat} {L : List api_Route}
end
def MHs (b3 : Nat) (l : List api_Route) : HP := ex (fun _ : Sl × List api_Route => True) (fun q => seps [pts true (pt b3 0) (cL.enc q.1), vec cRt q.1 l q.2])
end Go.Proofs.YtfgcobigollfjaaDoor.Lx
