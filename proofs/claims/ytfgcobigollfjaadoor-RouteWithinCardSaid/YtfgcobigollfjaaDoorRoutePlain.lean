
import Derived.Test.YtfgcobigollfjaaDoorRouteFind
import Derived.Test.YtfgcobigollfjaaDoorRouteAdd
set_option linter.unusedVariables false
set_option linter.unusedSimpArgs false
namespace Go.Proofs.YtfgcobigollfjaaDoor.Lx
open Go Go.Proofs Go.RowKit
section
variable {L : List api_Route} {ip : api_IP}
end
theorem putR_ok {L : List api_Route} {r x : api_Route} (h : x ∈ putR L r (addR L r)) : x ∈ L ∨ (x = r ∧ isPx r.Prefix = true) := by
 rw [putR_fill] at h
 split at h
 ·rename_i h0
  rcases List.mem_append.1 h with h | h
  ·exact .inl h
  ·refine .inr ⟨by simpa using h, ?_⟩
   cases hp : isPx r.Prefix with
   | true => rfl
   | false =>
    unfold addR addM at h0
    rw [if_pos hp] at h0
    omega
 ·exact .inl h
end Go.Proofs.YtfgcobigollfjaaDoor.Lx
