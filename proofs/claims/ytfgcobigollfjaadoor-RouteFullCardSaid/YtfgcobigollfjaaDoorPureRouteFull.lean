/- The law RouteFull, of its program in the M-world: a full table takes no further route: it answers true, and nothing that was there is turned. -/
import Derived.Test.YtfgcobigollfjaaDoorRouteFull
import Derived.Test.YtfgcobigollfjaaDoorLxQ
set_option linter.unusedVariables false
set_option linter.unusedSimpArgs false
namespace Go.Proofs.YtfgcobigollfjaaDoor.Lx
open Go Go.Proofs Go.RowKit

theorem RouteFull_true : ∀ (W : World) (u0 : Int), Laid W → ((Lit.int .i64 u0).wf = true) → ∃ W', weirlaw14_RouteFull u0 W = some (true, W') ∧ Below W.heap.size W W' := by
  intro W a hL g
  obtain ⟨r, W', h, rfl, s⟩ := RouteFull_wp (Ss.start W) a
  exact ⟨W', h, s.below⟩
end Go.Proofs.YtfgcobigollfjaaDoor.Lx
