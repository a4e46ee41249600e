/- The law AddrAgain, of its program in the M-world: what is read may be, and its printed text is read as the same: it answers true, and nothing that was there is turned. -/
import Derived.Test.YtddmmgcfanpmmaaDoorAddrLawAgain
import Derived.Test.YtddmmgcfanpmmaaDoorAddrTabs
set_option linter.unusedVariables false
set_option linter.unusedSimpArgs false
namespace Go.Proofs.YtddmmgcfanpmmaaDoor.Lx
open Go Go.Proofs Go.RowKit

theorem AddrAgain_true : ∀ (W : World) (u0 : ByteArray), Laid W → (u0.size ≤ reachBytes) → ∃ W', weirlaw4_AddrAgain u0 W = some (true, W') ∧ Below W.heap.size W W' := by
  intro W x hL g0
  obtain ⟨r, W', h, rfl, s⟩ := AddrAgain_wp (tabs hL) 1 0 rfl rfl x
  exact ⟨W', h, s.below⟩
end Go.Proofs.YtddmmgcfanpmmaaDoor.Lx
