/- The law AddrBack, of its program in the M-world: what is printed is read as it was: it answers true, and nothing that was there is turned. -/
import Derived.Test.YtddmmgcfanpmmaaDoorAddrLawBack2
import Derived.Test.YtddmmgcfanpmmaaDoorAddrTabs
set_option linter.unusedVariables false
set_option linter.unusedSimpArgs false
namespace Go.Proofs.YtddmmgcfanpmmaaDoor.Lx
open Go Go.Proofs Go.RowKit

theorem AddrBack_true : ∀ (W : World) (u0 : api_IP) (u1 : api_Prefix) (u2 : (Vec Int 6)), Laid W → (G27 W u0) → (G37 W u1) → (∀ x ∈ u2.l, (Lit.int .u8 x).wf = true) → ∃ W', weirlaw4_AddrBack u0 u1 u2 W = some (true, W') ∧ Below W.heap.size W W' := by
  intro W ip p m hL g0 g1 g2
  obtain ⟨r, W', h, rfl, s⟩ := AddrBack_wp (tabs hL) 1 0 rfl rfl ip (byt_wf g0.2) p (byt_wf g1.1.2) m (byt_wf g2)
  exact ⟨W', h, s.below⟩
end Go.Proofs.YtddmmgcfanpmmaaDoor.Lx
