/- The law AddrUnlike, of its program in the M-world: texts that are printed alike are of one value: it answers true, and nothing that was there is turned. -/
import Derived.Test.YtddmmgcfanpmmaaDoorAddrLawUnlike
import Derived.Test.YtddmmgcfanpmmaaDoorAddrTabs
set_option linter.unusedVariables false
set_option linter.unusedSimpArgs false
namespace Go.Proofs.YtddmmgcfanpmmaaDoor.Lx
open Go Go.Proofs Go.RowKit

theorem AddrUnlike_true : ∀ (W : World) (u0 : api_IP) (u1 : api_IP) (u2 : api_Prefix) (u3 : api_Prefix) (u4 : (Vec Int 6)) (u5 : (Vec Int 6)), Laid W → (G27 W u0) → (G27 W u1) → (G37 W u2) → (G37 W u3) → (∀ x ∈ u4.l, (Lit.int .u8 x).wf = true) → (∀ x ∈ u5.l, (Lit.int .u8 x).wf = true) → ∃ W', weirlaw4_AddrUnlike u0 u1 u2 u3 u4 u5 W = some (true, W') ∧ Below W.heap.size W W' := by
  intro W a b p q m n hL g0 g1 g2 g3 g4 g5
  obtain ⟨r, W', h, rfl, s⟩ := AddrUnlike_wp (tabs hL) 1 0 rfl rfl a b (byt_wf g0.2) (byt_wf g1.2) p q (byt_wf g2.1.2) (byt_wf g3.1.2) m n (byt_wf g4) (byt_wf g5)
  exact ⟨W', h, s.below⟩
end Go.Proofs.YtddmmgcfanpmmaaDoor.Lx
