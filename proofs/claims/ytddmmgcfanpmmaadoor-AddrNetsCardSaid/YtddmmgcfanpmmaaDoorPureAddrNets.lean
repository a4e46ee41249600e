/- The law AddrNets, of its program in the M-world: a prefix holds just the addresses whose first bits are its own; nets lie within one another: it answers true, and nothing that was there is turned. -/
import Derived.Test.YtddmmgcfanpmmaaDoorAddrLawNets
import Derived.Test.YtddmmgcfanpmmaaDoorAddrTabs
set_option linter.unusedVariables false
set_option linter.unusedSimpArgs false
namespace Go.Proofs.YtddmmgcfanpmmaaDoor.Lx
open Go Go.Proofs Go.RowKit

theorem AddrNets_true : ∀ (W : World) (u0 : api_IP) (u1 : api_IP) (u2 : Int) (u3 : Int), Laid W → (G27 W u0) → (G27 W u1) → ((Lit.int .i64 u2).wf = true) → ((Lit.int .i64 u3).wf = true) → ∃ W', weirlaw4_AddrNets u0 u1 u2 u3 W = some (true, W') ∧ Below W.heap.size W W' := by
  intro W ip o n m hL g0 g1 _ _
  obtain ⟨r, W', h, rfl, s⟩ := AddrNets_wp (tabs hL) 1 0 rfl rfl ip o (byt_wf g0.2) (byt_wf g1.2) n m
  exact ⟨W', h, s.below⟩
end Go.Proofs.YtddmmgcfanpmmaaDoor.Lx
