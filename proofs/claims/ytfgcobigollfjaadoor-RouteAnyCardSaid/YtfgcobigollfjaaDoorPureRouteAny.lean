
/- The law RouteAny, of its program in the M-world: the order of adding does not matter: it answers true, and nothing that was there is turned. -/
import Derived.Test.YtfgcobigollfjaaDoorRouteAny
import Derived.Test.YtfgcobigollfjaaDoorRouteTabs
set_option linter.unusedVariables false
set_option linter.unusedSimpArgs false
namespace Go.Proofs.YtfgcobigollfjaaDoor.Lx
open Go Go.Proofs Go.RowKit

theorem RouteAny_true : ∀ (W : World) (u0 : Sl) (u1 : api_Route) (u2 : Sl), Laid W → (GSl c_api_Route (Tryd.prog.bytesOf 32) (fun W u => G32 W u) W u0) → (G32 W u1) → (GSl c_api_IP (Tryd.prog.bytesOf 28) (fun W u => G28 W u) W u2) → ∃ W', weirlaw14_RouteAny u0 u1 u2 W = some (true, W') ∧ Below W.heap.size W W' := by
  intro W u0 u1 u2 hL g0 gx g1
  have b1 : Tryd.prog.bytesOf 28 = 24 := by kernel_rfl
  have hr : reachBytes = 140737488351232 := rfl
  obtain ⟨ys, hy, ly, s⟩ := (tabsR hL).args g1 (by decide)
  obtain ⟨xs, hx, _, s⟩ := s.args g0 (by decide)
  rw [b1, hr] at ly
  obtain ⟨r, W', h, rfl, Hs, s'⟩ := RouteAny_wp s 0 rfl rdS_rdb 1 rfl rdS_rdb 2 rfl (fun x h => ⟨byt_wf (hx x h).1.1.2, byt_wf (hx x h).2.2.2⟩) ⟨byt_wf gx.1.1.2, byt_wf gx.2.2.2⟩ (fun x h => byt_wf (hy x h).2) ly
  exact ⟨W', h, s'.below⟩
end Go.Proofs.YtfgcobigollfjaaDoor.Lx
