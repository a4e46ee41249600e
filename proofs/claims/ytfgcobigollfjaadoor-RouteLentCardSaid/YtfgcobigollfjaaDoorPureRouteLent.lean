
/- The law RouteLent, of its program in the M-world: what Matches hands out is the caller's own: it answers true, and nothing that was there is turned. -/
import Derived.Test.YtfgcobigollfjaaDoorRouteLent2
import Derived.Test.YtfgcobigollfjaaDoorRouteTabs
set_option linter.unusedVariables false
set_option linter.unusedSimpArgs false
namespace Go.Proofs.YtfgcobigollfjaaDoor.Lx
open Go Go.Proofs Go.RowKit

theorem RouteLent_true : ∀ (W : World) (u0 : Sl) (u1 : api_IP), Laid W → (GSl c_api_Route (Tryd.prog.bytesOf 32) (fun W u => G32 W u) W u0) → (G28 W u1) → ∃ W', weirlaw14_RouteLent u0 u1 W = some (true, W') ∧ Below W.heap.size W W' := by
 intro W u0 u1 hL g0 g1
 have b0 : Tryd.prog.bytesOf 32 = 64 := by kernel_rfl
 have hr : reachBytes = 140737488351232 := rfl
 obtain ⟨xs, hx, lx, s⟩ := (tabsR hL).args g0 (by decide)
 rw [b0, hr] at lx
 obtain ⟨r, W', h, rfl, Hs, s'⟩ := RouteLent_wp (ip := u1) s 0 rfl rdS_rdb 1 rfl (fun x h => ⟨byt_wf (hx x h).1.1.2, byt_wf (hx x h).2.2.2⟩) lx (byt_wf g1.2)
 exact ⟨W', h, s'.below⟩
end Go.Proofs.YtfgcobigollfjaaDoor.Lx
