
/- The law RouteWithin, of its program in the M-world: one answer of All gone through again and again while the table changes: it answers true, and nothing that was there is turned. -/
import Derived.Test.YtfgcobigollfjaaDoorRouteWithin
import Derived.Test.YtfgcobigollfjaaDoorRouteTabs
set_option linter.unusedVariables false
set_option linter.unusedSimpArgs false
namespace Go.Proofs.YtfgcobigollfjaaDoor.Lx
open Go Go.Proofs Go.RowKit

theorem RouteWithin_true : ∀ (W : World) (u0 : Sl) (u1 : Sl) (u2 : Int), Laid W → (GSl c_api_Route (Tryd.prog.bytesOf 32) (fun W u => G32 W u) W u0) → (GSl c_weirlaw14_Act (Tryd.prog.bytesOf 65) (fun W u => G65 W u) W u1) → ((Lit.int .i64 u2).wf = true) → ∃ W', weirlaw14_RouteWithin u0 u1 u2 W = some (true, W') ∧ Below W.heap.size W W' := by
 intro W u0 u1 u2 hL g0 g1 g2
 obtain ⟨ys, hy, ly, s⟩ := (tabsR hL).args g1 (by decide)
 obtain ⟨xs, hx, lx, s⟩ := s.args g0 (by decide)
 obtain ⟨r, W', h, rfl, Hs, s'⟩ := RouteWithin_wp (acts := ys) (stop := u2) s 0 rfl rdS_rdb (fun x h => ⟨byt_wf (hx x h).1.1.2, byt_wf (hx x h).2.2.2⟩) 1 rfl rdS_rdb (fun x h => ⟨byt_wf (hy x h).2.2.1.1.1.2, byt_wf (hy x h).2.2.1.2.2.2⟩) 2 rfl
 exact ⟨W', h, s'.below⟩
end Go.Proofs.YtfgcobigollfjaaDoor.Lx
