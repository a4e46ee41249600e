
/- The law RoutePlays, of its program in the M-world: two tables, every call in every order: it answers true, and nothing that was there is turned. -/
import Derived.Test.YtfgcobigollfjaaDoorRoutePlays
import Derived.Test.YtfgcobigollfjaaDoorRouteTabs
set_option linter.unusedVariables false
set_option linter.unusedSimpArgs false
namespace Go.Proofs.YtfgcobigollfjaaDoor.Lx
open Go Go.Proofs Go.RowKit

theorem Zhb : ∀ (W : World) (u0 : Sl), Laid W → (GSl ZaF (Tryd.prog.bytesOf 61) (fun W u => G61 W u) W u0) → ∃ W', Zai u0 W = some (true, W') ∧ Below W.heap.size W W' := by
 intro W u0 hL g0
 obtain ⟨xs, hx, lx, s⟩ := (ZnR hL).args g0 (by decide)
 obtain ⟨r, W', h, rfl, Hs, s'⟩ := Zh6 s 0 rfl Zdg (fun x h => ⟨⟨Zlu (hx x h).2.2.1.1.1.2, Zlu (hx x h).2.2.1.2.2.2⟩, Zlu (hx x h).2.2.2.1.2⟩) 1 rfl
 exact ⟨W', h, s'.below⟩
end Go.Proofs.YtfgcobigollfjaaDoor.Lx
