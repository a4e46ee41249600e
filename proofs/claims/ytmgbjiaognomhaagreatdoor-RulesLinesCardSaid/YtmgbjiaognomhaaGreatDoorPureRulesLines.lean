
/- The law RulesLines, of its program in the M-world: it answers true, and nothing that was there is turned. -/
import Derived.Test.YtmgbjiaognomhaaGreatDoorAddrRefB
import Derived.Test.YtmgbjiaognomhaaGreatDoorRulesLaws4
set_option linter.unusedVariables false
set_option linter.unusedSimpArgs false
namespace Go.Proofs.YtmgbjiaognomhaaGreatDoor.Lx
open Go Go.Proofs Go.RowKit

theorem Zlb : ∀ (W : World) (u0 : Sl), Laid W → GSl cS (Tryz.prog.bytesOf 9) (fun W u => u.size ≤ reachBytes) W u0 → ∃ W', ZaY u0 W = some (true, W') ∧ Below W.heap.size W W' := by
 intro W u0 hL g0
 obtain ⟨Hs, s, T⟩ := ZuG hL
 obtain ⟨xs, hx, b, s⟩ := s.args g0 (by decide)
 have hb : Tryz.prog.bytesOf 9 = 16 := by kernel_rfl
 rw [hb] at b
 have hr : reachBytes = 140737488351232 := rfl
 obtain ⟨_, W', h, rfl, L, s'⟩ := Zmz s T.push 0 rfl (by omega)
 exact ⟨W', h, s'.below⟩
end Go.Proofs.YtmgbjiaognomhaaGreatDoor.Lx
