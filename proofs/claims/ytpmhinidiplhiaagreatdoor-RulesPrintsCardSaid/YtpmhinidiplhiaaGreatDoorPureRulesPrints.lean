
/- The law RulesPrints, of its program in the M-world: it answers true, and nothing that was there is turned. -/
import Derived.Test.YtpmhinidiplhiaaGreatDoorRulesArgsB
import Derived.Test.YtpmhinidiplhiaaGreatDoorRulesLaws3
set_option linter.unusedVariables false
set_option linter.unusedSimpArgs false
namespace Go.Proofs.YtpmhinidiplhiaaGreatDoor.Lx
open Go Go.Proofs Go.RowKit

theorem Zjh : ∀ (W : World) (u0 : Sl), Laid W → GSl Zak (Tryz.prog.bytesOf 28) (fun W u => G28 W u) W u0 → ∃ W', ZaL u0 W = some (true, W') ∧ Below W.heap.size W W' := by
 intro W u0 hL g0
 obtain ⟨Hs, s, T⟩ := Zul hL
 obtain ⟨xs, hx, b, s⟩ := s.args g0 (by decide)
 have hb : Tryz.prog.bytesOf 28 = 192 := by kernel_rfl
 rw [hb] at b
 have hr : reachBytes = 140737488351232 := rfl
 obtain ⟨_, W', h, rfl, L, s'⟩ := ZkE s T.push 0 rfl (by omega) (fun x hm Hs w s => ZrX s (hx x hm))
 exact ⟨W', h, s'.below⟩
end Go.Proofs.YtpmhinidiplhiaaGreatDoor.Lx
