
/- The law RulesTwo, of its program in the M-world: it answers true, and nothing that was there is turned. -/
import Derived.Test.YtfnokeoldcfcoaaGreatDoorRulesLaws9
set_option linter.unusedSimpArgs false
set_option linter.unusedVariables false
namespace Go.Proofs.YtfnokeoldcfcoaaGreatDoor.Lx
open Go Go.Proofs Go.RowKit

theorem ZoY : ∀ (W : World) (u0 : Sl) (u1 : Sl), Laid W → (GSl cS (Tryz.prog.bytesOf 9) (fun W u => u.size ≤ reachBytes) W u0) → (GSl ZdP (Tryz.prog.bytesOf 72) (fun W u => G72 W u) W u1) → ∃ W', Zaj u0 u1 W = some (true, W') ∧ Below W.heap.size W W' := by
 intro W u0 u1 hL g0 g1
 obtain ⟨Hs, s, T⟩ := ZxK hL
 obtain ⟨xs, -, b0, s⟩ := s.args g0 (by decide)
 rw [show Tryz.prog.bytesOf 9 = 16 by kernel_rfl] at b0
 obtain ⟨cs, hc, b1, s⟩ := s.args g1 (by decide)
 have hr : reachBytes = 140737488351232 := rfl
 have h0 : Nat.ble 1 (Tryz.prog.bytesOf 72) = true := by kernel_rfl
 generalize Tryz.prog.bytesOf 72 = q at b1 h0
 have h1 := Nat.le_of_ble_eq_true h0
 have b2 : cs.length ≤ cs.length * q := Nat.le_mul_of_pos_right _ h1
 obtain ⟨_, W', h, rfl, L, s'⟩ := Zq4 s T.push.push 1 rfl 0 rfl (by omega) (by omega) (fun c hm Hs w s => Zxz s (hc c hm).2)
 exact ⟨W', h, s'.below⟩
end Go.Proofs.YtfnokeoldcfcoaaGreatDoor.Lx
