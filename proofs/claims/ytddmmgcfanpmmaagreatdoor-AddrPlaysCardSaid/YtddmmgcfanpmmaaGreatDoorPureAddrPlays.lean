/- The law AddrPlays, of its program in the M-world: all calls, in every order, answer as the document says: it answers true, and nothing that was there is turned. -/
import Derived.Test.YtddmmgcfanpmmaaGreatDoorAddrLawPlays
set_option linter.unusedVariables false
set_option linter.unusedSimpArgs false
namespace Go.Proofs.YtddmmgcfanpmmaaGreatDoor.Lx
open Go Go.Proofs Go.RowKit

theorem AddrPlays_true : ∀ (W : World) (u0 : Sl), Laid W → (GSl c_weirlaw4_Op (Tryz.prog.bytesOf 42) (fun W u => G42 W u) W u0) → ∃ W', l4_AddrPlays u0 W = some (true, W') ∧ Below W.heap.size W W' := by
 intro W u hL g
 obtain ⟨ops, ho, hb, s⟩ := (tabs hL).args g (by decide)
 have hl : ops.length ≤ 140737488351232 := by
  have b : 1 ≤ Tryz.prog.bytesOf 42 := of_decide_eq_true (by kernel_rfl)
  have hr : reachBytes = 140737488351232 := rfl
  have := Nat.le_mul_of_pos_right ops.length b
  omega
 obtain ⟨r, W', h, rfl, s⟩ := script_wp s 2 1 0 rfl rfl rfl hl (fun o h => by
  obtain ⟨_, _, a, b, p, m, _⟩ := ho o h
  exact ⟨byt_wf a.2, byt_wf b.2, byt_wf p.1.2, byt_wf m⟩) 1 14 (fun o w h h1 h2 s => plays_wp s 2 1 rfl rfl o h)
 exact ⟨W', h, s.below⟩
end Go.Proofs.YtddmmgcfanpmmaaGreatDoor.Lx
