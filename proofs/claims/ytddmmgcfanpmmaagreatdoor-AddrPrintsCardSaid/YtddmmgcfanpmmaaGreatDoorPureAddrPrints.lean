/- The law AddrPrints, of its program in the M-world: every PrintIP, PrintPrefix and PrintMac answers as the document says: it answers true, and nothing that was there is turned. -/
import Derived.Test.YtddmmgcfanpmmaaGreatDoorAddrLawPrinted
import Derived.Test.YtddmmgcfanpmmaaGreatDoorAddrTabs
set_option linter.unusedVariables false
set_option linter.unusedSimpArgs false
namespace Go.Proofs.YtddmmgcfanpmmaaGreatDoor.Lx
open Go Go.Proofs Go.RowKit

section
variable {W w : World} {Hs : List HP}
theorem plays_printed (s : Ss W Hs w) (t : Nat) (et : nth Hs t = some TabN) (o : weirlaw4_Op) (ho : OpB o) (h1 : 4 ≤ o.Kind) (h3 : o.Kind ≤ 6) : WP (weirlaw4_plays o) w (fun r w' => r = true ∧ Ss W Hs w') := by
  unfold weirlaw4_plays weirlaw4_plays.K4 weirlaw4_plays.K3 weirlaw4_plays.K2 weirlaw4_plays.K1
  refine WP.slot' s (fun _ w s => ?_)
  have k : ∀ b : Bool, b = true → WP (if b = true then weirlaw4_printed o >>= fun r => pure r else fail) w (fun r w' => r = true ∧ Ss W Hs w') := fun b hb => WP.ite (fun _ => WP.step (printed_wp s t et o ho) (fun r w h => WP.ret h)) (fun h => absurd hb h)
  refine WP.ite (fun h => absurd h (by omega)) (fun h => WP.ite (fun h => absurd h (by omega)) (fun _ => WP.ite (fun h => absurd (beq_iff_eq.1 h) (by omega)) (fun _ => ?_)))
  exact WP.ite (fun h => k _ (beq_iff_eq.2 h)) (fun h => WP.ite (fun h2 => k _ (beq_iff_eq.2 h2)) (fun h2 => k _ (beq_iff_eq.2 (by omega))))
end
theorem AddrPrints_true : ∀ (W : World) (u0 : Sl), Laid W → (GSl c_weirlaw4_Op (Tryz.prog.bytesOf 42) (fun W u => G42 W u) W u0) → ∃ W', weirlaw4_AddrPrints u0 W = some (true, W') ∧ Below W.heap.size W W' := by
  intro W u hL g
  obtain ⟨ops, ho, hb, s⟩ := (tabs hL).args g (by decide)
  have hl : ops.length ≤ 140737488351232 := by
    have b : 1 ≤ Tryz.prog.bytesOf 42 := of_decide_eq_true (by kernel_rfl)
    have hr : reachBytes = 140737488351232 := rfl
    have := Nat.le_mul_of_pos_right ops.length b
    omega
  obtain ⟨r, W', h, rfl, s⟩ := script_wp s 2 1 0 rfl rfl rfl hl (fun o h => by
    obtain ⟨_, _, a, b, p, m, _⟩ := ho o h
    exact ⟨byt_wf a.2, byt_wf b.2, byt_wf p.1.2, byt_wf m⟩) 4 6 (fun o w h h1 h2 s => plays_printed s 2 rfl o h h1 h2)
  exact ⟨W', h, s.below⟩
end Go.Proofs.YtddmmgcfanpmmaaGreatDoor.Lx
