/- The law AddrKnows, of its program in the M-world: every Valid, ValidPrefix, Mask, Contains, Class, Less, GroupMac and Solicited answers as the document says: it answers true, and nothing that was there is turned. -/
import Derived.Test.YtddmmgcfanpmmaaGreatDoorAddrLawKnown
import Derived.Test.YtddmmgcfanpmmaaGreatDoorAddrTabs
set_option linter.unusedVariables false
set_option linter.unusedSimpArgs false
namespace Go.Proofs.YtddmmgcfanpmmaaGreatDoor.Lx
open Go Go.Proofs Go.RowKit

section
variable {W w : World} {Hs : List HP}
theorem plays_known (s : Ss W Hs w) (t' : Nat) (et' : nth Hs t' = some TabC) (o : weirlaw4_Op) (ho : OpB o) (h1 : 7 ≤ o.Kind) : WP (weirlaw4_plays o) w (fun r w' => r = true ∧ Ss W Hs w') := by
  unfold weirlaw4_plays weirlaw4_plays.K9 weirlaw4_plays.K8 weirlaw4_plays.K7 weirlaw4_plays.K6 weirlaw4_plays.K5 weirlaw4_plays.K4 weirlaw4_plays.K3 weirlaw4_plays.K2
  refine WP.slot' s (fun _ w s => ?_)
  have k1 : ∀ j, WP (weirlaw4_plays.K1 o j) w (fun r w' => r = true ∧ Ss W Hs w') := plays_K1 s t' et' o ho
  refine WP.ite (fun h => absurd h (by omega)) (fun h => WP.ite (fun h => absurd h (by omega)) (fun _ => WP.ite (fun h => absurd (beq_iff_eq.1 h) (by omega)) (fun _ => ?_)))
  refine WP.ite (fun h => absurd h (by omega)) (fun h => WP.ite (fun h => absurd h (by omega)) (fun _ => WP.ite (fun h => absurd (beq_iff_eq.1 h) (by omega)) (fun _ => ?_)))
  exact WP.ite (fun _ => k1 _) (fun _ => WP.ite (fun _ => k1 _) (fun _ => WP.ite (fun _ => k1 _) (fun _ => WP.ite (fun _ => k1 _) (fun _ => WP.ite (fun _ => k1 _) (fun _ => k1 _)))))
end
theorem AddrKnows_true : ∀ (W : World) (u0 : Sl), Laid W → (GSl c_weirlaw4_Op (Tryz.prog.bytesOf 42) (fun W u => G42 W u) W u0) → ∃ W', weirlaw4_AddrKnows u0 W = some (true, W') ∧ Below W.heap.size W W' := by
  intro W u hL g
  obtain ⟨ops, ho, hb, s⟩ := (tabs hL).args g (by decide)
  have hl : ops.length ≤ 140737488351232 := by
    have b : 1 ≤ Tryz.prog.bytesOf 42 := of_decide_eq_true (by kernel_rfl)
    have hr : reachBytes = 140737488351232 := rfl
    have := Nat.le_mul_of_pos_right ops.length b
    omega
  obtain ⟨r, W', h, rfl, s⟩ := script_wp s 2 1 0 rfl rfl rfl hl (fun o h => by
    obtain ⟨_, _, a, b, p, m, _⟩ := ho o h
    exact ⟨byt_wf a.2, byt_wf b.2, byt_wf p.1.2, byt_wf m⟩) 7 14 (fun o w h h1 h2 s => plays_known s 1 rfl o h h1)
  exact ⟨W', h, s.below⟩
end Go.Proofs.YtddmmgcfanpmmaaGreatDoor.Lx
