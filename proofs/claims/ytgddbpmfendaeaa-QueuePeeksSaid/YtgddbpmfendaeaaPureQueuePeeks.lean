/- The law QueuePeeks, of its program in the M-world: it answers true, and nothing that was there is turned. -/
import Derived.Test.YtgddbpmfendaeaaQueueLaws
import Derived.Test.YtgddbpmfendaeaaLxQ
set_option linter.unusedVariables false
set_option linter.unusedSimpArgs false
namespace Go.Proofs.Ytgddbpmfendaeaa.Lx
open Go Go.Proofs Go.RowKit

theorem QueuePeeks_true : ∀ (W : World) (u0 : Sl) (u1 : Sl), (GSl c_api_Class (Try.prog.bytesOf 41) (fun W u => G41 W u) W u0) → (GSl c_weirlaw18_Op (Try.prog.bytesOf 48) (fun W u => G48 W u) W u1) → ∃ W', weirlaw18_QueuePeeks u0 u1 W = some (true, W') ∧ Below W.heap.size W W' := by
  intro W u0 u1 g0 g1
  have b41 : Try.prog.bytesOf 41 = 40 := by kernel_rfl
  have b48 : Try.prog.bytesOf 48 = 40 := by kernel_rfl
  have hr : reachBytes = 140737488351232 := rfl
  obtain ⟨os, _, ho, s⟩ := (Ss.start W).args g1 (by decide)
  obtain ⟨xs, _, hx, s⟩ := s.args g0 (by decide)
  rw [b41, hr] at hx
  rw [b48, hr] at ho
  have main : WP (weirlaw18_QueuePeeks u0 u1) W (fun r W' => r = true ∧ Below W.heap.size W W') := by
    unfold weirlaw18_QueuePeeks
    refine WP.step (plays_wp _ _ s (by omega) (by omega)) ?_
    intro r w h
    exact WP.ret h
  obtain ⟨r, W', h1, rfl, h2⟩ := main
  exact ⟨W', h1, h2⟩
end Go.Proofs.Ytgddbpmfendaeaa.Lx
