/- The law RingFrames, of its program in the M-world: every answer is the document's: it answers true, and nothing that was there is turned. -/
import Derived.Test.YtoddkagehbcfjaaRingPlay
import Derived.Test.YtoddkagehbcfjaaLxQ
set_option linter.unusedVariables false
set_option linter.unusedSimpArgs false
namespace Go.Proofs.Ytoddkagehbcfjaa.Lx
open Go Go.Proofs Go.RowKit

theorem RingFrames_true : ∀ (W : World) (u0 : Int) (u1 : Int) (u2 : Int) (u3 : Int) (u4 : Sl), ((Lit.int .i64 u0).wf = true) → ((Lit.int .i64 u1).wf = true) → ((Lit.int .i64 u2).wf = true) → ((Lit.int .i64 u3).wf = true) → (GSl c_weirlaw3_Op (Try.prog.bytesOf 45) (fun W u => G45 W u) W u4) → ∃ W', weirlaw3_RingFrames u0 u1 u2 u3 u4 W = some (true, W') ∧ Below W.heap.size W W' := by
  intro W u0 u1 u2 u3 u4 _ _ _ _ g4
  have b45 : Try.prog.bytesOf 45 = 56 := by kernel_rfl
  have hr : reachBytes = 140737488351232 := rfl
  obtain ⟨ops, ho, hb, s⟩ := (Ss.start W).args g4 (by decide)
  rw [b45, hr] at hb
  have main : WP (weirlaw3_RingFrames u0 u1 u2 u3 u4) W (fun r W' => r = true ∧ Below W.heap.size W W') := by
    unfold weirlaw3_RingFrames
    exact WP.step (plays_wp _ _ _ _ _ _ s (fun o h => (ho o h).2.2.2.2) hb) (fun r w h => WP.ret h)
  obtain ⟨r, W', h1, rfl, h2⟩ := main
  exact ⟨W', h1, h2⟩
end Go.Proofs.Ytoddkagehbcfjaa.Lx
