/- The law RingMakes, of its program in the M-world: which numbers make a port; its buffers are all free: it answers true, and nothing that was there is turned. -/
import Derived.Test.YtoddkagehbcfjaaRingPlay
import Derived.Test.YtoddkagehbcfjaaLxQ
set_option linter.unusedVariables false
set_option linter.unusedSimpArgs false
namespace Go.Proofs.Ytoddkagehbcfjaa.Lx
open Go Go.Proofs Go.RowKit

theorem RingMakes_true : ∀ (W : World) (u0 : Int) (u1 : Int) (u2 : Int) (u3 : Int), ((Lit.int .i64 u0).wf = true) → ((Lit.int .i64 u1).wf = true) → ((Lit.int .i64 u2).wf = true) → ((Lit.int .i64 u3).wf = true) → ∃ W', weirlaw3_RingMakes u0 u1 u2 u3 W = some (true, W') ∧ Below W.heap.size W W' := by
  intro W u0 u1 u2 u3 _ _ _ _
  have main : WP (weirlaw3_RingMakes u0 u1 u2 u3) W (fun r W' => r = true ∧ Below W.heap.size W W') := by
    unfold weirlaw3_RingMakes
    refine WP.step (started_wp (Ss.start W)) ?_
    rintro _ w ⟨rfl, s⟩
    refine WP.step (made_wp s u0 u1 u2 u3) ?_
    rintro ⟨sd, ok⟩ w ⟨h, rx, tx, pool, size, _, _, s⟩
    simp only at h s
    subst h
    refine WP.slot' s (fun _ w s => ?_)
    refine WP.step (R := fun y w' => y = true ∧ w = w') (WP.ite (fun _ => WP.ret ⟨rfl, rfl⟩) (fun h => absurd rfl h)) ?_
    rintro _ _ ⟨rfl, rfl⟩
    refine WP.step (R := fun y w' => y = true ∧ Below W.heap.size W w') (WP.ite (fun _ => WP.step (told_wp s) ?_) (fun h => absurd rfl h)) (fun r w h => WP.ret h)
    rintro _ w ⟨rfl, s⟩
    exact WP.ret ⟨rfl, s.below⟩
  obtain ⟨r, W', h1, rfl, h2⟩ := main
  exact ⟨W', h1, h2⟩
end Go.Proofs.Ytoddkagehbcfjaa.Lx
