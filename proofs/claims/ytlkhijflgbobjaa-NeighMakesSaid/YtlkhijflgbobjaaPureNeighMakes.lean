/- The law NeighMakes, of its program in the M-world: which configurations make a cache; a new one knows nobody: it answers true, and nothing that was there is turned. -/
import Derived.Test.YtlkhijflgbobjaaNeighPlay
import Derived.Test.YtlkhijflgbobjaaLxQ
set_option linter.unusedVariables false
set_option linter.unusedSimpArgs false
namespace Go.Proofs.Ytlkhijflgbobjaa.Lx
open Go Go.Proofs Go.RowKit

theorem NeighMakes_true : ∀ (W : World) (u0 : api_NeighConfig), (G23 W u0) → ∃ W', weirlaw15_NeighMakes u0 W = some (true, W') ∧ Below W.heap.size W W' := by
  intro W u0 _
  have main : WP (weirlaw15_NeighMakes u0) W (fun r W' => r = true ∧ Below W.heap.size W W') := by
    unfold weirlaw15_NeighMakes
    refine WP.slot' (Ss.start W) (fun _ w s => WP.step (started_wp s) ?_)
    rintro _ w ⟨rfl, s⟩
    refine WP.step (made_wp s u0) ?_
    rintro ⟨sd, ok⟩ w ⟨h, c', hc, _, s⟩
    simp only at h s
    subst h
    refine WP.slot' s (fun _ w s => ?_)
    refine WP.step (R := fun y w' => y = true ∧ w = w') (WP.ite (fun _ => WP.ret ⟨rfl, rfl⟩) (fun h => absurd rfl h)) ?_
    rintro _ _ ⟨rfl, rfl⟩
    obtain ⟨ok, s⟩ := s.openS
    refine WP.step (R := fun y w' => y = true ∧ ∃ Hs, Ss W (Cache sd.C ⟨c', []⟩ :: Hs) w') (WP.ite (fun _ => WP.step (All_wp s) ?_) (fun h => absurd rfl h)) ?_
    · rintro q w ⟨sp, s⟩
      have hl := (s.vec_len (i := 0) rfl).1
      exact WP.ret ⟨by rw [hl]; rfl, _, s.drop⟩
    rintro _ w ⟨rfl, Hs, s⟩
    refine WP.step (R := fun y w' => y = true ∧ Ss W (Cache sd.C ⟨c', []⟩ :: Hs) w') (WP.ite (fun _ => WP.step (Waiting_wp s) ?_) (fun h => absurd rfl h)) ?_
    · rintro _ w ⟨rfl, s⟩
      exact WP.ret ⟨rfl, s⟩
    rintro _ w ⟨rfl, s⟩
    exact WP.ret ⟨rfl, s.below⟩
  obtain ⟨r, W', h1, rfl, h2⟩ := main
  exact ⟨W', h1, h2⟩
end Go.Proofs.Ytlkhijflgbobjaa.Lx
