/- The law QueueMakes, of its program in the M-world: which classes make a queue, and a new one holds nothing: it answers true, and nothing that was there is turned. -/
import Derived.Test.YtgddbpmfendaeaaQueueLaws
import Derived.Test.YtgddbpmfendaeaaLxQ
set_option linter.unusedVariables false
set_option linter.unusedSimpArgs false
namespace Go.Proofs.Ytgddbpmfendaeaa.Lx
open Go Go.Proofs Go.RowKit

theorem QueueMakes_true : ∀ (W : World) (u0 : Sl), (GSl c_api_Class (Try.prog.bytesOf 41) (fun W u => G41 W u) W u0) → ∃ W', weirlaw18_QueueMakes u0 W = some (true, W') ∧ Below W.heap.size W W' := by
  intro W u0 g0
  have b41 : Try.prog.bytesOf 41 = 40 := by kernel_rfl
  have hr : reachBytes = 140737488351232 := rfl
  obtain ⟨xs, _, hx, s⟩ := (Ss.start W).args g0 (by decide)
  rw [b41, hr] at hx
  have main : WP (weirlaw18_QueueMakes u0) W (fun r W' => r = true ∧ Below W.heap.size W W') := by
    unfold weirlaw18_QueueMakes
    refine WP.step (started_wp s) ?_
    rintro _ w ⟨rfl, s⟩
    refine WP.step (made_wp s 0 rfl rdS_rdb (by omega)) ?_
    rintro ⟨p, okp⟩ w ⟨hok, m, fr, s⟩
    simp only at hok s
    subst hok
    refine WP.slot' s (fun b w s => ?_)
    refine WP.step (R := fun y w' => y = false ∧ w = w') (WP.ite (fun h => absurd rfl h) (fun _ => WP.ret ⟨rfl, rfl⟩)) ?_
    rintro _ _ ⟨rfl, rfl⟩
    refine WP.ite (fun h => by cases h) (fun _ => ?_)
    refine WP.step (Pop_wp s (.none (fresh_some fr))) ?_
    rintro _ w ⟨rfl, s⟩
    have one : ∀ (w : World) (y : M Int) (a : Int), a = 0 → WP y w (fun r w' => r = a ∧ Ss W (Queue p.Q m :: RQ p.R m :: [rdS c_api_Class false u0 xs]) w') → WP (y >>= fun r => pure (r == 0)) w (fun r w' => r = true ∧ Ss W (Queue p.Q m :: RQ p.R m :: [rdS c_api_Class false u0 xs]) w') := by
      intro w y a ha h
      refine WP.step h ?_
      rintro _ w ⟨rfl, s⟩
      exact WP.ret ⟨by rw [ha]; rfl, s⟩
    refine WP.step (R := fun r w' => r = true ∧ Ss W (Queue p.Q m :: RQ p.R m :: [rdS c_api_Class false u0 xs]) w') (WP.ite (fun _ => one w _ _ (fresh_len fr 0) (Len_wp s 0)) (fun h => absurd (by simp) h)) ?_
    rintro _ w ⟨rfl, s⟩
    refine WP.step (R := fun r w' => r = true ∧ Ss W (Queue p.Q m :: RQ p.R m :: [rdS c_api_Class false u0 xs]) w') (WP.ite (fun _ => one w _ _ (fresh_bytes fr 0) (Bytes_wp s 0)) (fun h => absurd rfl h)) ?_
    rintro _ w ⟨rfl, s⟩
    refine WP.step (R := fun r w' => r = true ∧ Ss W (Queue p.Q m :: RQ p.R m :: [rdS c_api_Class false u0 xs]) w') (WP.ite (fun _ => one w _ _ (fresh_len fr (-1)) (Len_wp s (-1))) (fun h => absurd rfl h)) ?_
    rintro _ w ⟨rfl, s⟩
    refine WP.step (R := fun r w' => r = true ∧ Ss W (Queue p.Q m :: RQ p.R m :: [rdS c_api_Class false u0 xs]) w') (WP.ite (fun _ => one w _ _ (fresh_bytes fr 99) (Bytes_wp s 99)) (fun h => absurd rfl h)) ?_
    rintro _ w ⟨rfl, s⟩
    exact WP.ret ⟨rfl, s.below⟩
  obtain ⟨r, W', h1, rfl, h2⟩ := main
  exact ⟨W', h1, h2⟩
end Go.Proofs.Ytgddbpmfendaeaa.Lx
