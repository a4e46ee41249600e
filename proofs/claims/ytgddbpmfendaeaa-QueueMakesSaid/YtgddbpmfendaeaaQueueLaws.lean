/- The laws QueueTurns, QueuePeeks and QueuePlays, of their program in the M-world: they answer true, and nothing that was there is turned. -/
import Derived.Test.YtgddbpmfendaeaaQueueMade
set_option linter.unusedVariables false
set_option linter.unusedSimpArgs false
namespace Go.Proofs.Ytgddbpmfendaeaa.Lx
open Go Go.Proofs Go.RowKit

section
variable {W w : World} {Hs : List HP}
theorem plays_wp {a0 a1 : Sl} {xs : List api_Class} {os : List weirlaw18_Op} (lo hi : Int) (s : Ss W [rdS c_api_Class false a0 xs, rdS c_weirlaw18_Op false a1 os] w) (hb : xs.length * 40 ≤ 140737488355328) (ho : os.length ≤ 140737488355328) :
    WP (weirlaw18_plays a0 a1 lo hi) w (fun r w' => r = true ∧ Below W.heap.size W w') := by
  unfold weirlaw18_plays
  refine WP.step (started_wp s) ?_
  rintro _ w ⟨rfl, s⟩
  refine WP.ite (fun h => absurd rfl h) (fun _ => ?_)
  refine WP.step (made_wp s 0 rfl rdS_rdb hb) ?_
  rintro ⟨p, okp⟩ w ⟨hok, m, _, s⟩
  simp only at hok s
  subst hok
  refine WP.slot' s (fun b w s => WP.ite (fun h => absurd rfl h) (fun _ => ?_))
  refine WP.step (two_wp s) ?_
  intro r4 w s
  refine WP.step (made_wp s 0 rfl vec_rdb (by decide)) ?_
  rintro ⟨q, okq⟩ w ⟨hok, m2, _, s⟩
  simp only at hok s
  subst hok
  refine WP.slot' s (fun b w s => ?_)
  have s := (s.use [2] rfl).drop
  have hlen := (s.rd_len (i := 5) rfl rdS_rdb).1
  refine WP.loop (fun (x : Bool × Int × weirlaw18_Side × weirlaw18_Side) w' => x.1 = true ∧ 0 ≤ x.2.1 ∧ x.2.1 ≤ os.length ∧ ∃ mq mp, Ss W [Queue x.2.2.1.Q mq, RQ x.2.2.1.R mq, Queue x.2.2.2.Q mp, RQ x.2.2.2.R mp, rdS c_api_Class false a0 xs, rdS c_weirlaw18_Op false a1 os] w') (fun x _ => ((os.length : Int) - x.2.1).toNat) ⟨rfl, by simp, by simp, m2, m, s⟩ ?_
  rintro ⟨t, k, q, p⟩ w ⟨ht, k0, k1, mq, mp, s⟩
  simp only at ht k0 k1 s
  subst ht
  show WP (weirlaw18_plays.L1 a1 lo hi true k q p) w _
  unfold weirlaw18_plays.L1
  refine WP.step (R := fun y w' => y = decide (k < a1.len) ∧ Ss W [Queue q.Q mq, RQ q.R mq, Queue p.Q mp, RQ p.R mp, rdS c_api_Class false a0 xs, rdS c_weirlaw18_Op false a1 os] w') (WP.ite (fun h => WP.ret ⟨by simp [h], s⟩) (fun h => WP.ret ⟨by simp [h], s⟩)) ?_
  rintro _ w ⟨rfl, s⟩
  refine WP.ite (fun h => ?_) (fun h => WP.done ⟨rfl, s.below⟩)
  have h := of_decide_eq_true h
  rw [hlen] at h
  have hkl : k.toNat < os.length := by omega
  have hx := List.getElem?_eq_getElem hkl
  generalize os[k.toNat] = o at hx
  refine WP.rdx s 5 rfl rdS_rdb k0 hx rfl (WP.slot' s (fun b w s => ?_))
  -- what is skipped
  refine WP.step (R := fun _ w' => Ss W [Queue q.Q mq, RQ q.R mq, Queue p.Q mp, RQ p.R mp, rdS c_api_Class false a0 xs, rdS c_weirlaw18_Op false a1 os] w') (WP.ite (fun _ => WP.ret s) (fun _ => WP.ret s)) ?_
  intro y29 w s
  refine WP.step (R := fun _ w' => Ss W [Queue q.Q mq, RQ q.R mq, Queue p.Q mp, RQ p.R mp, rdS c_api_Class false a0 xs, rdS c_weirlaw18_Op false a1 os] w') (WP.ite (fun _ => WP.step (R := fun _ w' => Ss W [Queue q.Q mq, RQ q.R mq, Queue p.Q mp, RQ p.R mp, rdS c_api_Class false a0 xs, rdS c_weirlaw18_Op false a1 os] w') (WP.ite (fun _ => WP.ret s) (fun _ => WP.ret s)) (fun _ _ s => WP.ret s)) (fun _ => WP.ret s)) ?_
  intro y31 w s
  refine WP.ite (fun _ => WP.next ?_) (fun _ => ?_)
  · rw [wrap_i64 (by omega) (by omega)]
    exact ⟨⟨rfl, by simp only; omega, by simp only; omega, mq, mp, s⟩, by simp only; omega⟩
  refine WP.ite (fun _ => ?_) (fun _ => ?_)
  · refine WP.step (step_wp s o) ?_
    rintro r w ⟨hr, m', s⟩
    refine WP.next ?_
    rw [wrap_i64 (by omega) (by omega)]
    exact ⟨⟨hr, by simp only; omega, by simp only; omega, m', mp, s⟩, by simp only; omega⟩
  · refine WP.step (step_wp (s.use [2, 2] rfl) o) ?_
    rintro r w ⟨hr, m', s⟩
    refine WP.next ?_
    rw [wrap_i64 (by omega) (by omega)]
    exact ⟨⟨hr, by simp only; omega, by simp only; omega, mq, m', s.use [2, 2] rfl⟩, by simp only; omega⟩
end
end Go.Proofs.Ytgddbpmfendaeaa.Lx
