/- The law QueueStays, of its program in the M-world: what asks, and what is refused, changes nothing: it answers true, and nothing that was there is turned. -/
import Derived.Test.YtgddbpmfendaeaaQueueOf
import Derived.Test.YtgddbpmfendaeaaLxQ
set_option linter.unusedVariables false
set_option linter.unusedSimpArgs false
namespace Go.Proofs.Ytgddbpmfendaeaa.Lx
open Go Go.Proofs Go.RowKit

theorem ofL_twice (xs : List api_Class) : ofL (ofL xs) = ofL xs := by
  show (if newOk (ofL xs) = true then ofL xs else twoL) = ofL xs
  rw [if_pos (ofL_ok xs)]
theorem first_push {xs : List api_Class} (h : newOk xs = true) (id : Int) : ((newQ xs).push 0 1 id).2 = 0 := by
  have ok := newQ_ok h
  have h0 : 0 < (newQ xs).n := ok.n0
  unfold QM.push
  rw [if_neg (by omega), if_neg (by omega)]
  simp only
  have hk := getD_get (z := default) (i := (0 : Int).toNat) (l := (newQ xs).cl) h0
  generalize (newQ xs).cl.getD (0 : Int).toNat default = k at hk
  have hk' := hk
  have hc := okClass_iff.1 (ok.cl k (List.mem_of_getElem? hk)).c
  have hq : k.q = [] := newQ_fresh xs k (List.mem_of_getElem? hk)
  rw [if_neg]
  rw [hq]
  simp [sizes]
  omega
theorem push_n (m : QM) (a b c : Int) : (m.push a b c).1.n = m.n := by
  unfold QM.push
  split
  · rfl
  · split
    · rfl
    · simp only
      split
      · rfl
      · unfold QM.n
        simp
theorem tick_n (m : QM) : m.tick.n = m.n := by unfold QM.tick QM.n; simp
theorem take_n (m : QM) : m.take.n = m.n := QM.setc_n
theorem Pops.n {m m2 : QM} {r : Int × Int × Bool} (h : Pops m r m2) (ok : m.Ok) : m2.n = m.n := by
  cases h with
  | none _ => rfl
  | item h ht hx => rw [take_n, (ht.ok ok).2.1]
theorem push_out (m : QM) (b c : Int) : m.push m.n b c = (m, 181) := by
  unfold QM.push
  rw [if_pos (.inr (Int.le_refl _))]
theorem push_size {m : QM} (ok : m.Ok) (c : Int) : m.push 0 0 c = (m, 182) := by
  have := ok.n0
  unfold QM.push
  rw [if_neg (by omega), if_pos (.inl (by omega))]
theorem QueueStays_true : ∀ (W : World) (u0 : Sl) (u1 : Sl), (GSl c_api_Class (Try.prog.bytesOf 41) (fun W u => G41 W u) W u0) → (GSl c_weirlaw18_Op (Try.prog.bytesOf 48) (fun W u => G48 W u) W u1) → ∃ W', weirlaw18_QueueStays u0 u1 W = some (true, W') ∧ Below W.heap.size W W' := by
  intro W u0 u1 g0 g1
  have b41 : Try.prog.bytesOf 41 = 40 := by kernel_rfl
  have b48 : Try.prog.bytesOf 48 = 40 := by kernel_rfl
  have hr : reachBytes = 140737488351232 := rfl
  obtain ⟨os, _, ho, s⟩ := (Ss.start W).args g1 (by decide)
  obtain ⟨xs, _, hx, s⟩ := s.args g0 (by decide)
  rw [b48, hr] at ho
  have main : WP (weirlaw18_QueueStays u0 u1) W (fun r W' => r = true ∧ Below W.heap.size W W') := by
    unfold weirlaw18_QueueStays
    refine WP.step (queueOf_wp s 0 rfl) ?_
    rintro ⟨_, l1⟩ w ⟨q1, rfl, s⟩
    refine WP.step (queueOf_wp s 1 rfl) ?_
    rintro ⟨_, l2⟩ w ⟨q2, rfl, s⟩
    rw [ofL_twice] at s
    have okL := ofL_ok xs
    generalize ofL xs = ys at s okL
    have hn : (newQ ys).n = ys.length := by unfold QM.n newQ; simp
    have h8 := (newQ_ok okL).n8
    refine WP.step (R := fun y w' => y = false ∧ w = w') (WP.ite (fun h => by cases h) (fun _ => WP.ret ⟨rfl, rfl⟩)) ?_
    rintro _ _ ⟨rfl, rfl⟩
    have s1 := s.use [2, 0] rfl
    refine WP.step (R := fun y w' => y = false ∧ ∃ m, m.n = ys.length ∧ Ss W (Queue (some q1) m :: Queue (some q2) (newQ ys) :: [rdS c_api_Class false l2 ys, rdS c_api_Class false l1 ys, rdS c_api_Class false u0 xs, rdS c_weirlaw18_Op false u1 os]) w' ∧ m = ((newQ ys).push 0 1 7).1) (WP.ite (fun h => by cases h) (fun _ => WP.step (Push_wp s1 0 1 7) ?_)) ?_
    · rintro _ w ⟨rfl, s⟩
      unfold weirlaw18_num
      refine WP.step (R := fun y w' => y = (0 : Int) ∧ w = w') (WP.ret ⟨first_push okL 7, rfl⟩) ?_
      rintro _ _ ⟨rfl, rfl⟩
      exact WP.ret ⟨rfl, _, (push_n _ _ _ _).trans hn, s, rfl⟩
    rintro _ w ⟨rfl, m1, hm1, s, em1⟩
    refine WP.step (R := fun y w' => y = false ∧ ∃ m, m.n = ys.length ∧ Ss W (Queue (some q1) m :: Queue (some q2) m :: [rdS c_api_Class false l2 ys, rdS c_api_Class false l1 ys, rdS c_api_Class false u0 xs, rdS c_weirlaw18_Op false u1 os]) w') (WP.ite (fun h => by cases h) (fun _ => WP.step (Push_wp (s.use [1] rfl) 0 1 7) ?_)) ?_
    · rintro _ w ⟨rfl, s⟩
      unfold weirlaw18_num
      refine WP.step (R := fun y w' => y = (0 : Int) ∧ w = w') (WP.ret ⟨first_push okL 7, rfl⟩) ?_
      rintro _ _ ⟨rfl, rfl⟩
      rw [← em1] at s
      exact WP.ret ⟨rfl, m1, hm1, s.use [1] rfl⟩
    rintro _ w ⟨rfl, m, hm, s⟩
    refine WP.ite (fun h => by cases h) (fun _ => ?_)
    have hlo := (s.rd_len (i := 5) rfl rdS_rdb).1
    have hl1 := (s.rd_len (i := 3) rfl rdS_rdb).1
    refine WP.loop (fun (k : Int) w' => 0 ≤ k ∧ k ≤ os.length ∧ ∃ m, m.n = ys.length ∧ Ss W (Queue (some q1) m :: Queue (some q2) m :: [rdS c_api_Class false l2 ys, rdS c_api_Class false l1 ys, rdS c_api_Class false u0 xs, rdS c_weirlaw18_Op false u1 os]) w') (fun k _ => ((os.length : Int) - k).toNat) ⟨by omega, by omega, m, hm, s⟩ ?_
    rintro k w ⟨k0, k1, m, hm, s⟩
    unfold weirlaw18_QueueStays.L1
    refine WP.ite (fun hk => ?_) (fun hk => WP.done ⟨rfl, s.below⟩)
    rw [hlo] at hk
    have hkl : k.toNat < os.length := by omega
    have hx := List.getElem?_eq_getElem hkl
    generalize os[k.toNat] = o at hx
    have ok := s.len_ge
    obtain ⟨res, m2, hp⟩ := Pops.exist ok
    refine WP.rdx s 5 rfl rdS_rdb k0 hx rfl (WP.slot' s (fun b w s => ?_))
    refine WP.step (Peek_wp s hp) ?_
    rintro _ w ⟨_, s⟩
    refine WP.step (Len_wp s _) ?_
    rintro _ w ⟨_, s⟩
    refine WP.step (Bytes_wp s _) ?_
    rintro _ w ⟨_, s⟩
    have e1 : ((l1.len : Nat) : Int) = (m.n : Int) := by rw [hl1, hm]
    simp only [e1]
    refine WP.step (Push_wp s (m.n : Int) 5 5) ?_
    rintro _ w ⟨rfl, s⟩
    rw [push_out] at s ⊢
    unfold weirlaw18_num
    refine WP.step (R := fun y w' => y = (181 : Int) ∧ w = w') (WP.ret ⟨rfl, rfl⟩) ?_
    rintro _ _ ⟨rfl, rfl⟩
    refine WP.step (R := fun y w' => y = false ∧ Ss W (Queue (some q1) m :: Queue (some q2) m :: [rdS c_api_Class false l2 ys, rdS c_api_Class false l1 ys, rdS c_api_Class false u0 xs, rdS c_weirlaw18_Op false u1 os]) w') (WP.ite (fun h => absurd rfl h) (fun _ => WP.step (Push_wp s 0 0 5) ?_)) ?_
    · rintro _ w ⟨rfl, s⟩
      rw [push_size ok] at s ⊢
      refine WP.step (R := fun y w' => y = (182 : Int) ∧ w = w') (WP.ret ⟨rfl, rfl⟩) ?_
      rintro _ _ ⟨rfl, rfl⟩
      exact WP.ret ⟨rfl, s⟩
    rintro _ w ⟨rfl, s⟩
    refine WP.ite (fun h => by cases h) (fun _ => ?_)
    have fin : ∀ (m' : QM) (w : World), m'.n = ys.length → Ss W (Queue (some q1) m' :: Queue (some q2) m' :: [rdS c_api_Class false l2 ys, rdS c_api_Class false l1 ys, rdS c_api_Class false u0 xs, rdS c_weirlaw18_Op false u1 os]) w → WP (pure (LS.next (IntKind.wrap .i64 (k + 1))) : M (LS Int Bool)) w (WP.Rd (fun k' w' => (0 ≤ k' ∧ k' ≤ os.length ∧ ∃ m, m.n = ys.length ∧ Ss W (Queue (some q1) m :: Queue (some q2) m :: [rdS c_api_Class false l2 ys, rdS c_api_Class false l1 ys, rdS c_api_Class false u0 xs, rdS c_weirlaw18_Op false u1 os]) w') ∧ ((os.length : Int) - k').toNat < ((os.length : Int) - k).toNat) (fun r w' => r = true ∧ Below W.heap.size W w')) := by
      intro m' w hm' s
      refine WP.next ?_
      rw [wrap_i64 (by omega) (by omega)]
      exact ⟨⟨by omega, by omega, m', hm', s⟩, by omega⟩
    refine WP.ite (fun _ => WP.draw' s (fun w s => WP.step (Push_wp s _ _ _) ?_)) (fun _ => WP.ite (fun _ => WP.step (Pop_wp s hp) ?_) (fun _ => WP.ite (fun _ => WP.step (Tick_wp s) ?_) (fun _ => fin m w hm s)))
    · rintro _ w ⟨rfl, s⟩
      refine WP.step (R := fun y w' => y = (m.push o.Class o.Size o.Item).2 ∧ w = w') (WP.ret ⟨rfl, rfl⟩) ?_
      rintro _ _ ⟨rfl, rfl⟩
      refine WP.step (Push_wp (s.use [1] rfl) _ _ _) ?_
      rintro _ w ⟨rfl, s⟩
      refine WP.step (R := fun y w' => y = (m.push o.Class o.Size o.Item).2 ∧ w = w') (WP.ret ⟨rfl, rfl⟩) ?_
      rintro _ _ ⟨rfl, rfl⟩
      exact WP.ite (fun h => absurd rfl h) (fun _ => fin _ w ((push_n _ _ _ _).trans hm) (s.use [1] rfl))
    · rintro _ w ⟨rfl, s⟩
      refine WP.step (Pop_wp (s.use [1] rfl) hp) ?_
      rintro _ w ⟨rfl, s⟩
      refine WP.step (R := fun y w' => y = false ∧ w = w') (WP.ite (fun h => absurd rfl h) (fun _ => WP.ret ⟨by simp, rfl⟩)) ?_
      rintro _ _ ⟨rfl, rfl⟩
      refine WP.step (R := fun y w' => y = false ∧ w = w') (WP.ite (fun h => by cases h) (fun _ => WP.ret ⟨by simp, rfl⟩)) ?_
      rintro _ _ ⟨rfl, rfl⟩
      exact WP.ite (fun h => by cases h) (fun _ => fin _ w ((hp.n ok).trans hm) (s.use [1] rfl))
    · intro _ w s
      refine WP.step (Tick_wp (s.use [1] rfl)) ?_
      intro _ w s
      exact fin _ w ((tick_n m).trans hm) (s.use [1] rfl)
  obtain ⟨r, W', h1, rfl, h2⟩ := main
  exact ⟨W', h1, h2⟩
end Go.Proofs.Ytgddbpmfendaeaa.Lx
