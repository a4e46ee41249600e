/- The law QueueLines, of its program in the M-world: each item is told just once, with its class, in the class's order; what is refused is refused for its reason alone: it answers true, and nothing that was there is turned. -/
import Derived.Test.YtgddbpmfendaeaaQueueBook
import Derived.Test.YtgddbpmfendaeaaLxQ
set_option linter.unusedVariables false
set_option linter.unusedSimpArgs false
namespace Go.Proofs.Ytgddbpmfendaeaa.Lx
open Go Go.Proofs Go.RowKit

theorem QueueLines_true : ∀ (W : World) (u0 : Sl) (u1 : Sl), (GSl c_api_Class (Try.prog.bytesOf 41) (fun W u => G41 W u) W u0) → (GSl c_weirlaw18_Op (Try.prog.bytesOf 48) (fun W u => G48 W u) W u1) → ∃ W', weirlaw18_QueueLines u0 u1 W = some (true, W') ∧ Below W.heap.size W W' := by
  intro W u0 u1 g0 g1
  have b41 : Try.prog.bytesOf 41 = 40 := by kernel_rfl
  have b48 : Try.prog.bytesOf 48 = 40 := by kernel_rfl
  have hr : reachBytes = 140737488351232 := rfl
  obtain ⟨os, _, ho, s⟩ := (Ss.start W).args g1 (by decide)
  obtain ⟨xs, _, hx, s⟩ := s.args g0 (by decide)
  rw [b48, hr] at ho
  have main : WP (weirlaw18_QueueLines u0 u1) W (fun r W' => r = true ∧ Below W.heap.size W W') := by
    unfold weirlaw18_QueueLines
    refine WP.step (queueOf_wp s 0 rfl) ?_
    rintro ⟨_, l1⟩ w ⟨q1, rfl, s⟩
    refine WP.ite (fun h => by cases h) (fun _ => ?_)
    have okL := ofL_ok xs
    simp only at s
    generalize ofL xs = ys at s okL
    have hn : (newQ ys).n = ys.length := by unfold QM.n newQ; simp
    have ok0 := newQ_ok okL
    have h8 := ok0.n8
    have hl1 := (s.rd_len (i := 1) rfl rdS_rdb).1
    simp only
    rw [hl1]
    refine WP.step (book_wp s (by omega)) ?_
    intro bk w s
    rw [← newQ_qs] at s
    refine WP.slot' s (fun _ w s => WP.draw' s (fun w s => WP.step (Push_wp (s.use [1] rfl) 0 1 (-4)) ?_))
    rintro _ w ⟨rfl, s⟩
    unfold weirlaw18_num
    refine WP.step (R := fun y w' => y = ((newQ ys).push 0 1 (-4)).2 ∧ w = w') (WP.ret ⟨rfl, rfl⟩) ?_
    rintro _ _ ⟨rfl, rfl⟩
    refine WP.step (pushed_wp (s.use [1] rfl) 1 rfl ok0 (newQ_c ys) _ _) ?_
    rintro _ w ⟨rfl, s⟩
    have s : Ss W [Queue (some q1) ((newQ ys).push 0 1 (-4)).1, Book bk ((newQ ys).push 0 1 (-4)).1.qs (List.replicate ys.length 0), rdS c_api_Class false l1 ys, rdS c_api_Class false u0 xs, rdS c_weirlaw18_Op false u1 os] w := s.use [1] rfl
    refine WP.step (R := fun y w' => y = false ∧ Ss W [Queue (some q1) ((newQ ys).push 0 1 (-4)).1, Book bk ((newQ ys).push 0 1 (-4)).1.qs (List.replicate ys.length 0), rdS c_api_Class false l1 ys, rdS c_api_Class false u0 xs, rdS c_weirlaw18_Op false u1 os] w') (WP.ite (fun h => absurd (by simp [z_weirlaw18_Op]) h) (fun _ => WP.step (agrees_wp s) ?_)) ?_
    · rintro _ w ⟨rfl, s⟩
      exact WP.ret ⟨rfl, s⟩
    rintro _ w ⟨rfl, s⟩
    refine WP.ite (fun h => by cases h) (fun _ => ?_)
    have hlo := (s.rd_len (i := 4) rfl rdS_rdb).1
    refine WP.loop (fun (k : Int) w' => 0 ≤ k ∧ k ≤ os.length ∧ ∃ m sv, m.cl.map (·.c) = ys ∧ Ss W [Queue (some q1) m, Book bk m.qs sv, rdS c_api_Class false l1 ys, rdS c_api_Class false u0 xs, rdS c_weirlaw18_Op false u1 os] w') (fun k _ => ((os.length : Int) - k).toNat) ⟨by omega, by omega, _, _, (push_c _ _ _ _).trans (newQ_c ys), s⟩ ?_
    rintro k w ⟨k0, k1, m, sv, hm, s⟩
    unfold weirlaw18_QueueLines.L1
    refine WP.ite (fun hk => ?_) (fun hk => WP.done ⟨rfl, s.below⟩)
    rw [hlo] at hk
    have hkl : k.toNat < os.length := by omega
    have hx := List.getElem?_eq_getElem hkl
    generalize os[k.toNat] = o at hx
    have ok := s.len_ge
    obtain ⟨⟨y, d, is⟩, m2, hp⟩ := Pops.exist ok
    refine WP.rdx s 4 rfl rdS_rdb k0 hx rfl (WP.slot' s (fun b w s => ?_))
    have fin : ∀ (m' : QM) (sv' : List Int) (w : World), m'.cl.map (·.c) = ys → Ss W [Queue (some q1) m', Book bk m'.qs sv', rdS c_api_Class false l1 ys, rdS c_api_Class false u0 xs, rdS c_weirlaw18_Op false u1 os] w → WP (weirlaw18_Book_agrees bk (some q1) >>= fun r =>
        if ¬ (r = true) then pure (LS.done false) else pure (LS.next (IntKind.wrap .i64 (k + 1)))) w (WP.Rd (fun k' w' => (0 ≤ k' ∧ k' ≤ os.length ∧ ∃ m sv, m.cl.map (·.c) = ys ∧ Ss W [Queue (some q1) m, Book bk m.qs sv, rdS c_api_Class false l1 ys, rdS c_api_Class false u0 xs, rdS c_weirlaw18_Op false u1 os] w') ∧ ((os.length : Int) - k').toNat < ((os.length : Int) - k).toNat) (fun r w' => r = true ∧ Below W.heap.size W w')) := by
      intro m' sv' w hm' s
      refine WP.step (agrees_wp s) ?_
      rintro _ w ⟨rfl, s⟩
      refine WP.ite (fun h => absurd rfl h) (fun _ => WP.next ?_)
      rw [wrap_i64 (by omega) (by omega)]
      exact ⟨⟨by omega, by omega, m', sv', hm', s⟩, by omega⟩
    refine WP.ite (fun _ => WP.draw' s (fun w s => WP.step (Push_wp s _ _ _) ?_)) (fun _ => WP.ite (fun _ => WP.step (Peek_wp s hp) ?_) (fun _ => WP.ite (fun _ => WP.step (Tick_wp s) ?_) (fun _ => fin m sv w hm s)))
    · rintro _ w ⟨rfl, s⟩
      refine WP.step (R := fun y w' => y = (m.push o.Class o.Size o.Item).2 ∧ w = w') (WP.ret ⟨rfl, rfl⟩) ?_
      rintro _ _ ⟨rfl, rfl⟩
      refine WP.step (pushed_wp (s.use [1] rfl) 1 rfl ok hm _ _) ?_
      rintro _ w ⟨rfl, s⟩
      exact WP.ite (fun h => absurd (by simp) h) (fun _ => fin _ sv w ((push_c _ _ _ _).trans hm) (s.use [1] rfl))
    · rintro _ w ⟨rfl, s⟩
      refine WP.step (Pop_wp s hp) ?_
      rintro _ w ⟨rfl, s⟩
      refine WP.step (R := fun y w' => y = false ∧ w = w') (WP.ite (fun h => absurd rfl h) (fun _ => WP.ret ⟨by simp, rfl⟩)) ?_
      rintro _ _ ⟨rfl, rfl⟩
      refine WP.step (R := fun y w' => y = false ∧ w = w') (WP.ite (fun h => by cases h) (fun _ => WP.ret ⟨by simp, rfl⟩)) ?_
      rintro _ _ ⟨rfl, rfl⟩
      refine WP.step (R := fun y w' => y = false ∧ ∃ sv', Ss W [Queue (some q1) m2, Book bk m2.qs sv', rdS c_api_Class false l1 ys, rdS c_api_Class false u0 xs, rdS c_weirlaw18_Op false u1 os] w') (WP.ite (fun h => by cases h) (fun _ => WP.step (R := fun y w' => y = false ∧ ∃ sv', Ss W [Queue (some q1) m2, Book bk m2.qs sv', rdS c_api_Class false l1 ys, rdS c_api_Class false u0 xs, rdS c_weirlaw18_Op false u1 os] w') ?_ (fun y w h => WP.ret h))) ?_
      · refine WP.ite (fun h => ?_) (fun h => WP.ret ⟨rfl, sv, ?_⟩)
        · simp only at h
          subst h
          obtain ⟨i, x, q', rfl, hi, rfl, hq, hq2, h1, h2, h3, h4⟩ := hp.first ok
          refine WP.step (popped_wp (s.use [1] rfl) hq h1 h2 h3 h4) ?_
          rintro _ w ⟨rfl, s⟩
          rw [← hq2] at s
          exact WP.ret ⟨rfl, _, s.use [1] rfl⟩
        · cases hp with
          | none _ => exact s
          | item _ _ _ => exact absurd rfl h
      rintro _ w ⟨rfl, sv', s⟩
      exact WP.ite (fun h => by cases h) (fun _ => fin _ sv' w ((hp.c ok).trans hm) s)
    · intro _ w s
      exact fin m.tick sv w ((tick_c m).trans hm) (by rw [tick_qs]; exact s)
  obtain ⟨r, W', h1, rfl, h2⟩ := main
  exact ⟨W', h1, h2⟩
end Go.Proofs.Ytgddbpmfendaeaa.Lx
