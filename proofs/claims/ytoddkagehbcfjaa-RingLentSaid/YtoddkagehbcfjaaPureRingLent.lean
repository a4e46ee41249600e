/- The law RingLent, of its program in the M-world: what Drain and Places hand out is new memory each time: it answers true, and nothing that was there is turned. -/
import Derived.Test.YtoddkagehbcfjaaRingPlay
import Derived.Test.YtoddkagehbcfjaaRingInts
import Derived.Test.YtoddkagehbcfjaaLxQ
set_option linter.unusedVariables false
set_option linter.unusedSimpArgs false
namespace Go.Proofs.Ytoddkagehbcfjaa.Lx
open Go Go.Proofs Go.RowKit

theorem RingLent_true : ∀ (W : World) (u0 : Int) (u1 : Int) (u2 : Int) (u3 : Int) (u4 : Sl), ((Lit.int .i64 u0).wf = true) → ((Lit.int .i64 u1).wf = true) → ((Lit.int .i64 u2).wf = true) → ((Lit.int .i64 u3).wf = true) → (GSl c_weirlaw3_Op (Try.prog.bytesOf 45) (fun W u => G45 W u) W u4) → ∃ W', weirlaw3_RingLent u0 u1 u2 u3 u4 W = some (true, W') ∧ Below W.heap.size W W' := by
  intro W u0 u1 u2 u3 u4 _ _ _ _ g4
  have b45 : Try.prog.bytesOf 45 = 56 := by kernel_rfl
  have hr : reachBytes = 140737488351232 := rfl
  obtain ⟨ops, ho, hb, s⟩ := (Ss.start W).args g4 (by decide)
  rw [b45, hr] at hb
  have main : WP (weirlaw3_RingLent u0 u1 u2 u3 u4) W (fun r W' => r = true ∧ Below W.heap.size W W') := by
    unfold weirlaw3_RingLent
    refine WP.step (port_wp s u0 u1 u2 u3) ?_
    rintro _ w ⟨pa, rx, tx, pool, size, rfl, hE, _, s⟩
    have hn0 : (newM rx tx pool size).n = pool := by unfold newM RM.n; simp
    refine WP.step (R := fun y w' => y = false ∧ Ss W (Port (some pa) (newM rx tx pool size) (List.replicate pool none) :: [rdS c_weirlaw3_Op false u4 ops]) w') (WP.ite (fun h => by cases h) (fun _ => WP.step (started_wp s) ?_)) ?_
    · rintro _ w ⟨rfl, s⟩
      exact WP.ret ⟨rfl, s⟩
    rintro _ w ⟨rfl, s⟩
    refine WP.ite (fun h => by cases h) (fun _ => WP.newv s (fun b4 w s => WP.newv (bk_new s) (fun b5 w s => ?_)))
    have s := (ik_new s).use [2, 1] rfl
    have hlo := (s.rd_len (i := 3) rfl rdS_rdb).1
    refine WP.loop (fun (k : Int) w' => 0 ≤ k ∧ k ≤ ops.length ∧ k ≤ 200 ∧ ∃ m ad xss yss, m.n = pool ∧ xss.length ≤ k.toNat ∧ yss.length ≤ 2 * k.toNat ∧ Ss W [Port (some pa) m ad, BookP (some (pt b4 0)) xss, IntsP (some (pt b5 0)) yss, rdS c_weirlaw3_Op false u4 ops] w') (fun k _ => ((ops.length : Int) - k).toNat) ⟨by omega, by omega, by omega, _, _, [], [], hn0, by simp, by simp, s⟩ ?_
    clear s
    rintro k w ⟨k0, k1, k2, m, ad, xss, yss, hm, hx, hy, s⟩
    unfold weirlaw3_RingLent.L1
    refine WP.step (R := fun y w' => y = decide (k < ops.length ∧ k < 200) ∧ w = w') (WP.ite (fun h => WP.ret ⟨by rw [hlo] at h; simp [h], rfl⟩) (fun h => WP.ret ⟨by rw [hlo] at h; simp [h], rfl⟩)) ?_
    rintro _ _ ⟨rfl, rfl⟩
    refine WP.ite (fun h => ?_) (fun h => ?_)
    · obtain ⟨h1, h2⟩ := of_decide_eq_true h
      have hxo := List.getElem?_eq_getElem (show k.toNat < ops.length by omega)
      generalize ops[k.toNat] = o at hxo
      have ok := s.okR
      -- behind the step, both are untouched
      have fin : ∀ {w : World} {m : RM} {ad : List (Option Addr)} {xss yss : List (List Int)}, m.n = pool → xss.length ≤ k.toNat + 1 → yss.length ≤ 2 * k.toNat + 2 → Ss W [Port (some pa) m ad, BookP (some (pt b4 0)) xss, IntsP (some (pt b5 0)) yss, rdS c_weirlaw3_Op false u4 ops] w → WP (weirlaw3_RingLent.K1 b4 b5 k) w (WP.Rd (fun k' w' => (0 ≤ k' ∧ k' ≤ ops.length ∧ k' ≤ 200 ∧ ∃ m ad xss yss, m.n = pool ∧ xss.length ≤ k'.toNat ∧ yss.length ≤ 2 * k'.toNat ∧ Ss W [Port (some pa) m ad, BookP (some (pt b4 0)) xss, IntsP (some (pt b5 0)) yss, rdS c_weirlaw3_Op false u4 ops] w') ∧ ((ops.length : Int) - k').toNat < ((ops.length : Int) - k).toNat) (fun r w' => r = true ∧ Below W.heap.size W w')) := by
        intro w m ad xss yss hm hx hy s
        unfold weirlaw3_RingLent.K1
        refine WP.step (bk_untouched (s.use [1] rfl) (by omega)) ?_
        rintro _ w ⟨rfl, s⟩
        refine WP.step (R := fun y w' => y = false ∧ Ss W [IntsP (some (pt b5 0)) yss, BookP (some (pt b4 0)) xss, Port (some pa) m ad, rdS c_weirlaw3_Op false u4 ops] w') (WP.ite (fun h => absurd rfl h) (fun _ => WP.step (ik_untouched (s.use [2] rfl) (by omega)) ?_)) ?_
        · rintro _ w ⟨rfl, s⟩
          exact WP.ret ⟨rfl, s⟩
        rintro _ w ⟨rfl, s⟩
        refine WP.ite (fun h => by cases h) (fun _ => WP.next ?_)
        rw [wrap_i64 (by omega) (by omega)]
        exact ⟨⟨by omega, by omega, by omega, m, ad, xss, yss, hm, by omega, by omega, s.use [2, 1] rfl⟩, by omega⟩
      refine WP.rdx s 3 rfl rdS_rdb k0 hxo rfl (WP.slot' s (fun _ w s => ?_))
      refine WP.ite (fun _ => WP.step (Drain_wp s) ?_) (fun _ => WP.ite (fun _ => ?_) (fun _ => ?_))
      · intro r w hr
        cases hL : m.L 5 with
        | nil =>
          rw [hL] at hr
          obtain ⟨rfl, s⟩ := hr
          refine WP.step (R := fun y w' => y = false ∧ w = w') (WP.ite (fun _ => WP.ret ⟨rfl, rfl⟩) (fun h => absurd (by simp) h)) ?_
          rintro _ _ ⟨rfl, rfl⟩
          refine WP.ite (fun h => by cases h) (fun _ => ?_)
          have s := ((s.use [1] rfl).mk0 (A := fullB Sl.nil []) vec_nil)
          refine WP.step (bk_keep s ⟨(by intro x h; cases h), by simp⟩ (by omega)) ?_
          intro _ w s
          exact fin hm (by simp; omega) (by omega) (s.use [1] rfl)
        | cons i t =>
          rw [hL] at hr
          obtain ⟨ad', hr2, hext, s⟩ := hr
          have hi := ok.lt (k := 5) (.inr (.inr (.inr rfl))) (by rw [hL]; simp : i ∈ m.L 5)
          have hcb := con_bytes ok hi
          obtain ⟨q1, q2, q3, q4, q5⟩ := con_len ok hi
          have hs1 := ok.s1
          have hcl : (con m i).length ≤ 1000000 := by unfold con; rw [List.length_take]; omega
          refine WP.step (R := fun y w' => y = false ∧ w = w') (WP.ite (fun h => absurd hr2 h) (fun _ => WP.ret ⟨rfl, rfl⟩)) ?_
          rintro _ _ ⟨rfl, rfl⟩
          refine WP.ite (fun h => by cases h) (fun _ => ?_)
          have s : Ss W (fullB r.1 (con m i) :: BookP (some (pt b4 0)) xss :: Port (some pa) ((m.out 5).mv i 1) ad' :: [IntsP (some (pt b5 0)) yss, rdS c_weirlaw3_Op false u4 ops]) w := s.use [0, 1] rfl
          refine WP.step (bk_keep s ⟨hcb, hcl⟩ (by omega)) ?_
          intro _ w s
          exact fin (m := (m.out 5).mv i 1) hm (by simp; omega) (by omega) (s.use [1] rfl)
      · refine WP.ite (fun _ => WP.next ?_) (fun hp => WP.step (Places_wp s) ?_)
        · rw [wrap_i64 (by omega) (by omega)]
          exact ⟨⟨by omega, by omega, by omega, m, ad, xss, yss, hm, by omega, by omega, s⟩, by omega⟩
        have hpl : m.place.length ≤ 1000000 := by rw [ok.pl]; have := ok.n1; omega
        intro a w s
        refine WP.step (Places_wp (s.use [1] rfl)) ?_
        intro b w s
        have hal := (s.vec_len (i := 2) rfl).1
        rw [ok.pl, hm] at hal
        refine WP.step (same_wp s 2 rfl vec_rdb 0 rfl vec_rdb hpl) ?_
        rintro _ w ⟨rfl, s⟩
        refine WP.step (R := fun y w' => y = false ∧ w = w') (WP.ite (fun h => absurd rfl h) (fun _ => WP.ret ⟨?_, rfl⟩)) ?_
        · show ((a.len : Int) != (pool : Int)) = false
          rw [hal]
          simp
        rintro _ _ ⟨rfl, rfl⟩
        refine WP.ite (fun h => by cases h) (fun _ => ?_)
        have s : Ss W (fullI a m.place :: IntsP (some (pt b5 0)) yss :: vec (cI .i64) b m.place [] :: Port (some pa) m ad :: [BookP (some (pt b4 0)) xss, rdS c_weirlaw3_Op false u4 ops]) w := s.use [2, 3, 0, 0] rfl
        refine WP.step (ik_keep s ⟨trivial, hpl⟩ (by omega)) ?_
        intro _ w s
        have s : Ss W (fullI b m.place :: IntsP (some (pt b5 0)) (yss ++ [m.place]) :: Port (some pa) m ad :: [BookP (some (pt b4 0)) xss, rdS c_weirlaw3_Op false u4 ops]) w := s.use [1] rfl
        refine WP.step (ik_keep s ⟨trivial, hpl⟩ (by simp; omega)) ?_
        intro _ w s
        unfold weirlaw3_RingLent.K2
        exact fin hm (by omega) (by simp; omega) (s.use [1, 1] rfl)
      · refine WP.step (do_wp s o (ho o (List.mem_of_getElem? hxo)).2.2.2.2) ?_
        rintro r w ⟨m', ad', hs, _, _, hext, s⟩
        unfold weirlaw3_RingLent.K2
        exact fin (by rw [hs.2.2.2]; exact hm) (by omega) (by omega) s
    · refine WP.step (bk_settle (s.use [1] rfl) (by omega)) ?_
      rintro _ w ⟨rfl, s⟩
      refine WP.step (R := fun y w' => y = true ∧ Below W.heap.size W w') (WP.ite (fun _ => WP.step (ik_settle (s.use [1] rfl) (by omega)) ?_) (fun h => absurd rfl h)) (fun r w h => WP.done h)
      rintro _ w ⟨rfl, s⟩
      exact WP.ret ⟨rfl, s.below⟩
  obtain ⟨r, W', h1, rfl, h2⟩ := main
  exact ⟨W', h1, h2⟩
end Go.Proofs.Ytoddkagehbcfjaa.Lx
