/- The law RingPlaces, of its program in the M-world: each buffer is at just one place, no ring has more than its places, a step moves the buffers that it says: it answers true, and nothing that was there is turned. -/
import Derived.Test.YtoddkagehbcfjaaRingSaid
import Derived.Test.YtoddkagehbcfjaaLxQ
set_option linter.unusedVariables false
set_option linter.unusedSimpArgs false
namespace Go.Proofs.Ytoddkagehbcfjaa.Lx
open Go Go.Proofs Go.RowKit

section
variable {W w : World} {R : List HP} {p : Option Addr} {ad : List (Option Addr)} {m : RM}
theorem together_wp (s : Ss W (Port p m ad :: R) w) : WP (weirlaw3_together p (m.n : Int)) w (fun r w' => r = true ∧ Ss W (Port p m ad :: R) w') := by
  unfold weirlaw3_together
  have ok := s.okR
  have hn := ok.n1
  refine WP.step (Places_wp s) ?_
  intro r1 w s
  have hl := (s.vec_len (i := 0) rfl).1
  rw [ok.pl] at hl
  refine WP.slot' s (fun _ w s => ?_)
  refine WP.loop (fun (x : Int × Vec Int 6) w' => 0 ≤ x.1 ∧ x.1 ≤ m.n ∧ (∀ k : Nat, 1 ≤ k → k ≤ 5 → x.2.l[k]? = some (((m.place.take x.1.toNat).count (k : Int) : Nat) : Int)) ∧ Ss W (vec (cI .i64) r1 m.place [] :: Port p m ad :: R) w') (fun x _ => ((m.n : Int) - x.1).toNat) ⟨by simp, by simp, fun k h1 h2 => ?_, s⟩ ?_
  · show (List.replicate 6 (0 : Int))[k]? = _
    rw [List.getElem?_replicate, if_pos (by omega)]
    simp
  clear s
  rintro ⟨k, v⟩ w ⟨k0, k1, hv, s⟩
  simp only at k0 k1 hv
  show WP (weirlaw3_together.L1 p (m.n : Int) r1 k v) w _
  unfold weirlaw3_together.L1
  refine WP.ite (fun hk => ?_) (fun hk => ?_)
  · rw [hl] at hk
    have hkl : k.toNat < m.place.length := by rw [ok.pl]; omega
    have hx := List.getElem?_eq_getElem hkl
    generalize m.place[k.toNat] = x at hx
    have hb := ok.place_get hx
    refine WP.rdx s 0 rfl vec_rdb k0 hx rfl ?_
    refine WP.step (R := fun y w' => y = false ∧ w = w') (WP.ite (fun h => by omega) (fun h => WP.rdx s 0 rfl vec_rdb k0 hx rfl (WP.ret ⟨by simp; omega, rfl⟩))) ?_
    rintro _ _ ⟨rfl, rfl⟩
    refine WP.ite (fun h => by cases h) (fun _ => WP.rdx s 0 rfl vec_rdb k0 hx rfl (WP.chk (by omega) (WP.chk (by omega) (WP.next ?_))))
    rw [wrap_i64 (n := k + 1) (by omega) (by omega)]
    refine ⟨⟨by simp only; omega, by simp only; omega, fun j h1 h2 => ?_, s⟩, by simp only; omega⟩
    have hcnt : ∀ j : Nat, (m.place.take (k + 1).toNat).count (j : Int) = (m.place.take k.toNat).count (j : Int) + (if x = (j : Int) then 1 else 0) := by
      intro j
      rw [show (k + 1).toNat = k.toNat + 1 by omega, List.take_add_one, hx, List.count_append]
      simp only [Option.toList_some, List.count_singleton]
      congr 1
      by_cases e : x = (j : Int)
      · simp [e]
      · simp [e]
    rw [hcnt]
    have hvl := v.h
    have hle : (m.place.take k.toNat).count (j : Int) ≤ m.n := by
      refine Nat.le_trans List.count_le_length ?_
      rw [List.length_take, ok.pl]
      omega
    by_cases e : x = (j : Int)
    · have ej : x.toNat = j := by omega
      show (v.l.set x.toNat _)[j]? = _
      rw [ej, List.getElem?_set_self (by omega), if_pos e]
      unfold Vec.g
      rw [ej, List.getD, hv j h1 h2]
      simp only [Option.getD_some]
      rw [wrap_i64 (by omega) (by omega)]
      rfl
    · show (v.l.set x.toNat _)[j]? = _
      rw [List.getElem?_set_ne (by omega), if_neg e, Nat.add_zero]
      exact hv j h1 h2
  · rw [hl] at hk
    have hkn : k.toNat = m.place.length := by rw [ok.pl]; omega
    rw [hkn, List.take_length] at hv
    refine WP.step (R := fun r w' => r = true ∧ Ss W (Port p m ad :: R) w') ?_ (fun r w h => WP.done h)
    unfold weirlaw3_together.K1
    refine WP.step (Stat_wp (s.use [1] rfl)) ?_
    rintro _ w ⟨rfl, s⟩
    refine WP.slot' s (fun _ w s => ?_)
    refine WP.step (R := fun y w' => y = true ∧ w = w') (WP.ite (fun _ => WP.ret ⟨?_, rfl⟩) (fun h => absurd (by rw [hl]) h)) ?_
    · have e1 := hv 1 (by omega) (by omega)
      have e2 := hv 2 (by omega) (by omega)
      have e3 := hv 3 (by omega) (by omega)
      have e4 := hv 4 (by omega) (by omega)
      have e5 := hv 5 (by omega) (by omega)
      rw [eqv_iff]
      unfold statOf Vec.g
      simp only [List.getD, show (1 : Int).toNat = 1 from rfl, show (2 : Int).toNat = 2 from rfl, show (3 : Int).toNat = 3 from rfl, show (4 : Int).toNat = 4 from rfl, show (5 : Int).toNat = 5 from rfl, e1, e2, e3, e4, e5]
      rfl
    rintro _ _ ⟨rfl, rfl⟩
    exact WP.ret ⟨rfl, (s.use [1] rfl).drop⟩
end
theorem RingPlaces_true : ∀ (W : World) (u0 : Int) (u1 : Int) (u2 : Int) (u3 : Int) (u4 : Sl), ((Lit.int .i64 u0).wf = true) → ((Lit.int .i64 u1).wf = true) → ((Lit.int .i64 u2).wf = true) → ((Lit.int .i64 u3).wf = true) → (GSl c_weirlaw3_Op (Try.prog.bytesOf 45) (fun W u => G45 W u) W u4) → ∃ W', weirlaw3_RingPlaces u0 u1 u2 u3 u4 W = some (true, W') ∧ Below W.heap.size W W' := by
  intro W u0 u1 u2 u3 u4 _ _ _ _ g4
  have b45 : Try.prog.bytesOf 45 = 56 := by kernel_rfl
  have hr : reachBytes = 140737488351232 := rfl
  obtain ⟨os, ho, hb, s⟩ := (Ss.start W).args g4 (by decide)
  rw [b45, hr] at hb
  have main : WP (weirlaw3_RingPlaces u0 u1 u2 u3 u4) W (fun r W' => r = true ∧ Below W.heap.size W W') := by
    unfold weirlaw3_RingPlaces
    refine WP.step (port_wp s u0 u1 u2 u3) ?_
    rintro _ w ⟨pa, rx, tx, pool, size, rfl, hE, _, s⟩
    have ok0 := newM_ok hE
    have hn0 : (newM rx tx pool size).n = pool := by unfold newM RM.n; simp
    have hn1 := ok0.n1
    rw [hn0] at hn1
    refine WP.step (R := fun y w' => y = false ∧ Ss W [Port (some pa) (newM rx tx pool size) (List.replicate pool none), rdS c_weirlaw3_Op false u4 os] w') (WP.ite (fun h => by cases h) (fun _ => WP.step (Stat_wp s) ?_)) ?_
    · rintro _ w ⟨rfl, s⟩
      refine WP.ret ⟨?_, s⟩
      have : statOf (newM rx tx pool size).place = ⟨pool, z_api_RingStat.Posted, z_api_RingStat.Filled, z_api_RingStat.Held, z_api_RingStat.Queued⟩ := by
        unfold statOf newM z_api_RingStat
        simp [List.count_replicate]
      rw [this]
      simp [eqv]
    rintro _ w ⟨rfl, s⟩
    refine WP.step (R := fun y w' => y = false ∧ ∃ m, Same (newM rx tx pool size) m ∧ Ss W [Port (some pa) m (List.replicate pool none), rdS c_weirlaw3_Op false u4 os] w') (WP.ite (fun h => by cases h) (fun _ => WP.step (Refill_wp s 1) ?_)) ?_
    · rintro _ w ⟨rfl, s⟩
      exact WP.ret ⟨by rw [refN_one hE]; rfl, _, refs_same _ _ (by unfold RM.refN; omega), s⟩
    rintro _ w ⟨rfl, m, hm, s⟩
    refine WP.ite (fun h => by cases h) (fun _ => ?_)
    have hlo := (s.rd_len (i := 1) rfl rdS_rdb).1
    refine WP.loop (fun (k : Int) w' => 0 ≤ k ∧ k ≤ os.length ∧ ∃ m ad, Same (newM rx tx pool size) m ∧ Ss W [Port (some pa) m ad, rdS c_weirlaw3_Op false u4 os] w') (fun k _ => ((os.length : Int) - k).toNat) ⟨by omega, by omega, m, _, hm, s⟩ ?_
    clear s hm m
    rintro k w ⟨k0, k1, m, ad, hm, s⟩
    unfold weirlaw3_RingPlaces.L1
    refine WP.ite (fun hk => ?_) (fun hk => WP.done ⟨rfl, s.below⟩)
    rw [hlo] at hk
    have hkl : k.toNat < os.length := by omega
    have hx := List.getElem?_eq_getElem hkl
    generalize os[k.toNat] = o at hx
    have ho' := ho o (List.mem_of_getElem? hx)
    have hmn : m.n = pool := by rw [hm.2.2.2, hn0]
    have ok := s.okR
    refine WP.rdx s 1 rfl rdS_rdb k0 hx rfl (WP.slot' s (fun _ w s => WP.step (Places_wp s) ?_))
    intro was w s
    refine WP.step (do_wp (s.use [1] rfl) o ho'.2.2.2.2) ?_
    rintro er w ⟨m', ad', hs', he1, he2, hext, s⟩
    have ok' := s.okR
    have hm' : Same (newM rx tx pool size) m' := hm.trans hs'
    have hmn' : m'.n = pool := by rw [hm'.2.2.2, hn0]
    refine WP.step (Places_wp s) ?_
    intro l w s
    refine WP.step (Stat_wp (s.use [1] rfl)) ?_
    rintro _ w ⟨rfl, s⟩
    refine WP.slot' s (fun _ w s => ?_)
    have ht := together_wp s
    rw [hmn'] at ht
    refine WP.step ht ?_
    rintro _ w ⟨rfl, s⟩
    have s : Ss W [Port (some pa) m' ad', vec (cI .i64) l m'.place [], vec (cI .i64) was m.place [], rdS c_weirlaw3_Op false u4 os] w := s
    have hl1 := (s.vec_len (i := 1) rfl).1
    have hl2 := (s.vec_len (i := 2) rfl).1
    have c2 := ok'.count (k := 2) (.inr (.inl rfl))
    have c3 := ok'.count (k := 3) (.inr (.inr (.inl rfl)))
    have c5 := ok'.count (k := 5) (.inr (.inr (.inr rfl)))
    have hrx : m'.rx = rx := hm'.2.1
    have htx : m'.tx = tx := hm'.2.2.1
    have hrr := ok'.rr
    have hqq := ok'.qq
    have hr1 := ok'.r1
    refine WP.step (R := fun y w' => y = false ∧ w = w') (WP.ite (fun h => absurd rfl h) (fun _ => WP.ret ⟨?_, rfl⟩)) ?_
    · show decide (IntKind.wrap .i64 (((m'.place.count ((2 : Nat) : Int) : Nat) : Int) + ((m'.place.count ((3 : Nat) : Int) : Nat) : Int)) > (rx : Int)) = false
      rw [c2, c3, wrap_i64 (by omega) (by omega), decide_eq_false_iff_not]
      omega
    rintro _ _ ⟨rfl, rfl⟩
    refine WP.step (R := fun y w' => y = false ∧ w = w') (WP.ite (fun h => by cases h) (fun _ => WP.ret ⟨?_, rfl⟩)) ?_
    · show decide (((m'.place.count ((5 : Nat) : Int) : Nat) : Int) > (tx : Int)) = false
      rw [c5, decide_eq_false_iff_not]
      omega
    rintro _ _ ⟨rfl, rfl⟩
    refine WP.step (R := fun y w' => y = false ∧ w = w') (WP.ite (fun h => by cases h) (fun _ => WP.ret ⟨by rw [hl1, hl2, ok.pl, ok'.pl, hmn, hmn']; simp, rfl⟩)) ?_
    rintro _ _ ⟨rfl, rfl⟩
    refine WP.ite (fun h => by cases h) (fun _ => ?_)
    refine WP.loop (fun (x : Int × Int) w' => 0 ≤ x.2 ∧ x.2 ≤ pool ∧ 0 ≤ x.1 ∧ x.1 ≤ x.2 ∧ (m'.place = m.place → x.1 = 0) ∧ (∀ i y, m'.place = m.place.set i y → x.1 ≤ (if (i : Int) < x.2 then 1 else 0)) ∧ Ss W [Port (some pa) m' ad', vec (cI .i64) l m'.place [], vec (cI .i64) was m.place [], rdS c_weirlaw3_Op false u4 os] w') (fun x _ => ((pool : Int) - x.2).toNat) ⟨by simp, by simp, by simp, by simp, fun _ => rfl, fun i y _ => by simp only; split <;> omega, s⟩ ?_
    clear s
    rintro ⟨t, j⟩ w ⟨j0, j1, t0, t1, ht0, ht1, s⟩
    simp only at j0 j1 t0 t1 ht0 ht1
    show WP (weirlaw3_RingPlaces.L2 (some pa, (rx : Int), (tx : Int), (pool : Int), (size : Int)) k o was er l t j) w _
    unfold weirlaw3_RingPlaces.L2
    refine WP.ite (fun hj => WP.draw' s (fun w s => ?_)) (fun hj => ?_)
    · simp only at hj
      have hj1 : j.toNat < m.place.length := by rw [ok.pl]; omega
      have hj2 : j.toNat < m'.place.length := by rw [ok'.pl]; omega
      have hx1 := List.getElem?_eq_getElem hj1
      have hx2 := List.getElem?_eq_getElem hj2
      generalize m.place[j.toNat] = x1 at hx1
      generalize m'.place[j.toNat] = x2 at hx2
      refine WP.rdx s 2 rfl vec_rdb j0 hx1 rfl (WP.rdx s 1 rfl vec_rdb j0 hx2 rfl ?_)
      refine WP.ite (fun hne => WP.next ?_) (fun heq => WP.next ?_)
      · rw [wrap_i64 (by omega) (by omega), wrap_i64 (by omega) (by omega)]
        have hno : m'.place ≠ m.place := fun e => hne (by rw [e, hx1] at hx2; exact Option.some.inj hx2)
        refine ⟨⟨by simp only; omega, by simp only; omega, by simp only; omega, by simp only; omega, fun e => absurd e hno, fun i y e => ?_, s⟩, by simp only; omega⟩
        have hij : j.toNat = i := by
          by_cases e2 : j.toNat = i
          · exact e2
          · rw [e, List.getElem?_set_ne (fun h => e2 h.symm), hx1] at hx2
            exact absurd (Option.some.inj hx2) hne
        have := ht1 i y e
        simp only
        rw [if_neg (by omega)] at this
        rw [if_pos (by omega)]
        omega
      · rw [wrap_i64 (by omega) (by omega)]
        refine ⟨⟨by simp only; omega, by simp only; omega, t0, by simp only; omega, ht0, fun i y e => ?_, s⟩, by simp only; omega⟩
        have := ht1 i y e
        simp only
        split at this <;> split <;> omega
    · refine WP.step (R := fun r w' => WP.Rd (fun (k' : Int) w' => (0 ≤ k' ∧ k' ≤ os.length ∧ ∃ m ad, Same (newM rx tx pool size) m ∧ Ss W [Port (some pa) m ad, rdS c_weirlaw3_Op false u4 os] w') ∧ ((os.length : Int) - k').toNat < ((os.length : Int) - k).toNat) (fun r w' => r = true ∧ Below W.heap.size W w') r w') ?_ (fun r w h => WP.done h)
      unfold weirlaw3_RingPlaces.K1
      refine WP.step (R := fun y w' => y = false ∧ w = w') (WP.ite (fun h => WP.ret ⟨by rw [ht0 (he1 h)]; rfl, rfl⟩) (fun _ => WP.ret ⟨rfl, rfl⟩)) ?_
      rintro _ _ ⟨rfl, rfl⟩
      refine WP.step (R := fun y w' => y = false ∧ w = w') (WP.ite (fun h => by cases h) (fun _ => WP.step (R := fun y w' => y = false ∧ w = w') (WP.ite (fun h => WP.ret ⟨?_, rfl⟩) (fun _ => WP.ret ⟨rfl, rfl⟩)) (fun y w h => WP.ret h))) ?_
      · obtain ⟨i, y, e⟩ := he2 h
        have := ht1 i y e
        rw [decide_eq_false_iff_not]
        split at this <;> omega
      rintro _ _ ⟨rfl, rfl⟩
      refine WP.ite (fun h => by cases h) (fun _ => WP.next ?_)
      rw [wrap_i64 (by omega) (by omega)]
      exact ⟨⟨by omega, by omega, m', ad', hm', (s.use [1, 1] rfl).drop.drop⟩, by omega⟩
  obtain ⟨r, W', h1, rfl, h2⟩ := main
  exact ⟨W', h1, h2⟩
end Go.Proofs.Ytoddkagehbcfjaa.Lx
