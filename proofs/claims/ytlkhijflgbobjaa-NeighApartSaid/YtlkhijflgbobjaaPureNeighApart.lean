/- The law NeighApart, of its program in the M-world: answers of two caches that are asked the same lie untouched till the end, and share no memory: it answers true, and nothing that was there is turned. -/
import Derived.Test.YtlkhijflgbobjaaNeighTwo
import Derived.Test.YtlkhijflgbobjaaNeighRows
import Derived.Test.YtlkhijflgbobjaaNeighSameInts
import Derived.Test.YtlkhijflgbobjaaLxQ
set_option linter.unusedVariables false
set_option linter.unusedSimpArgs false
namespace Go.Proofs.Ytlkhijflgbobjaa.Lx
open Go Go.Proofs Go.RowKit

/-- all that the law has at hand: two caches alike, what was handed out, the calls to come -/
def ApHs (r2 r4 : (Option Addr) × api_NeighConfig) (m : NM) (b1 b2 : Nat) (n : Nat × Nat × Nat) (u1 : Sl) (ops : List weirlaw15_Op) : List HP :=
  [Cache r2.1 m, Cache r4.1 m, IntsP b1 n.1, RowsN b2 n.2.1, RowsA b2 n.2.2, rdS c_weirlaw15_Op false u1 ops]
def ApI (W : World) (r2 r4 : (Option Addr) × api_NeighConfig) (b1 b2 : Nat) (u1 : Sl) (ops : List weirlaw15_Op) (i : Nat) (m : NM) (w : World) : Prop :=
  ∃ n : Nat × Nat × Nat, n.1 ≤ 3 * i ∧ n.2.1 ≤ 3 * i ∧ n.2.2 ≤ 3 * i ∧ Ss W (ApHs r2 r4 m b1 b2 n u1 ops) w
section
variable {W w : World} {m : NM} {b1 b2 : Nat} {u1 : Sl} {ops : List weirlaw15_Op} {r2 r4 : (Option Addr) × api_NeighConfig} {D : Bool → World → Prop}
theorem apart_K1 {i : Nat} (hi : i < 150) (h : ApI W r2 r4 b1 b2 u1 ops (i + 1) m w) : WP (weirlaw15_NeighApart.K1 b1 b2 (i : Int)) w (WP.Rd (fun x w' => x = ((i + 1 : Nat) : Int) ∧ ApI W r2 r4 b1 b2 u1 ops (i + 1) m w') D) := by
  obtain ⟨n, h1, h2, h3, s⟩ := h
  unfold weirlaw15_NeighApart.K1
  refine WP.step (ints_untouched (s.use [2] (s := [_]) (r := [_, _, _, _, _]) rfl) (by omega)) ?_
  rintro _ w ⟨rfl, s⟩
  refine WP.step (R := fun y w' => y = false ∧ ApI W r2 r4 b1 b2 u1 ops (i + 1) m w') (WP.ite (fun h => absurd rfl h) (fun _ => ?_)) ?_
  · refine WP.step (rows_untouched (s.use [3, 3] (s := [_, _]) (r := [_, _, _, _]) rfl) (by omega) (by omega)) ?_
    rintro _ w ⟨rfl, s⟩
    exact WP.ret ⟨rfl, n, h1, h2, h3, s.use [3, 3, 2, 0, 0, 0] rfl⟩
  rintro _ w ⟨rfl, h⟩
  refine WP.ite (fun h => by cases h) (fun _ => WP.next ⟨?_, h⟩)
  rw [wrap_i64 (by omega) (by omega)]
  simp
end
theorem NeighApart_true : ∀ (W : World) (u0 : api_NeighConfig) (u1 : Sl), (G23 W u0) → (GSl c_weirlaw15_Op (Try.prog.bytesOf 36) (fun W u => G36 W u) W u1) → ∃ W', weirlaw15_NeighApart u0 u1 W = some (true, W') ∧ Below W.heap.size W W' := by
  intro W u0 u1 _ g
  have b36 : Try.prog.bytesOf 36 = 64 := by kernel_rfl
  have hr : reachBytes = 140737488351232 := rfl
  obtain ⟨ops, ho, hb, s⟩ := (Ss.start W).args g (by decide)
  rw [b36, hr] at hb
  have hbt : ∀ o ∈ ops, Bts o.IP.A.l ∧ Bts o.Mac.l := fun o h => by
    obtain ⟨_, _, _, h1, h2, _⟩ := ho o h
    exact ⟨fun x hx => wf_u8 (h1.2 x hx), fun x hx => wf_u8 (h2 x hx)⟩
  have hl := (s.rd_len (i := 0) rfl rdS_rdb).1
  have main : WP (weirlaw15_NeighApart u0 u1) W (fun r W' => r = true ∧ Below W.heap.size W W') := by
    unfold weirlaw15_NeighApart
    refine two_wp s u0 (fun r2 r4 w ck s => ?_)
    refine WP.newv s (fun b1 w s => WP.newv (ints_new s) (fun b2 w s => ?_))
    have s := rows15_new s
    have s := s.use [3, 3, 2, 0, 0, 0] (r := []) rfl
    refine WP.loopG (γ := Nat × NM) (fun g (x : Int) w => x = (g.1 : Int) ∧ g.1 ≤ ops.length ∧ g.1 ≤ 150 ∧ ApI W r2 r4 b1 b2 u1 ops g.1 g.2 w) (fun g _ => ops.length - g.1) (0, firstM r2.2) ⟨rfl, Nat.zero_le _, Nat.zero_le _, (0, 0, 0), by simp, by simp, by simp, s⟩ ?_
    clear s
    rintro ⟨i, m⟩ _ w ⟨rfl, hi, h150, n, h1, h2, h3, s⟩
    simp only at hi h150 h1 h2 h3 s
    have ok : m.Ok := s.okC
    have hall := NM.all_len ok
    show WP (weirlaw15_NeighApart.L1 u1 r2 r4 b1 b2 (i : Int)) w _
    unfold weirlaw15_NeighApart.L1
    refine WP.step (R := fun y w' => y = decide (i < ops.length ∧ i < 150) ∧ w = w') (WP.ite (fun h => WP.ret ⟨?_, rfl⟩) (fun h => WP.ret ⟨?_, rfl⟩)) ?_
    · exact decide_eq_decide.2 ⟨fun h => ⟨by omega, by omega⟩, fun h => by omega⟩
    · have : ¬ i < ops.length := by omega
      simp [this]
    rintro _ _ ⟨rfl, rfl⟩
    refine WP.ite (fun h => ?_) (fun h => ?_)
    rotate_left
    · refine WP.step (ints_settle (s.use [2] (s := [_]) (r := [_, _, _, _, _]) rfl) (by omega)) ?_
      rintro _ w ⟨rfl, s⟩
      refine WP.step (R := fun y W' => y = true ∧ Below W.heap.size W W') (WP.ite (fun _ => ?_) (fun h => absurd rfl h)) (fun r w h => WP.done h)
      refine WP.step (rows_settle (s.use [2, 2] (s := [_, _]) (r := [_, _, _]) rfl) (by omega) (by omega)) ?_
      rintro _ w ⟨rfl, s⟩
      exact WP.ret ⟨rfl, s.below⟩
    simp only [decide_eq_true_eq] at h
    obtain ⟨hlt, h150'⟩ := h
    have hx := List.getElem?_eq_getElem hlt
    generalize ops[i] = o at hx
    obtain ⟨c1, c2⟩ := hbt o (List.mem_of_getElem? hx)
    have nx : ∀ {r : LS Int Bool} {w' : World} (m' : NM), WP.Rd (fun x w' => x = ((i + 1 : Nat) : Int) ∧ ApI W r2 r4 b1 b2 u1 ops (i + 1) m' w') (fun r W' => r = true ∧ Below W.heap.size W W') r w' →
        WP.Rd (fun x' w' => ∃ g' : Nat × NM, (x' = (g'.1 : Int) ∧ g'.1 ≤ ops.length ∧ g'.1 ≤ 150 ∧ ApI W r2 r4 b1 b2 u1 ops g'.1 g'.2 w') ∧ ops.length - g'.1 < ops.length - i) (fun r W' => r = true ∧ Below W.heap.size W W') r w' := by
      intro r w' m' h
      cases r with
      | next x =>
        obtain ⟨rfl, s⟩ := h
        exact ⟨(i + 1, m'), ⟨rfl, by simp only; omega, by simp only; omega, s⟩, by simp only; omega⟩
      | done y => exact h
    have s : Ss W (Cache r2.1 m :: Cache r4.1 m :: IntsP b1 n.1 :: RowsN b2 n.2.1 :: RowsA b2 n.2.2 :: rdS c_weirlaw15_Op false u1 ops :: []) w := s
    refine WP.rdx s 5 rfl rdS_rdb (by omega) (x := o) (by rw [Int.toNat_natCast]; exact hx) rfl (WP.slot' s (fun _ w s => ?_))
    refine WP.ite (fun _ => ?_) (fun _ => ?_)
    · have okw := NM.want_ok ok (port := o.Port) c1 o.N
      refine WP.step (Want_wp s _ _ c1 _) ?_
      rintro y w ⟨hy, s⟩
      refine WP.slot' s (fun _ w s => WP.step (Want_wp (s.use [1] rfl) _ _ c1 _) ?_)
      rintro z w ⟨hz, s⟩
      obtain rfl : y = z := hy.trans hz.symm
      have s := s.use [1] rfl
      refine WP.slot' s (fun _ w s => WP.step (R := fun y w' => y = false ∧ w = w') (WP.ite (fun h => absurd rfl h) (fun _ => WP.ret ⟨by simp, rfl⟩)) ?_)
      rintro _ _ ⟨rfl, rfl⟩
      refine WP.step (R := fun y w' => y = false ∧ w = w') (WP.ite (fun h => by cases h) (fun _ => WP.ret ⟨by simp, rfl⟩)) ?_
      rintro _ _ ⟨rfl, rfl⟩
      refine WP.ite (fun h => by cases h) (fun _ => ?_)
      exact (apart_K1 h150' ⟨n, by omega, by omega, by omega, s⟩).mono (fun r w h => nx _ h)
    refine WP.ite (fun _ => ?_) (fun _ => ?_)
    · have okl := NM.learn_ok ok (port := o.Port) c1 c2 o.N
      have hlen := learn_len ok o.Port o.IP o.Mac o.N
      refine WP.step (Learn_wp s _ _ c1 _ c2 _) ?_
      rintro y w ⟨hy, s⟩
      refine WP.step (Learn_wp (s.use [2] rfl) _ _ c1 _ c2 _) ?_
      rintro z w ⟨hz, s⟩
      refine WP.step (sameInts_wp s 2 rfl vec_rdb 0 rfl vec_rdb (by omega)) ?_
      rintro _ w ⟨rfl, s⟩
      refine WP.step (R := fun y w' => y = false ∧ w = w') (WP.ite (fun h => absurd (by simp) h) (fun _ => WP.ret ⟨by rw [hy, hz]; simp, rfl⟩)) ?_
      rintro _ _ ⟨rfl, rfl⟩
      refine WP.ite (fun h => by cases h) (fun _ => ?_)
      refine WP.step (ints_keep (s.use [2, 3] rfl) (by omega) (by omega)) ?_
      rintro _ w s
      refine WP.step (ints_keep (s.use [1, 0] rfl) (by omega) (by omega)) ?_
      rintro _ w s
      unfold weirlaw15_NeighApart.K2
      exact (apart_K1 h150' ⟨(n.1 + 1 + 1, n.2), by simp only; omega, by simp only; omega, by simp only; omega, s.use [2, 1] rfl⟩).mono (fun r w h => nx _ h)
    refine WP.ite (fun _ => ?_) (fun _ => ?_)
    · have okt := NM.tick_ok ok
      obtain ⟨t1, t2⟩ := tick_len ok
      refine WP.step (Tick_wp s) ?_
      rintro y w ⟨sp1, sp2, s⟩
      refine WP.step (Tick_wp (s.use [3] rfl)) ?_
      rintro z w ⟨sp3, sp4, s⟩
      refine WP.step (sameAsks_wp s 3 rfl vec_rdb 0 rfl vec_rdb (by omega)) ?_
      rintro _ w ⟨rfl, s⟩
      have s : Ss W (vec c_api_Ask z.1 m.tick.2.1 sp3 :: vec (cI .i64) z.2 m.tick.2.2 sp4 :: Cache r4.1 m.tick.1 :: vec c_api_Ask y.1 m.tick.2.1 sp1 :: vec (cI .i64) y.2 m.tick.2.2 sp2 :: Cache r2.1 m.tick.1 :: IntsP b1 n.1 :: RowsN b2 n.2.1 :: RowsA b2 n.2.2 :: rdS c_weirlaw15_Op false u1 ops :: []) w := s
      refine WP.step (R := fun v w' => v = false ∧ Ss W (vec c_api_Ask z.1 m.tick.2.1 sp3 :: vec (cI .i64) z.2 m.tick.2.2 sp4 :: Cache r4.1 m.tick.1 :: vec c_api_Ask y.1 m.tick.2.1 sp1 :: vec (cI .i64) y.2 m.tick.2.2 sp2 :: Cache r2.1 m.tick.1 :: IntsP b1 n.1 :: RowsN b2 n.2.1 :: RowsA b2 n.2.2 :: rdS c_weirlaw15_Op false u1 ops :: []) w') (WP.ite (fun h => absurd (by simp) h) (fun _ => WP.step (sameInts_wp s 4 rfl vec_rdb 1 rfl vec_rdb (by omega)) ?_)) ?_
      · rintro _ w ⟨rfl, s⟩
        exact WP.ret ⟨by simp, s⟩
      rintro _ w ⟨rfl, s⟩
      refine WP.ite (fun h => by cases h) (fun _ => ?_)
      refine WP.step (ints_keep (s.use [4, 5] rfl) (by omega) (by omega)) ?_
      rintro _ w s
      refine WP.step (ints_keep (s.use [2, 0] rfl) (by omega) (by omega)) ?_
      rintro _ w s
      have s : Ss W (IntsP b1 (n.1 + 1 + 1) :: vec c_api_Ask z.1 m.tick.2.1 sp3 :: Cache r4.1 m.tick.1 :: vec c_api_Ask y.1 m.tick.2.1 sp1 :: Cache r2.1 m.tick.1 :: RowsN b2 n.2.1 :: RowsA b2 n.2.2 :: rdS c_weirlaw15_Op false u1 ops :: []) w := s
      refine WP.step (rows_keepA (q := 0) (s.use [3, 5] rfl) (by omega) (by omega)) ?_
      rintro _ w s
      refine WP.step (rows_keepA (q := 0) (s.use [2, 0] rfl) (by omega) (by omega)) ?_
      rintro _ w s
      have s : Ss W (RowsA b2 (n.2.2 + 1 + 1) :: IntsP b1 (n.1 + 1 + 1) :: Cache r4.1 m.tick.1 :: Cache r2.1 m.tick.1 :: RowsN b2 n.2.1 :: rdS c_weirlaw15_Op false u1 ops :: []) w := s
      unfold weirlaw15_NeighApart.K3 weirlaw15_NeighApart.K2
      exact (apart_K1 h150' ⟨(n.1 + 1 + 1, n.2.1, n.2.2 + 1 + 1), by simp only; omega, by simp only; omega, by simp only; omega, s.use [3, 2, 1, 1, 0, 0] rfl⟩).mono (fun r w h => nx _ h)
    refine WP.ite (fun _ => ?_) (fun _ => ?_)
    · refine WP.step (All_wp s) ?_
      rintro x w ⟨s1, s⟩
      refine WP.step (All_wp (s.use [2] rfl)) ?_
      rintro y w ⟨s2, s⟩
      refine WP.step (All_wp (s.use [3] rfl)) ?_
      rintro z w ⟨s3, s⟩
      have s : Ss W (vec cN z m.all s3 :: Cache r2.1 m :: vec cN y m.all s2 :: Cache r4.1 m :: vec cN x m.all s1 :: IntsP b1 n.1 :: RowsN b2 n.2.1 :: RowsA b2 n.2.2 :: rdS c_weirlaw15_Op false u1 ops :: []) w := s
      refine WP.step (sameAll_wp s 4 rfl vec_rdb 2 rfl vec_rdb (by omega)) ?_
      rintro _ w ⟨rfl, s⟩
      refine WP.step (R := fun v w' => v = false ∧ Ss W (vec cN z m.all s3 :: Cache r2.1 m :: vec cN y m.all s2 :: Cache r4.1 m :: vec cN x m.all s1 :: IntsP b1 n.1 :: RowsN b2 n.2.1 :: RowsA b2 n.2.2 :: rdS c_weirlaw15_Op false u1 ops :: []) w') (WP.ite (fun h => absurd (by simp) h) (fun _ => WP.step (sameAll_wp s 4 rfl vec_rdb 0 rfl vec_rdb (by omega)) ?_)) ?_
      · rintro _ w ⟨rfl, s⟩
        exact WP.ret ⟨by simp, s⟩
      rintro _ w ⟨rfl, s⟩
      refine WP.ite (fun h => by cases h) (fun _ => ?_)
      refine WP.step (rows_keepN (q := 0) (s.use [4, 5] rfl) (by omega) (by omega)) ?_
      rintro _ w s
      refine WP.step (rows_keepN (q := 0) (s.use [3, 0] rfl) (by omega) (by omega)) ?_
      rintro _ w s
      refine WP.step (rows_keepN (q := 0) (s.use [1, 0] rfl) (by omega) (by omega)) ?_
      rintro _ w s
      have s : Ss W (RowsN b2 (n.2.1 + 1 + 1 + 1) :: Cache r2.1 m :: Cache r4.1 m :: IntsP b1 n.1 :: RowsA b2 n.2.2 :: rdS c_weirlaw15_Op false u1 ops :: []) w := s
      unfold weirlaw15_NeighApart.K4 weirlaw15_NeighApart.K3 weirlaw15_NeighApart.K2
      exact (apart_K1 h150' ⟨(n.1, n.2.1 + 1 + 1 + 1, n.2.2), by simp only; omega, by simp only; omega, by simp only; omega, s.use [1, 1, 1, 0, 0, 0] rfl⟩).mono (fun r w h => nx _ h)
    · unfold weirlaw15_NeighApart.K4 weirlaw15_NeighApart.K3 weirlaw15_NeighApart.K2
      exact (apart_K1 h150' ⟨n, by omega, by omega, by omega, s⟩).mono (fun r w h => nx _ h)
  obtain ⟨r, W', h1, rfl, h2⟩ := main
  exact ⟨W', h1, h2⟩
end Go.Proofs.Ytlkhijflgbobjaa.Lx
