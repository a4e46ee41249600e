
import Derived.Test.YtfgcobigollfjaaDoorRouteSort3
set_option linter.unusedVariables false
set_option linter.unusedSimpArgs false
namespace Go.Proofs.YtfgcobigollfjaaDoor.Lx.Srt
open Go Go.Proofs Go.RowKit Go.Sort Lx
theorem len8 : ∀ k : Nat, k < 256 → 0 ≤ sb str12 (k : Int) ∧ (sb str12 (k : Int)).toNat ≤ 8 ∧ (0 < k → 2 ^ (sb str12 (k : Int)).toNat ≤ 2 * k) := by decide +kernel
theorem str0_size : str12.size = 256 := by decide +kernel
theorem wrap_u8' {x : Int} (h : 0 ≤ x) (h' : x < 256) : IntKind.wrap .u8 x = x := by
 simp [IntKind.wrap, IntKind.bits, IntKind.signed]
 omega
theorem wrap_u64' {x : Int} (h : 0 ≤ x) (h' : x < 18446744073709551616) : IntKind.wrap .u64 x = x := by
 simp [IntKind.wrap, IntKind.bits, IntKind.signed]
 omega
theorem len_wp {w : World} (x : Nat) (hx : x < 65536) : WP (bits_Len (x : Int)) w (fun r w' => w = w' ∧ ∃ k : Nat, r = (k : Int) ∧ k ≤ 16 ∧ (0 < x → 2 ^ k ≤ 2 * x)) := by
 unfold bits_Len bits_Len64
 refine WP.step (WP.ite (fun h => absurd h (by omega)) (fun _ => ?_)) (fun r w h => WP.ret h)
 unfold bits_Len64.K2
 refine WP.ite (fun h => absurd h (by omega)) (fun _ => ?_)
 unfold bits_Len64.K1
 refine WP.ite (fun h => ?_) (fun h => ?_)
 ·have e : Int.fdiv (x : Int) (2 ^ 8) = ((x / 256 : Nat) : Int) := by
   rw [Int.fdiv_eq_ediv_of_nonneg _ (by decide)]
   rfl
  obtain ⟨h1, h2, h3⟩ := len8 (x / 256) (by omega)
  rw [e, wrap_u8' (by omega) (by omega)]
  refine WP.chk ⟨by omega, by rw [str0_size]; omega⟩ (WP.ret ⟨rfl, ?_⟩)
  generalize sb str12 ((x / 256 : Nat) : Int) = v at h1 h2 h3
  rw [wrap_i64 (n := v) (by omega) (by omega), wrap_i64 (n := 0 + 8) (by decide) (by decide), wrap_i64 (by omega) (by omega)]
  refine ⟨v.toNat + 8, by omega, by omega, fun _ => ?_⟩
  have := h3 (by omega)
  rw [Nat.pow_add]
  omega
 ·obtain ⟨h1, h2, h3⟩ := len8 x (by omega)
  rw [wrap_u8' (by omega) (by omega)]
  refine WP.chk ⟨by omega, by rw [str0_size]; omega⟩ (WP.ret ⟨rfl, ?_⟩)
  generalize sb str12 (x : Int) = v at h1 h2 h3
  rw [wrap_i64 (n := v) (by omega) (by omega), wrap_i64 (by omega) (by omega)]
  exact ⟨v.toNat, by omega, by omega, h3⟩
theorem pow_wp {w : World} (x : Nat) (h0 : 0 < x) (hx : x < 65536) : WP (slices_nextPowerOfTwo (x : Int)) w (fun r w' => w = w' ∧ ∃ k : Nat, r = (k : Int) ∧ 1 ≤ k ∧ k ≤ 2 * x) := by
 unfold slices_nextPowerOfTwo
 rw [wrap_u64' (by omega) (by omega)]
 refine WP.step (len_wp x hx) ?_
 rintro _ w ⟨rfl, k, rfl, h1, h2⟩
 refine WP.chk (by omega) (WP.ret ⟨rfl, 2 ^ k, ?_, Nat.pow_pos (by decide), h2 h0⟩)
 have h3 : 2 ^ k ≤ 2 ^ 16 := Nat.pow_le_pow_right (by decide) h1
 rw [Int.toNat_natCast, Nat.min_eq_left (by omega), Int.one_mul]
 have : ((2 : Int) ^ k) = ((2 ^ k : Nat) : Int) := by rw [Int.natCast_pow]; rfl
 rw [this]
 generalize 2 ^ k = v at h3
 rw [wrap_u64' (by omega) (by omega)]
theorem band_mask64 (x : Int) {m : Int} (h0 : 0 ≤ m) (h1 : m < 18446744073709551616) : 0 ≤ band .u64 x m ∧ band .u64 x m ≤ m := by
 have h2 : (BitVec.ofInt 64 x &&& BitVec.ofInt 64 m).toNat ≤ m.toNat := by
  rw [BitVec.toNat_and]
  refine Nat.le_trans Nat.and_le_right ?_
  rw [BitVec.toNat_ofInt]
  omega
 have h3 : band .u64 x m = ((BitVec.ofInt 64 x &&& BitVec.ofInt 64 m).toNat : Int) := wrap_u64' (by show (0 : Int) ≤ ((BitVec.ofInt 64 x &&& BitVec.ofInt 64 m).toNat : Int); omega) (by show ((BitVec.ofInt 64 x &&& BitVec.ofInt 64 m).toNat : Int) < 18446744073709551616; omega)
 rw [h3]
 omega
section
variable {W w : World} {L R : List HP} {a0 : Sl} {sp : List T} {D : T → Prop} {n : Nat} {d : Array T} {β : Type} {Q : β → World → Prop} {f : T → T → M Int} {lt : T → T → Bool}
abbrev cnt64 (b : Nat) (c : Int) : HP := pts true (pt b 0) ((cI .u64).enc c)
theorem xor_wp {q : Nat} {c : Int} (s : St W [cnt64 q c] R a0 sp D n d w) : WP (slices_xorshift_Next (some (pt q 0))) w (fun _ w' => ∃ c', St W [cnt64 q c'] R a0 sp D n d w') := by
 unfold slices_xorshift_Next
 have hz : ∀ a : Addr, a = a.add 0 := fun a => by simp [Addr.add]
 refine s.draw (fun w s => WP.nilck (WP.ld s.ss 0 rfl (o := 0) (hz _) (At.whole _) (WP.nilck (WP.ld s.ss 0 rfl (o := 0) (hz _) (At.whole _) (WP.nilck (WP.st s.ss 0 rfl (o := 0) (hz _) (Upd.whole (by rw [Cod.len, Cod.len])) (fun w' s' => ?_)))))))
 have s : St W [cnt64 q _] R a0 sp D n d w' := ⟨s.sz, s.al, s'⟩
 clear s'
 refine s.draw (fun w s => WP.nilck (WP.ld s.ss 0 rfl (o := 0) (hz _) (At.whole _) (WP.nilck (WP.ld s.ss 0 rfl (o := 0) (hz _) (At.whole _) (WP.nilck (WP.st s.ss 0 rfl (o := 0) (hz _) (Upd.whole (by rw [Cod.len, Cod.len])) (fun w' s' => ?_)))))))
 have s : St W [cnt64 q _] R a0 sp D n d w' := ⟨s.sz, s.al, s'⟩
 clear s'
 refine s.draw (fun w s => WP.nilck (WP.ld s.ss 0 rfl (o := 0) (hz _) (At.whole _) (WP.nilck (WP.ld s.ss 0 rfl (o := 0) (hz _) (At.whole _) (WP.nilck (WP.st s.ss 0 rfl (o := 0) (hz _) (Upd.whole (by rw [Cod.len, Cod.len])) (fun w' s' => ?_)))))))
 have s : St W [cnt64 q _] R a0 sp D n d w' := ⟨s.sz, s.al, s'⟩
 exact WP.nilck (WP.ld s.ss 0 rfl (o := 0) (hz _) (At.whole _) (WP.ret ⟨_, s⟩))
theorem break_wp (hn : n < 65536) (a b : Nat) (hab : a ≤ b) (hb : b ≤ n) (s : St W [] R a0 sp D n d w) : WP (slices_breakPatternsCmpFunc_api_Route a0 a b f) w (fun _ w' => ∃ d', PermIn a b d d' ∧ St W [] R a0 sp D n d' w') := by
 unfold slices_breakPatternsCmpFunc_api_Route
 have e0 : IntKind.wrap .i64 ((b : Int) - (a : Int)) = ((b - a : Nat) : Int) := wr (by omega) (by omega)
 have e1 : IntKind.wrap .i64 (Int.tdiv ((b - a : Nat) : Int) 4) = (((b - a) / 4 : Nat) : Int) := by
  refine wr ?_ (by omega)
  rw [Int.tdiv_eq_ediv_of_nonneg (by omega)]
  rfl
 have e2 : IntKind.wrap .i64 ((((b - a) / 4 : Nat) : Int) * 2) = (((b - a) / 4 * 2 : Nat) : Int) := wr (by rw [Int.natCast_mul]; rfl) (by omega)
 have e3 : IntKind.wrap .i64 ((a : Int) + (((b - a) / 4 * 2 : Nat) : Int)) = ((a + (b - a) / 4 * 2 : Nat) : Int) := wr (by omega) (by omega)
 refine WP.ite (fun h8 => ?_) (fun _ => WP.ret ⟨d, permIn_refl _ _ _, s⟩)
 rw [e0] at h8 ⊢
 rw [e1, e2, e3]
 refine WP.newv s.ss (fun q w s1 => WP.st s1 0 rfl (o := 0) (by simp [Addr.add]) (Upd.whole (by rw [Cod.len, Cod.len])) (fun w s1 => ?_))
 have s : St W [cnt64 q _] R a0 sp D n d w := ⟨s.sz, s.al, s1⟩
 clear s1
 refine WP.step (pow_wp (b - a) (by omega) (by omega)) ?_
 rintro _ w ⟨rfl, md, rfl, m1, m2⟩
 have hq1 : 4 * ((b - a) / 4) ≤ b - a := by omega
 have hq2 : b - a < 4 * ((b - a) / 4) + 4 := by omega
 have e4 : IntKind.wrap .i64 (((a + (b - a) / 4 * 2 : Nat) : Int) - 1) = ((a + (b - a) / 4 * 2 - 1 : Nat) : Int) := wr (by omega) (by omega)
 rw [e4]
 refine WP.loopG (γ := Nat × Array T × Int) (fun g x w => x = (g.1 : Int) ∧ a + (b - a) / 4 * 2 - 1 ≤ g.1 ∧ g.1 ≤ a + (b - a) / 4 * 2 + 2 ∧ PermIn a b d g.2.1 ∧ St W [cnt64 q g.2.2] R a0 sp D n g.2.1 w) (fun g _ => a + (b - a) / 4 * 2 + 2 - g.1) (a + (b - a) / 4 * 2 - 1, d, _) ⟨rfl, Nat.le_refl _, by simp only; omega, permIn_refl _ _ _, s⟩ ?_
 clear s e4
 rintro ⟨i, d1, c⟩ _ w ⟨rfl, h1, h2, hp, s⟩
 simp only at h1 h2 hp s
 show WP (slices_breakPatternsCmpFunc_api_Route.L1 a0 a b q (md : Int) (i : Int)) w _
 unfold slices_breakPatternsCmpFunc_api_Route.L1
 rw [e0, e1, e2, e3, wr (x := ((a + (b - a) / 4 * 2 : Nat) : Int) + 1) (i := a + (b - a) / 4 * 2 + 1) (by omega) (by omega)]
 clear e0 e1 e2 e3
 generalize (b - a) / 4 = m at *
 refine WP.ite (fun h => ?_) (fun h => WP.done ⟨d1, hp, s.sz, s.al, s.ss.drop⟩)
 refine WP.step (xor_wp s) ?_
 rintro r w ⟨c, s⟩
 rw [wrap_u64' (x := (md : Int) - 1) (by omega) (by omega)]
 obtain ⟨b1, b2⟩ := band_mask64 r (m := (md : Int) - 1) (by omega) (by omega)
 generalize band .u64 r ((md : Int) - 1) = x at b1 b2
 obtain ⟨x, rfl⟩ : ∃ x' : Nat, x = x' := ⟨x.toNat, by omega⟩
 rw [wr (x := (x : Int)) (i := x) rfl (by omega)]
 have key : ∀ y : Nat, y < b - a → WP (slices_breakPatternsCmpFunc_api_Route.K1 a0 a (i : Int) (y : Int)) w (WP.Rd (fun x' w' => ∃ g' : Nat × Array T × Int, (x' = (g'.1 : Int) ∧ a + m * 2 - 1 ≤ g'.1 ∧ g'.1 ≤ a + m * 2 + 2 ∧ PermIn a b d g'.2.1 ∧ St W [cnt64 q g'.2.2] R a0 sp D n g'.2.1 w') ∧ a + m * 2 + 2 - g'.1 < a + m * 2 + 2 - i) (fun _ w' => ∃ d', PermIn a b d d' ∧ St W [] R a0 sp D n d' w')) := by
  intro y hy
  unfold slices_breakPatternsCmpFunc_api_Route.K1
  rw [wr (x := (a : Int) + (y : Int)) (i := a + y) (by omega) (by omega)]
  refine s.draw (fun w s => s.swap i (a + y) rfl rfl (by omega) (by omega) (fun w s' => WP.next ?_))
  refine ⟨(i + 1, swp d1 i (a + y), c), ⟨wr (by simp) (by omega), by simp only; omega, by simp only; omega, ?_, s'⟩, by simp only; omega⟩
  exact permIn_trans _ _ _ _ _ hp (swp_permIn _ a b i (a + y) (by omega) (by omega) (by omega) (by omega) (by rw [s.sz]; exact hb))
 refine WP.ite (fun hx => ?_) (fun hx => key x (by omega))
 rw [wr (x := (x : Int) - ((b - a : Nat) : Int)) (i := x - (b - a)) (by omega) (by omega)]
 exact key _ (by omega)
theorem partIns_wp (cm : SCmp W R D f lt) (hn : n < 1152921504606846976) (a b : Nat) (hab : a < b) (hb : b ≤ n) (s : St W L R a0 sp D n d w) : WP (slices_partialInsertionSortCmpFunc_api_Route a0 a b f) w (fun r w' => r = (partialInsertionSort lt d a b).2 ∧ St W L R a0 sp D n (partialInsertionSort lt d a b).1 w') := by
 unfold slices_partialInsertionSortCmpFunc_api_Route partialInsertionSort
 refine WP.loopG (γ := (Nat × Nat) × Array T) (fun g x w => x = ((g.1.1 : Int), (5 : Int) - (g.1.2 : Int)) ∧ a + 1 ≤ g.1.1 ∧ g.1.1 ≤ b ∧ g.1.2 ≤ 5 ∧ St W L R a0 sp D n g.2 w ∧ partialIns lt a b g.1.2 g.1.1 g.2 = partialIns lt a b 5 (a + 1) d) (fun g _ => g.1.2) ((a + 1, 5), d) ⟨by rw [wr (i := a + 1) (by omega) (by omega)]; rfl, by simp only; omega, by simp only; omega, by simp only; omega, s, rfl⟩ ?_
 clear s
 generalize partialIns lt a b 5 (a + 1) d = F
 rintro ⟨⟨i, k⟩, d1⟩ _ w ⟨rfl, h1, h2, h3, s, he⟩
 simp only at h1 h2 h3 s he
 show WP (slices_partialInsertionSortCmpFunc_api_Route.L1 a0 a b f (i : Int) ((5 : Int) - (k : Int))) w _
 unfold slices_partialInsertionSortCmpFunc_api_Route.L1
 refine WP.ite (fun hk => ?_) (fun hk => WP.done ?_)
 ·obtain ⟨k, rfl⟩ : ∃ k', k = k' + 1 := ⟨k - 1, by omega⟩
  rw [partialIns_succ] at he
  generalize hJ : (5 : Int) - ((k + 1 : Nat) : Int) = J at hk
  have eJ : IntKind.wrap .i64 (J + 1) = (5 : Int) - (k : Int) := by
   rw [wrap_i64 (by omega) (by omega)]
   omega
  refine WP.loopG (γ := Nat) (fun g x w => x = (g : Int) ∧ a + 1 ≤ g ∧ g ≤ b ∧ St W L R a0 sp D n d1 w ∧ scanSorted lt d1 b g = scanSorted lt d1 b i) (fun g _ => b - g) i ⟨rfl, h1, h2, s, rfl⟩ ?_
  clear s
  rintro g _ w ⟨rfl, g1, g2, s, hg⟩
  show WP (slices_partialInsertionSortCmpFunc_api_Route.L4 a0 a b f J (g : Int)) w _
  unfold slices_partialInsertionSortCmpFunc_api_Route.L4
  have eg : IntKind.wrap .i64 ((g : Int) - 1) = ((g - 1 : Nat) : Int) := wr (by omega) (by omega)
  rw [eg]
  refine s.test (fun r => !(decide (r < 0))) (!lt d1[g]! d1[g - 1]!) cm g (g - 1) (fun _ => rfl) (fun _ => rfl) (fun h => by omega) (fun _ => by omega) (fun r hr => by rw [hr]) (fun hc hv w s => WP.next ?_) (fun hv w s => ?_)
  ·refine ⟨g + 1, ⟨wr (by simp) (by omega), by omega, by omega, s, ?_⟩, by omega⟩
   rw [← hg]
   conv => rhs; rw [scanSorted]
   rw [if_pos]
   have : g < b := by omega
   simp [this]
   simpa using hv
  ·have hst : scanSorted lt d1 b g = g := by
    rw [scanSorted, if_neg]
    intro hx
    simp only [Bool.and_eq_true, decide_eq_true_eq] at hx
    rw [hv (by omega)] at hx
    cases hx.2
   rw [hst] at hg
   rw [← hg] at he
   refine WP.step (R := WP.Rd _ _) ?_ (fun b w h => WP.done h)
   unfold slices_partialInsertionSortCmpFunc_api_Route.K4
   refine WP.ite (fun hgb => WP.done ?_) (fun hgb => ?_)
   ·rw [if_pos (by omega)] at he
    subst he
    exact ⟨rfl, s⟩
   rw [if_neg (by omega)] at he
   rw [wr (x := (b : Int) - (a : Int)) (i := b - a) (by omega) (by omega)]
   refine WP.ite (fun h50 => WP.done ?_) (fun h50 => ?_)
   ·rw [if_pos (by omega)] at he
    subst he
    exact ⟨rfl, s⟩
   rw [if_neg (by omega)] at he
   rw [eg]
   -- the end of a round
   have k1 : ∀ w d3, St W L R a0 sp D n d3 w → partialIns lt a b k g d3 = F → WP (slices_partialInsertionSortCmpFunc_api_Route.K1 J (g : Int)) w (WP.Rd (fun x' w' => ∃ g' : (Nat × Nat) × Array T, (x' = ((g'.1.1 : Int), (5 : Int) - (g'.1.2 : Int)) ∧ a + 1 ≤ g'.1.1 ∧ g'.1.1 ≤ b ∧ g'.1.2 ≤ 5 ∧ St W L R a0 sp D n g'.2 w' ∧ partialIns lt a b g'.1.2 g'.1.1 g'.2 = F) ∧ g'.1.2 < k + 1) (fun r w' => r = F.2 ∧ St W L R a0 sp D n F.1 w')) := by
    intro w d3 s hF
    unfold slices_partialInsertionSortCmpFunc_api_Route.K1
    exact WP.next ⟨((g, k), d3), ⟨by rw [eJ], g1, g2, by simp only; omega, s, hF⟩, by simp only; omega⟩
   have k2 : ∀ w d2, St W L R a0 sp D n d2 w → partialIns lt a b k g (fixUp lt b g d2) = F → WP (slices_partialInsertionSortCmpFunc_api_Route.K2 a0 b f J (g : Int)) w (WP.Rd (fun x' w' => ∃ g' : (Nat × Nat) × Array T, (x' = ((g'.1.1 : Int), (5 : Int) - (g'.1.2 : Int)) ∧ a + 1 ≤ g'.1.1 ∧ g'.1.1 ≤ b ∧ g'.1.2 ≤ 5 ∧ St W L R a0 sp D n g'.2 w' ∧ partialIns lt a b g'.1.2 g'.1.1 g'.2 = F) ∧ g'.1.2 < k + 1) (fun r w' => r = F.2 ∧ St W L R a0 sp D n F.1 w')) := by
    intro w d2 s hF
    unfold slices_partialInsertionSortCmpFunc_api_Route.K2
    unfold fixUp at hF
    rw [wr (x := (b : Int) - (g : Int)) (i := b - g) (by omega) (by omega)]
    refine WP.ite (fun h => ?_) (fun h => ?_)
    ·rw [if_pos (by omega)] at hF
     rw [wr (x := (g : Int) + 1) (i := g + 1) (by omega) (by omega)]
     refine WP.loopG (γ := Nat × Array T) (fun q x w => x = (q.1 : Int) ∧ g + 1 ≤ q.1 ∧ q.1 ≤ b ∧ St W L R a0 sp D n q.2 w ∧ shiftUp lt b q.1 q.2 = shiftUp lt b (g + 1) d2) (fun q _ => b - q.1) (g + 1, d2) ⟨rfl, Nat.le_refl _, by simp only; omega, s, rfl⟩ ?_
     clear s
     rintro ⟨j, d3⟩ _ w ⟨rfl, j1, j2, s, hj⟩
     simp only at j1 j2 s hj
     show WP (slices_partialInsertionSortCmpFunc_api_Route.L2 a0 b f J (g : Int) (j : Int)) w _
     unfold slices_partialInsertionSortCmpFunc_api_Route.L2
     rw [shiftUp] at hj
     refine WP.ite (fun hjb => ?_) (fun hjb => ?_)
     ·rw [if_pos (by omega)] at hj
      rw [wr (x := (j : Int) - 1) (i := j - 1) (by omega) (by omega)]
      refine s.draw (fun w s => s.cmp cm j (j - 1) rfl rfl (by omega) (by omega) (fun r w hr s => WP.ite (fun hl => ?_) (fun hl => ?_)))
      ·rw [if_pos (by rw [← hr]; simpa using hl)] at hj
       exact WP.step (k1 w d3 s (by rw [hj]; exact hF)) (fun b w h => WP.done h)
      ·rw [if_neg (by rw [← hr]; simpa using hl)] at hj
       refine s.draw (fun w s => s.swap j (j - 1) rfl rfl (by omega) (by omega) (fun w s => WP.next ?_))
       exact ⟨(j + 1, swp d3 j (j - 1)), ⟨wr (by simp) (by omega), by simp only; omega, by simp only; omega, s, hj⟩, by simp only; omega⟩
     ·rw [if_neg (by omega)] at hj
      exact WP.step (k1 w d3 s (by rw [hj]; exact hF)) (fun b w h => WP.done h)
    ·rw [if_neg (by omega)] at hF
     exact k1 w d2 s hF
   refine s.draw (fun w s => s.swap g (g - 1) rfl rfl (by omega) (by omega) (fun w s => ?_))
   rw [wr (x := (g : Int) - (a : Int)) (i := g - a) (by omega) (by omega)]
   unfold fixDown at he
   refine WP.ite (fun h => ?_) (fun h => ?_)
   ·rw [if_pos (by omega)] at he
    refine WP.loopG (γ := Nat × Array T) (fun q x w => x = (q.1 : Int) ∧ q.1 ≤ g - 1 ∧ St W L R a0 sp D n q.2 w ∧ shiftDown lt q.1 q.2 = shiftDown lt (g - 1) (swp d1 g (g - 1))) (fun q _ => q.1) (g - 1, swp d1 g (g - 1)) ⟨rfl, Nat.le_refl _, s, rfl⟩ ?_
    clear s
    rintro ⟨j, d3⟩ _ w ⟨rfl, j1, s, hj⟩
    simp only at j1 s hj
    show WP (slices_partialInsertionSortCmpFunc_api_Route.L3 a0 b f J (g : Int) (j : Int)) w _
    unfold slices_partialInsertionSortCmpFunc_api_Route.L3 slices_partialInsertionSortCmpFunc_api_Route.K3
    refine WP.ite (fun hjb => ?_) (fun hjb => ?_)
    ·obtain ⟨j, rfl⟩ : ∃ j', j = j' + 1 := ⟨j - 1, by omega⟩
     rw [shiftDown] at hj
     rw [wr (x := ((j + 1 : Nat) : Int) - 1) (i := j) (by omega) (by omega)]
     refine s.draw (fun w s => s.cmp cm (j + 1) j rfl rfl (by omega) (by omega) (fun r w hr s => WP.ite (fun hl => ?_) (fun hl => ?_)))
     ·rw [if_pos (by rw [← hr]; simpa using hl)] at hj
      exact WP.step (k2 w d3 s (by rw [hj]; exact he)) (fun b w h => WP.done h)
     ·rw [if_neg (by rw [← hr]; simpa using hl)] at hj
      refine s.draw (fun w s => s.swap (j + 1) j rfl rfl (by omega) (by omega) (fun w s => WP.next ?_))
      exact ⟨(j, swp d3 (j + 1) j), ⟨rfl, by simp only; omega, s, hj⟩, by simp only; omega⟩
    ·obtain rfl : j = 0 := by omega
     exact WP.step (k2 w d3 s (by rw [show d3 = _ from hj]; exact he)) (fun b w h => WP.done h)
   ·rw [if_neg (by omega)] at he
    exact k2 w _ s he
 ·obtain rfl : k = 0 := by omega
  have : (d1, false) = F := he
  subst this
  exact ⟨rfl, s⟩
end
end Go.Proofs.YtfgcobigollfjaaDoor.Lx.Srt
