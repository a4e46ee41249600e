
import Derived.Test.YtfgcobigollfjaaDoorRouteSort2
set_option linter.unusedVariables false
set_option linter.unusedSimpArgs false
namespace Go.Proofs.YtfgcobigollfjaaDoor.Lx.Srt
open Go Go.Proofs Go.RowKit Go.Sort Lx
section
variable {W w : World} {L R : List HP} {a0 : Sl} {sp : List T} {D : T → Prop} {n : Nat} {d : Array T} {β : Type} {Q : β → World → Prop} {f : T → T → M Int} {lt : T → T → Bool}
theorem partEq_wp (cm : SCmp W R D f lt) (hn : n < 1152921504606846976) (a b pv : Nat) (ha : a ≤ pv) (hp : pv < b) (hb : b ≤ n) (s : St W L R a0 sp D n d w) : WP (slices_partitionEqualCmpFunc_api_Route a0 a b pv f) w (fun r w' => r = ((partitionEqual lt d a b pv).1 : Int) ∧ St W L R a0 sp D n (partitionEqual lt d a b pv).2 w') := by
 unfold slices_partitionEqualCmpFunc_api_Route partitionEqual
 refine s.draw (fun w s => s.swap a pv rfl rfl (by omega) (by omega) (fun w s => ?_))
 generalize swp d a pv = d0 at s ⊢
 refine WP.loopG (γ := (Nat × Nat) × Array T) (fun g x w => x = ((g.1.1 : Int), (g.1.2 : Int)) ∧ a + 1 ≤ g.1.1 ∧ g.1.1 ≤ g.1.2 + 1 ∧ g.1.2 < b ∧ St W L R a0 sp D n g.2 w ∧ partEqLoop lt a g.1.1 g.1.2 g.2 = partEqLoop lt a (a + 1) (b - 1) d0) (fun g _ => g.1.2 + 1 - g.1.1) ((a + 1, b - 1), d0) ⟨by rw [wr (i := a + 1) (by omega) (by omega), wr (i := b - 1) (by omega) (by omega)], by simp only; omega, by simp only; omega, by simp only; omega, s, rfl⟩ ?_
 clear s
 generalize partEqLoop lt a (a + 1) (b - 1) d0 = F
 rintro ⟨⟨i, j⟩, d1⟩ _ w ⟨rfl, h1, h2, h3, s, he⟩
 simp only at h1 h2 h3 s he
 show WP (slices_partitionEqualCmpFunc_api_Route.L1 a0 a f (i : Int) (j : Int)) w _
 unfold slices_partitionEqualCmpFunc_api_Route.L1
 have hun := partEqLoop_eq lt a i j d1
 refine up_scan (fun x => !lt d1[a]! x) i j (by omega) rfl s (Kc := fun i => slices_partitionEqualCmpFunc_api_Route.K2 a0 a f (j : Int) i) (fun k w N h1 h2 s hN hK => ?_) (fun w i1 i2 s => ?_)
 ·show WP (slices_partitionEqualCmpFunc_api_Route.L3 a0 a f (j : Int) (k : Int)) w _
  unfold slices_partitionEqualCmpFunc_api_Route.L3
  refine s.test (fun r => !(decide (r < 0))) _ cm a k (fun _ => rfl) (fun _ => rfl) (fun h => by omega) (fun _ => by omega) (fun r hr => by rw [hr]) (fun hc hv w s => WP.next ?_) (fun hv w s => WP.step (hK w (fun h => hv (by omega)) s) (fun b w h => WP.done h))
  rw [wr (i := k + 1) (by omega) (by omega)]
  exact hN w (by omega) hv s
 have i0 : i ≤ scanUp (fun x => !lt d1[a]! x) d1 j i := scanUp_ge _ _ _ _
 generalize scanUp (fun x => !lt d1[a]! x) d1 j i = i' at i0 i1 i2 hun ⊢
 show WP (slices_partitionEqualCmpFunc_api_Route.K2 a0 a f (j : Int) (i' : Int)) w _
 unfold slices_partitionEqualCmpFunc_api_Route.K2
 refine down_scan (fun x => lt d1[a]! x) i' j (by omega) (by omega) rfl s (Kc := fun j => slices_partitionEqualCmpFunc_api_Route.K1 a0 i' j) (fun k w N h1 h2 s hN hK => ?_) (fun w j1 j2 j3 s => ?_)
 ·show WP (slices_partitionEqualCmpFunc_api_Route.L2 a0 a f (i' : Int) (k : Int)) w _
  unfold slices_partitionEqualCmpFunc_api_Route.L2
  refine s.test (fun r => decide (r < 0)) _ cm a k (fun _ => rfl) (fun _ => rfl) (fun h => by omega) (fun _ => by omega) (fun r hr => hr) (fun hc hv w s => WP.next ?_) (fun hv w s => WP.step (hK w (fun h => hv (by omega)) s) (fun b w h => WP.done h))
  rw [wr (i := k - 1) (by omega) (by omega)]
  exact hN w (by omega) (by omega) hv s
 generalize scanDown (fun x => lt d1[a]! x) d1 i' j = j' at j1 j2 j3 hun ⊢
 show WP (slices_partitionEqualCmpFunc_api_Route.K1 a0 (i' : Int) (j' : Int)) w _
 unfold slices_partitionEqualCmpFunc_api_Route.K1
 refine WP.ite (fun h => ?_) (fun h => ?_)
 ·rw [if_pos (by omega), he] at hun
  rw [hun]
  exact WP.done ⟨rfl, s⟩
 rw [if_neg (by omega)] at hun
 have hne : i' < j' := by
  rcases Nat.lt_or_ge i' j' with h' | h'
  ·exact h'
  ·obtain rfl : i' = j' := by omega
   have q1 := i2 (by omega)
   have q2 := j3 (by omega)
   simp only [Bool.not_eq_false'] at q1 q2
   rw [q1] at q2
   cases q2
 refine s.draw (fun w s => s.swap i' j' rfl rfl (by omega) (by omega) (fun w s => WP.next ?_))
 exact ⟨((i' + 1, j' - 1), swp d1 i' j'), ⟨by rw [wr (i := i' + 1) (by omega) (by omega), wr (i := j' - 1) (by omega) (by omega)], by simp only; omega, by simp only; omega, by simp only; omega, s, by rw [← hun]; exact he⟩, by simp only; omega⟩
theorem revLoop_perm (a b : Nat) : ∀ (m i j : Nat) (d : Array T), j - i ≤ m → a ≤ i → j < b → b ≤ d.size → PermIn a b d (reverseLoop i j d)
 | 0, i, j, d, hm, h1, h2, h3 => by
  rw [reverseLoop, if_neg (by omega)]
  exact permIn_refl _ _ _
 | m + 1, i, j, d, hm, h1, h2, h3 => by
  rw [reverseLoop]
  split
  ·exact permIn_trans _ _ _ _ _ (swp_permIn d a b i j h1 (by omega) (by omega) h2 h3) (revLoop_perm a b m (i + 1) (j - 1) _ (by omega) (by omega) (by omega) (by rw [swp_size]; exact h3))
  ·exact permIn_refl _ _ _
theorem rev_wp (hn : n < 1152921504606846976) (a b : Nat) (hab : a < b) (hb : b ≤ n) (s : St W L R a0 sp D n d w) : WP (slices_reverseRangeCmpFunc_api_Route a0 a b f) w (fun _ w' => ∃ d', PermIn a b d d' ∧ St W L R a0 sp D n d' w') := by
 unfold slices_reverseRangeCmpFunc_api_Route
 refine (show WP _ w (fun (_ : Unit) w' => St W L R a0 sp D n (reverseLoop a (b - 1) d) w') from ?_).mono (fun _ w s' => ⟨_, revLoop_perm a b _ a (b - 1) d (Nat.le_refl _) (Nat.le_refl _) (by omega) (by rw [s.sz]; exact hb), s'⟩)
 refine WP.loopG (γ := (Nat × Nat) × Array T) (fun g x w => x = ((g.1.1 : Int), (g.1.2 : Int)) ∧ g.1.1 ≤ g.1.2 + 1 ∧ g.1.2 < b ∧ St W L R a0 sp D n g.2 w ∧ reverseLoop g.1.1 g.1.2 g.2 = reverseLoop a (b - 1) d) (fun g _ => g.1.2 + 1 - g.1.1) ((a, b - 1), d) ⟨by rw [wr (i := b - 1) (by omega) (by omega)], by simp only; omega, by simp only; omega, s, rfl⟩ ?_
 clear s
 rintro ⟨⟨i, j⟩, d1⟩ _ w ⟨rfl, h2, h3, s, he⟩
 simp only at h2 h3 s he
 show WP (slices_reverseRangeCmpFunc_api_Route.L1 a0 (i : Int) (j : Int)) w _
 unfold slices_reverseRangeCmpFunc_api_Route.L1
 rw [reverseLoop] at he
 refine WP.ite (fun h => ?_) (fun h => WP.done ?_)
 ·rw [if_pos (by omega)] at he
  refine s.draw (fun w s => s.swap i j rfl rfl (by omega) (by omega) (fun w s => WP.next ?_))
  exact ⟨((i + 1, j - 1), swp d1 i j), ⟨by rw [wr (i := i + 1) (by omega) (by omega), wr (i := j - 1) (by omega) (by omega)], by simp only; omega, by simp only; omega, s, he⟩, by simp only; omega⟩
 ·rw [if_neg (by omega)] at he
  exact he ▸ s
abbrev cnt (b : Nat) (c : Int) : HP := pts true (pt b 0) ((cI .i64).enc c)
theorem order2_wp {q : Nat} {c : Int} (cm : SCmp W R D f lt) (i j : Nat) (hi : i < n) (hj : j < n) (s : St W [cnt q c] R a0 sp D n d w) : WP (slices_order2CmpFunc_api_Route a0 i j (some (pt q 0)) f) w (fun r w' => (r = ((i : Int), (j : Int)) ∨ r = ((j : Int), (i : Int))) ∧ ∃ c', St W [cnt q c'] R a0 sp D n d w') := by
 unfold slices_order2CmpFunc_api_Route
 refine s.draw (fun w s => s.cmp cm j i rfl rfl hj hi (fun r w _ s => WP.ite (fun h => ?_) (fun h => WP.ret ⟨.inl rfl, c, s⟩)))
 refine WP.nilck (WP.ld s.ss 0 rfl (o := 0) (by simp [Addr.add]) (At.whole _) (WP.nilck ?_))
 refine WP.st s.ss 0 rfl (o := 0) (by simp [Addr.add]) (Upd.whole (by rw [Cod.len, Cod.len])) (fun w s' => WP.ret ⟨.inr rfl, _, s.sz, s.al, s'⟩)
theorem median_wp {q : Nat} {c : Int} (cm : SCmp W R D f lt) (i j k : Nat) (hi : i < n) (hj : j < n) (hk : k < n) (s : St W [cnt q c] R a0 sp D n d w) : WP (slices_medianCmpFunc_api_Route a0 i j k (some (pt q 0)) f) w (fun r w' => (r = (i : Int) ∨ r = (j : Int) ∨ r = (k : Int)) ∧ ∃ c', St W [cnt q c'] R a0 sp D n d w') := by
 unfold slices_medianCmpFunc_api_Route
 refine WP.step (order2_wp cm i j hi hj s) ?_
 rintro r w ⟨h1, c, s⟩
 obtain ⟨x, y, rfl, hx, hy, hxn, hyn⟩ : ∃ x y : Nat, r = ((x : Int), (y : Int)) ∧ (x = i ∨ x = j) ∧ (y = i ∨ y = j) ∧ x < n ∧ y < n := by
  rcases h1 with rfl | rfl
  ·exact ⟨i, j, rfl, .inl rfl, .inr rfl, hi, hj⟩
  ·exact ⟨j, i, rfl, .inr rfl, .inl rfl, hj, hi⟩
 refine WP.step (order2_wp cm y k hyn hk s) ?_
 rintro r w ⟨h1, c, s⟩
 obtain ⟨z, z', rfl, hz, hzn⟩ : ∃ z z' : Nat, r = ((z : Int), (z' : Int)) ∧ (z = y ∨ z = k) ∧ z < n := by
  rcases h1 with rfl | rfl
  ·exact ⟨y, k, rfl, .inl rfl, hyn⟩
  ·exact ⟨k, y, rfl, .inr rfl, hk⟩
 refine WP.step (order2_wp cm x z hxn hzn s) ?_
 rintro r w ⟨h1, c, s⟩
 refine WP.ret ⟨?_, c, s⟩
 rcases h1 with rfl | rfl <;> simp only <;> omega
theorem adj_wp {q : Nat} {c : Int} (cm : SCmp W R D f lt) (hn : n < 1152921504606846976) (i : Nat) (h0 : 1 ≤ i) (hi : i + 1 < n) (s : St W [cnt q c] R a0 sp D n d w) : WP (slices_medianAdjacentCmpFunc_api_Route a0 i (some (pt q 0)) f) w (fun r w' => (r = ((i - 1 : Nat) : Int) ∨ r = (i : Int) ∨ r = ((i + 1 : Nat) : Int)) ∧ ∃ c', St W [cnt q c'] R a0 sp D n d w') := by
 unfold slices_medianAdjacentCmpFunc_api_Route
 rw [wr (x := (i : Int) - 1) (i := i - 1) (by omega) (by omega), wr (x := (i : Int) + 1) (i := i + 1) (by omega) (by omega)]
 exact WP.step (median_wp cm (i - 1) i (i + 1) (by omega) (by omega) (by omega) s) (fun r w h => WP.ret h)
theorem pivot_wp (cm : SCmp W R D f lt) (hn : n < 1152921504606846976) (a b : Nat) (hab : a < b) (hb : b ≤ n) (s : St W [] R a0 sp D n d w) : WP (slices_choosePivotCmpFunc_api_Route a0 a b f) w (fun r w' => (∃ p : Nat, r.1 = (p : Int) ∧ a ≤ p ∧ p < b) ∧ St W [] R a0 sp D n d w') := by
 unfold slices_choosePivotCmpFunc_api_Route
 have e0 : IntKind.wrap .i64 ((b : Int) - (a : Int)) = ((b - a : Nat) : Int) := wr (by omega) (by omega)
 have e1 : IntKind.wrap .i64 (Int.tdiv ((b - a : Nat) : Int) 4) = (((b - a) / 4 : Nat) : Int) := by
  refine wr ?_ (by omega)
  rw [Int.tdiv_eq_ediv_of_nonneg (by omega)]
  rfl
 rw [e0, e1]
 have em : ∀ m : Nat, m ≤ 3 → IntKind.wrap .i64 ((a : Int) + IntKind.wrap .i64 ((((b - a) / 4 : Nat) : Int) * (m : Int))) = ((a + (b - a) / 4 * m : Nat) : Int) := by
  intro m hm
  have hq : (b - a) / 4 * m ≤ (b - a) / 4 * 3 := Nat.mul_le_mul_left _ hm
  rw [wr (x := (((b - a) / 4 : Nat) : Int) * (m : Int)) (i := (b - a) / 4 * m) (by rw [Int.natCast_mul]) (by omega)]
  exact wr (by omega) (by omega)
 have em1 : IntKind.wrap .i64 ((a : Int) + IntKind.wrap .i64 ((((b - a) / 4 : Nat) : Int) * 1)) = ((a + (b - a) / 4 * 1 : Nat) : Int) := em 1 (by omega)
 have em2 : IntKind.wrap .i64 ((a : Int) + IntKind.wrap .i64 ((((b - a) / 4 : Nat) : Int) * 2)) = ((a + (b - a) / 4 * 2 : Nat) : Int) := em 2 (by omega)
 have em3 : IntKind.wrap .i64 ((a : Int) + IntKind.wrap .i64 ((((b - a) / 4 : Nat) : Int) * 3)) = ((a + (b - a) / 4 * 3 : Nat) : Int) := em 3 (by omega)
 rw [em1, em2, em3]
 have hq1 : 4 * ((b - a) / 4) ≤ b - a := by omega
 have hq2 : b - a < 4 * ((b - a) / 4) + 4 := by omega
 clear em em1 em2 em3 e1 e0
 generalize (b - a) / 4 = m at hq1 hq2 ⊢
 refine WP.newv s.ss (fun q w s1 => ?_)
 have s : St W [cnt q 0] R a0 sp D n d w := ⟨s.sz, s.al, s1⟩
 have fin : ∀ {w : World} {c : Int} {p : Nat} {x y z : Int × Int}, a ≤ p → p < b → x.1 = (p : Int) → y.1 = (p : Int) → z.1 = (p : Int) → St W [cnt q c] R a0 sp D n d w →
   WP (Lx.ld (cI .i64) (pt q 0) >>= fun v => if v = 0 then pure x else if v = 12 then pure y else pure z) w (fun r w' => (∃ p : Nat, r.1 = (p : Int) ∧ a ≤ p ∧ p < b) ∧ St W [] R a0 sp D n d w') := by
  intro w c p x y z h1 h2 hx hy hz s
  refine WP.ld s.ss 0 rfl (o := 0) (by simp [Addr.add]) (At.whole _) ?_
  have s' : St W [] R a0 sp D n d w := ⟨s.sz, s.al, s.ss.drop⟩
  exact WP.ite (fun _ => WP.ret ⟨⟨p, hx, h1, h2⟩, s'⟩) (fun _ => WP.ite (fun _ => WP.ret ⟨⟨p, hy, h1, h2⟩, s'⟩) (fun _ => WP.ret ⟨⟨p, hz, h1, h2⟩, s'⟩))
 refine WP.ite (fun h8 => ?_) (fun h8 => fin (p := a + m * 2) (by omega) (by omega) rfl rfl rfl s)
 have h8 : 8 ≤ b - a := by omega
 refine WP.ite (fun h50 => ?_) (fun h50 => ?_)
 ·have h50 : 50 ≤ b - a := by omega
  refine WP.step (adj_wp cm hn _ (by omega) (by omega) s) ?_
  rintro r1 w ⟨g1, c, s⟩
  refine WP.step (adj_wp cm hn _ (by omega) (by omega) s) ?_
  rintro r2 w ⟨g2, c, s⟩
  refine WP.step (adj_wp cm hn _ (by omega) (by omega) s) ?_
  rintro r3 w ⟨g3, c, s⟩
  obtain ⟨x1, rfl, y1, z1⟩ : ∃ x : Nat, r1 = (x : Int) ∧ a ≤ x ∧ x < b := by rcases g1 with h | h | h <;> exact ⟨_, h, by omega, by omega⟩
  obtain ⟨x2, rfl, y2, z2⟩ : ∃ x : Nat, r2 = (x : Int) ∧ a ≤ x ∧ x < b := by rcases g2 with h | h | h <;> exact ⟨_, h, by omega, by omega⟩
  obtain ⟨x3, rfl, y3, z3⟩ : ∃ x : Nat, r3 = (x : Int) ∧ a ≤ x ∧ x < b := by rcases g3 with h | h | h <;> exact ⟨_, h, by omega, by omega⟩
  refine WP.step (median_wp cm x1 x2 x3 (by omega) (by omega) (by omega) s) ?_
  rintro r w ⟨g, c, s⟩
  obtain ⟨p, rfl, h1, h2⟩ : ∃ p : Nat, r = (p : Int) ∧ a ≤ p ∧ p < b := by rcases g with h | h | h <;> exact ⟨_, h, by omega, by omega⟩
  exact fin h1 h2 rfl rfl rfl s
 ·refine WP.step (median_wp cm _ _ _ (by omega) (by omega) (by omega) s) ?_
  rintro r w ⟨g, c, s⟩
  obtain ⟨p, rfl, h1, h2⟩ : ∃ p : Nat, r = (p : Int) ∧ a ≤ p ∧ p < b := by rcases g with h | h | h <;> exact ⟨_, h, by omega, by omega⟩
  exact fin h1 h2 rfl rfl rfl s
end
end Go.Proofs.YtfgcobigollfjaaDoor.Lx.Srt
