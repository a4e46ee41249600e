
import Derived.Test.YtfgcobigollfjaaDoorRouteSort
set_option linter.unusedVariables false
set_option linter.unusedSimpArgs false
namespace Go.Proofs.YtfgcobigollfjaaDoor.Lx.Srt
open Go Go.Proofs Go.RowKit Go.Sort Lx
section
variable {W w : World} {L R : List HP} {a0 : Sl} {sp : List T} {D : T → Prop} {n : Nat} {d : Array T} {β : Type} {Q : β → World → Prop} {f : T → T → M Int} {lt : T → T → Bool}
theorem St.test {c : Prop} [Decidable c] {A B : M β} {I J : Int} (h : Int → Bool) (v : Bool) (s : St W L R a0 sp D n d w) (cm : SCmp W R D f lt) (i j : Nat) (hI : c → I = (i : Int)) (hJ : c → J = (j : Int)) (hi : c → i < n) (hj : c → j < n) (hv : ∀ r : Int, decide (r < 0) = lt d[i]! d[j]! → h r = v)
  (hA : c → v = true → ∀ w', St W L R a0 sp D n d w' → WP A w' Q) (hB : (c → v = false) → ∀ w', St W L R a0 sp D n d w' → WP B w' Q) :
  WP (Lx.draw >>= fun _ => (if c then Lx.idx a0.a a0.len I 36 >>= fun p => Lx.ld C p >>= fun x => Lx.idx a0.a a0.len J 36 >>= fun q => Lx.ld C q >>= fun y => f x y >>= fun r => pure (h r) else pure false) >>= fun y => if y = true then A else B) w Q := by
 refine s.draw (fun w s => ?_)
 refine WP.step (R := fun y w' => y = (decide c && v) ∧ St W L R a0 sp D n d w') (WP.ite (fun hc => ?_) (fun hc => WP.ret ⟨by simp [hc], s⟩)) ?_
 ·exact s.cmp cm i j (hI hc) (hJ hc) (hi hc) (hj hc) (fun r w hr s => WP.ret ⟨by rw [hv r hr]; simp [hc], s⟩)
 ·rintro y w ⟨rfl, s⟩
  refine WP.ite (fun hy => ?_) (fun hy => ?_)
  ·simp only [Bool.and_eq_true, decide_eq_true_eq] at hy
   exact hA hy.1 hy.2 w s
  ·refine hB (fun hc => ?_) w s
   simpa [hc] using hy
theorem sift_wp (cm : SCmp W R D f lt) (hn : n < 1152921504606846976) (root hi first : Nat) (hr : root < n ∨ root < hi) (hb : first + hi ≤ n) (s : St W L R a0 sp D n d w) : WP (slices_siftDownCmpFunc_api_Route a0 root hi first f) w (fun _ w' => St W L R a0 sp D n (siftDown lt hi first root d) w') := by
 unfold slices_siftDownCmpFunc_api_Route
 refine WP.loopG (γ := Nat × Array T) (fun g i w => i = (g.1 : Int) ∧ (g.1 < n ∨ g.1 < hi) ∧ St W L R a0 sp D n g.2 w ∧ siftDown lt hi first g.1 g.2 = siftDown lt hi first root d) (fun g _ => hi - g.1) (root, d) ⟨rfl, hr, s, rfl⟩ ?_
 clear s hr
 rintro ⟨r, d1⟩ _ w ⟨rfl, hr, s, he⟩
 simp only at s he hr
 show WP (slices_siftDownCmpFunc_api_Route.L1 a0 hi first f (r : Int)) w _
 unfold slices_siftDownCmpFunc_api_Route.L1
 have e1 : IntKind.wrap .i64 ((IntKind.wrap .i64 (2 * (r : Int))) + 1) = ((2 * r + 1 : Nat) : Int) := by
  rw [wr (x := 2 * (r : Int)) (i := 2 * r) (by omega) (by omega)]
  exact wr (i := 2 * r + 1) (by omega) (by omega)
 rw [e1]
 have e2 : IntKind.wrap .i64 (((2 * r + 1 : Nat) : Int) + 1) = ((2 * r + 2 : Nat) : Int) := wr (by omega) (by omega)
 rw [e2]
 refine WP.ite (fun h => WP.done ?_) (fun h => ?_)
 ·rw [siftDown, dif_pos (by omega)] at he
  exact he ▸ s
 have h : ¬ 2 * r + 1 ≥ hi := by omega
 have e3 : IntKind.wrap .i64 ((first : Int) + ((2 * r + 1 : Nat) : Int)) = ((first + (2 * r + 1) : Nat) : Int) := wr (by omega) (by omega)
 have e4 : IntKind.wrap .i64 (((first + (2 * r + 1) : Nat) : Int) + 1) = ((first + (2 * r + 1) + 1 : Nat) : Int) := wr (by omega) (by omega)
 rw [e3, e4]
 have er : IntKind.wrap .i64 ((first : Int) + (r : Int)) = ((first + r : Nat) : Int) := wr (by omega) (by omega)
 have key : ∀ (c : Nat) w, (c = 2 * r + 1 ∨ c = 2 * r + 2) → c < hi → St W L R a0 sp D n d1 w → siftDown lt hi first r d1 = (if !lt d1[first + r]! d1[first + c]! then d1 else siftDown lt hi first c (swp d1 (first + r) (first + c))) →
   WP (slices_siftDownCmpFunc_api_Route.K1 a0 first f (r : Int) (c : Int)) w (WP.Rd (fun i' w' => ∃ g' : Nat × Array T, (i' = (g'.1 : Int) ∧ (g'.1 < n ∨ g'.1 < hi) ∧ St W L R a0 sp D n g'.2 w' ∧ siftDown lt hi first g'.1 g'.2 = siftDown lt hi first root d) ∧ hi - g'.1 < hi - r) (fun _ w' => St W L R a0 sp D n (siftDown lt hi first root d) w')) := by
  intro c w hc hc2 s hd
  unfold slices_siftDownCmpFunc_api_Route.K1
  have ec : IntKind.wrap .i64 ((first : Int) + (c : Int)) = ((first + c : Nat) : Int) := wr (by omega) (by omega)
  rw [er, ec]
  refine s.draw (fun w s => s.cmp cm (first + r) (first + c) rfl rfl (by omega) (by omega) (fun q w hq s => ?_))
  refine WP.ite (fun hl => WP.done ?_) (fun hl => ?_)
  ·rw [show lt d1[first + r]! d1[first + c]! = false by rw [← hq]; simpa using hl] at hd
   rw [← he, hd]
   simpa using s
  ·rw [show lt d1[first + r]! d1[first + c]! = true by rw [← hq]; simpa using hl] at hd
   refine s.draw (fun w s => s.swap (first + r) (first + c) rfl rfl (by omega) (by omega) (fun w s => WP.next ?_))
   exact ⟨(c, swp d1 (first + r) (first + c)), ⟨rfl, .inr hc2, s, by rw [← he, hd]; simp⟩, by simp only; omega⟩
 have hun := siftDown.eq_1 lt hi first r d1
 rw [dif_neg h] at hun
 refine s.test (fun q => decide (q < 0)) (lt d1[first + (2 * r + 1)]! d1[first + (2 * r + 1) + 1]!) cm (first + (2 * r + 1)) (first + (2 * r + 1) + 1) (fun _ => rfl) (fun _ => rfl) (fun hc => by omega) (fun hc => by omega) (fun q hq => hq) (fun hc hv w s => ?_) (fun hv w s => ?_)
 ·refine key (2 * r + 2) w (.inr rfl) (by omega) s ?_
  rw [hun, if_pos (by rw [hv]; simp; omega), dif_pos (by omega)]
 ·refine key (2 * r + 1) w (.inl rfl) (by omega) s ?_
  rw [hun, if_neg]
  intro hx
  simp only [Bool.and_eq_true, decide_eq_true_eq] at hx
  rw [hv (by omega)] at hx
  cases hx.2
theorem heap_wp (cm : SCmp W R D f lt) (hn : n < 1152921504606846976) (a b : Nat) (hab : a ≤ b) (hb : b ≤ n) (hab0 : a < n) (s : St W L R a0 sp D n d w) : WP (slices_heapSortCmpFunc_api_Route a0 a b f) w (fun _ w' => St W L R a0 sp D n (heapSort lt d a b) w') := by
 unfold slices_heapSortCmpFunc_api_Route
 have e0 : IntKind.wrap .i64 ((b : Int) - (a : Int)) = ((b - a : Nat) : Int) := wr (by omega) (by omega)
 rw [e0]
 have e1 : IntKind.wrap .i64 (Int.tdiv (IntKind.wrap .i64 (((b - a : Nat) : Int) - 1)) 2) = (((b - a - 1) / 2 : Nat) : Int) := by
  rw [wrap_i64 (n := ((b - a : Nat) : Int) - 1) (by omega) (by omega)]
  by_cases h0 : b - a = 0
  ·rw [h0]
   rfl
  ·rw [show ((b - a : Nat) : Int) - 1 = ((b - a - 1 : Nat) : Int) by omega]
   refine wr ?_ (by omega)
   rw [Int.tdiv_eq_ediv_of_nonneg (by omega)]
   rfl
 rw [e1]
 refine WP.loopG (γ := Nat × Array T) (fun g i w => i = (g.1 : Int) - 1 ∧ g.1 ≤ (b - a - 1) / 2 + 1 ∧ St W L R a0 sp D n g.2 w ∧ heapBuild lt (b - a) a g.1 g.2 = heapBuild lt (b - a) a ((b - a - 1) / 2 + 1) d) (fun g _ => g.1) ((b - a - 1) / 2 + 1, d) ⟨by simp, Nat.le_refl _, s, rfl⟩ ?_
 clear s
 rintro ⟨k, d1⟩ _ w ⟨rfl, hk, s, he⟩
 simp only at s he hk
 show WP (slices_heapSortCmpFunc_api_Route.L2 a0 a b f ((k : Int) - 1)) w _
 unfold slices_heapSortCmpFunc_api_Route.L2
 refine WP.ite (fun h => ?_) (fun h => ?_)
 ·obtain ⟨k, rfl⟩ : ∃ k', k = k' + 1 := ⟨k - 1, by omega⟩
  rw [e0, show (((k + 1 : Nat) : Int) - 1) = (k : Int) by omega]
  refine WP.step (sift_wp cm hn k (b - a) a (.inl (by omega)) (by omega) s) (fun _ w s => WP.next ?_)
  exact ⟨(k, siftDown lt (b - a) a k d1), ⟨wrap_i64 (by omega) (by omega), by simp only; omega, s, by rw [← he]; rfl⟩, by simp only; omega⟩
 ·obtain rfl : k = 0 := by omega
  have hd : d1 = heapBuild lt (b - a) a ((b - a - 1) / 2 + 1) d := he
  refine WP.step (R := fun _ w' => St W L R a0 sp D n (heapSort lt d a b) w') ?_ (fun _ w s => WP.done s)
  unfold slices_heapSortCmpFunc_api_Route.K1
  rw [e0, wrap_i64 (n := ((b - a : Nat) : Int) - 1) (by omega) (by omega)]
  refine WP.loopG (γ := Nat × Array T) (fun g i w => i = (g.1 : Int) - 1 ∧ g.1 ≤ b - a ∧ St W L R a0 sp D n g.2 w ∧ heapPop lt a g.1 g.2 = heapSort lt d a b) (fun g _ => g.1) (b - a, d1) ⟨rfl, Nat.le_refl _, s, by simp only; rw [hd]; rfl⟩ ?_
  clear s he hd d1
  rintro ⟨k, d1⟩ _ w ⟨rfl, hk, s, he⟩
  simp only at s he hk
  show WP (slices_heapSortCmpFunc_api_Route.L1 a0 a f ((k : Int) - 1)) w _
  unfold slices_heapSortCmpFunc_api_Route.L1
  refine WP.ite (fun h => ?_) (fun h => WP.done ?_)
  ·obtain ⟨k, rfl⟩ : ∃ k', k = k' + 1 := ⟨k - 1, by omega⟩
   rw [show (((k + 1 : Nat) : Int) - 1) = (k : Int) by omega]
   have e2 : IntKind.wrap .i64 ((a : Int) + (k : Int)) = ((a + k : Nat) : Int) := wr (by omega) (by omega)
   rw [e2]
   refine s.draw (fun w s => s.swap a (a + k) rfl rfl (by omega) (by omega) (fun w s => ?_))
   refine WP.step (sift_wp cm hn 0 k a (.inl (by omega)) (by omega) s) (fun _ w s => WP.next ?_)
   exact ⟨(k, siftDown lt k a 0 (swp d1 a (a + k))), ⟨wrap_i64 (by omega) (by omega), by simp only; omega, s, by rw [← he]; rfl⟩, by simp only; omega⟩
  ·obtain rfl : k = 0 := by omega
   have hd : d1 = heapSort lt d a b := he
   exact hd ▸ s
theorem up_scan {G : Int → M (LS Int β)} {Kc : Int → M β} (p : T → Bool) (i j : Nat) (hij : i ≤ j + 1) {I0 : Int} (hI0 : I0 = (i : Int)) (s : St W L R a0 sp D n d w)
  (body : ∀ (k : Nat) (w : World) (N : Int → World → Prop), i ≤ k → k ≤ j + 1 → St W L R a0 sp D n d w → (∀ w', k ≤ j → p d[k]! = true → St W L R a0 sp D n d w' → N ((k + 1 : Nat) : Int) w') → (∀ w', (k ≤ j → p d[k]! = false) → St W L R a0 sp D n d w' → WP (Kc k) w' Q) → WP (G k) w (WP.Rd N Q))
  (fin : ∀ w, scanUp p d j i ≤ j + 1 → (scanUp p d j i ≤ j → p d[scanUp p d j i]! = false) → St W L R a0 sp D n d w → WP (Kc ((scanUp p d j i : Nat) : Int)) w Q) : WP (loopM G I0) w Q := by
 subst hI0
 refine WP.loopG (γ := Nat) (fun k x w => x = (k : Int) ∧ i ≤ k ∧ k ≤ j + 1 ∧ St W L R a0 sp D n d w ∧ scanUp p d j k = scanUp p d j i) (fun k _ => j + 1 - k) i ⟨rfl, Nat.le_refl _, hij, s, rfl⟩ ?_
 clear s
 rintro k _ w ⟨rfl, h1, h2, s, he⟩
 refine body k w _ h1 h2 s (fun w' hk hp s => ?_) (fun w' hk s => ?_)
 ·refine ⟨k + 1, ⟨rfl, by omega, by omega, s, ?_⟩, by omega⟩
  rw [← he]
  conv => rhs; rw [scanUp]
  rw [if_pos (by simp [hk, hp])]
 ·have hst : scanUp p d j k = k := by
   rw [scanUp, if_neg]
   intro hx
   simp only [Bool.and_eq_true, decide_eq_true_eq] at hx
   rw [hk hx.1] at hx
   cases hx.2
  rw [hst] at he
  have := fin w' (by omega) (by rw [← he]; exact hk) s
  rwa [← he] at this
theorem down_scan {G : Int → M (LS Int β)} {Kc : Int → M β} (p : T → Bool) (i j : Nat) (hi : 1 ≤ i) (hij : i ≤ j + 1) {I0 : Int} (hI0 : I0 = (j : Int)) (s : St W L R a0 sp D n d w)
  (body : ∀ (k : Nat) (w : World) (N : Int → World → Prop), k ≤ j → i ≤ k + 1 → St W L R a0 sp D n d w → (∀ w', 1 ≤ k → i ≤ k → p d[k]! = true → St W L R a0 sp D n d w' → N ((k - 1 : Nat) : Int) w') → (∀ w', (i ≤ k → p d[k]! = false) → St W L R a0 sp D n d w' → WP (Kc k) w' Q) → WP (G k) w (WP.Rd N Q))
  (fin : ∀ w, scanDown p d i j ≤ j → i ≤ scanDown p d i j + 1 → (i ≤ scanDown p d i j → p d[scanDown p d i j]! = false) → St W L R a0 sp D n d w → WP (Kc ((scanDown p d i j : Nat) : Int)) w Q) : WP (loopM G I0) w Q := by
 subst hI0
 refine WP.loopG (γ := Nat) (fun k x w => x = (k : Int) ∧ k ≤ j ∧ i ≤ k + 1 ∧ St W L R a0 sp D n d w ∧ scanDown p d i k = scanDown p d i j) (fun k _ => k) j ⟨rfl, Nat.le_refl _, hij, s, rfl⟩ ?_
 clear s
 rintro k _ w ⟨rfl, h1, h2, s, he⟩
 refine body k w _ h1 h2 s (fun w' hk hk2 hp s => ?_) (fun w' hk s => ?_)
 ·obtain ⟨k, rfl⟩ : ∃ k', k = k' + 1 := ⟨k - 1, by omega⟩
  refine ⟨k, ⟨by simp, by omega, by omega, s, ?_⟩, by omega⟩
  rw [← he]
  conv => rhs; rw [scanDown]
  rw [if_pos (by simp [hk2, hp])]
 ·have hst : scanDown p d i k = k := by
   cases k with
   | zero => rfl
   | succ k =>
    rw [scanDown, if_neg]
    intro hx
    simp only [Bool.and_eq_true, decide_eq_true_eq] at hx
    rw [hk hx.1] at hx
    cases hx.2
  rw [hst] at he
  have := fin w' (by omega) (by omega) (by rw [← he]; exact hk) s
  rwa [← he] at this
theorem part_wp (cm : SCmp W R D f lt) (hn : n < 1152921504606846976) (a b pv : Nat) (ha : a ≤ pv) (hp : pv < b) (hb : b ≤ n) (s : St W L R a0 sp D n d w) : WP (slices_partitionCmpFunc_api_Route a0 a b pv f) w (fun r w' => r.1 = ((partition lt d a b pv).1 : Int) ∧ St W L R a0 sp D n (partition lt d a b pv).2.2 w') := by
 unfold slices_partitionCmpFunc_api_Route
 rw [partition_fst, partition_arr]
 refine s.draw (fun w s => s.swap a pv rfl rfl (by omega) (by omega) (fun w s => ?_))
 generalize swp d a pv = d0 at s ⊢
 have eb : IntKind.wrap .i64 ((b : Int) - 1) = ((b - 1 : Nat) : Int) := wr (by omega) (by omega)
 refine up_scan (fun x => lt x d0[a]!) (a + 1) (b - 1) (by omega) (wr (by omega) (by omega)) s (Kc := fun i => slices_partitionCmpFunc_api_Route.K5 a0 a b f i) (fun k w N h1 h2 s hN hK => ?_) (fun w i1 i2 s => ?_)
 ·show WP (slices_partitionCmpFunc_api_Route.L5 a0 a b f (k : Int)) w _
  unfold slices_partitionCmpFunc_api_Route.L5
  rw [eb]
  refine s.test (fun r => decide (r < 0)) _ cm k a (fun _ => rfl) (fun _ => rfl) (fun h => by omega) (fun _ => by omega) (fun r hr => hr) (fun hc hv w s => WP.next ?_) (fun hv w s => WP.step (hK w (fun h => hv (by omega)) s) (fun b w h => WP.done h))
  rw [wr (i := k + 1) (by omega) (by omega)]
  exact hN w (by omega) hv s
 have hun := partLoop_eq lt a (a + 1) (b - 1) d0
 have i0 : a + 1 ≤ scanUp (fun x => lt x d0[a]!) d0 (b - 1) (a + 1) := scanUp_ge _ _ _ _
 generalize scanUp (fun x => lt x d0[a]!) d0 (b - 1) (a + 1) = i at i0 i1 i2 hun ⊢
 show WP (slices_partitionCmpFunc_api_Route.K5 a0 a b f (i : Int)) w _
 unfold slices_partitionCmpFunc_api_Route.K5
 rw [eb]
 refine down_scan (fun x => !lt x d0[a]!) i (b - 1) (by omega) (by omega) rfl s (Kc := fun j => slices_partitionCmpFunc_api_Route.K4 a0 a f i j) (fun k w N h1 h2 s hN hK => ?_) (fun w j1 j2 j3 s => ?_)
 ·show WP (slices_partitionCmpFunc_api_Route.L4 a0 a f (i : Int) (k : Int)) w _
  unfold slices_partitionCmpFunc_api_Route.L4
  refine s.test (fun r => !(decide (r < 0))) _ cm k a (fun _ => rfl) (fun _ => rfl) (fun h => by omega) (fun _ => by omega) (fun r hr => by rw [hr]) (fun hc hv w s => WP.next ?_) (fun hv w s => WP.step (hK w (fun h => hv (by omega)) s) (fun b w h => WP.done h))
  rw [wr (i := k - 1) (by omega) (by omega)]
  exact hN w (by omega) (by omega) hv s
 generalize scanDown (fun x => !lt x d0[a]!) d0 i (b - 1) = j at j1 j2 j3 hun ⊢
 show WP (slices_partitionCmpFunc_api_Route.K4 a0 a f (i : Int) (j : Int)) w _
 unfold slices_partitionCmpFunc_api_Route.K4
 refine WP.ite (fun h => ?_) (fun h => ?_)
 ·rw [if_pos (by omega)] at hun
  rw [hun]
  exact s.draw (fun w s => s.swap j a rfl rfl (by omega) (by omega) (fun w s => WP.ret ⟨rfl, s⟩))
 rw [if_neg (by omega)] at hun
 have hne : i < j := by
  rcases Nat.lt_or_ge i j with h' | h'
  ·exact h'
  ·obtain rfl : i = j := by omega
   have q1 := i2 (by omega)
   have q2 := j3 (by omega)
   simp only [Bool.not_eq_false'] at q1 q2
   rw [q1] at q2
   cases q2
 refine s.draw (fun w s => s.swap i j rfl rfl (by omega) (by omega) (fun w s => ?_))
 rw [hun]
 clear hun i1 i2 j3
 refine WP.loopG (γ := (Nat × Nat) × Array T) (fun g x w => x = ((g.1.1 : Int), (g.1.2 : Int)) ∧ a + 1 ≤ g.1.1 ∧ g.1.1 ≤ g.1.2 + 1 ∧ g.1.2 < b ∧ St W L R a0 sp D n g.2 w ∧ partLoop lt a g.1.1 g.1.2 g.2 = partLoop lt a (i + 1) (j - 1) (swp d0 i j)) (fun g _ => g.1.2 + 1 - g.1.1) ((i + 1, j - 1), swp d0 i j) ⟨by rw [wr (i := i + 1) (by omega) (by omega), wr (i := j - 1) (by omega) (by omega)], by simp only; omega, by simp only; omega, by simp only; omega, s, rfl⟩ ?_
 clear s
 generalize partLoop lt a (i + 1) (j - 1) (swp d0 i j) = F
 clear h hne i0 j1 j2 i j
 rintro ⟨⟨i, j⟩, d1⟩ _ w ⟨rfl, h1, h2, h3, s, he⟩
 simp only at h1 h2 h3 s he
 show WP (slices_partitionCmpFunc_api_Route.L1 a0 a f (i : Int) (j : Int)) w _
 unfold slices_partitionCmpFunc_api_Route.L1
 have hun := partLoop_eq lt a i j d1
 refine up_scan (fun x => lt x d1[a]!) i j (by omega) rfl s (Kc := fun i => slices_partitionCmpFunc_api_Route.K3 a0 a f (j : Int) i) (fun k w N h1 h2 s hN hK => ?_) (fun w i1 i2 s => ?_)
 ·show WP (slices_partitionCmpFunc_api_Route.L3 a0 a f (j : Int) (k : Int)) w _
  unfold slices_partitionCmpFunc_api_Route.L3
  refine s.test (fun r => decide (r < 0)) _ cm k a (fun _ => rfl) (fun _ => rfl) (fun h => by omega) (fun _ => by omega) (fun r hr => hr) (fun hc hv w s => WP.next ?_) (fun hv w s => WP.step (hK w (fun h => hv (by omega)) s) (fun b w h => WP.done h))
  rw [wr (i := k + 1) (by omega) (by omega)]
  exact hN w (by omega) hv s
 have i0 : i ≤ scanUp (fun x => lt x d1[a]!) d1 j i := scanUp_ge _ _ _ _
 generalize scanUp (fun x => lt x d1[a]!) d1 j i = i' at i0 i1 i2 hun ⊢
 show WP (slices_partitionCmpFunc_api_Route.K3 a0 a f (j : Int) (i' : Int)) w _
 unfold slices_partitionCmpFunc_api_Route.K3
 refine down_scan (fun x => !lt x d1[a]!) i' j (by omega) (by omega) rfl s (Kc := fun j => slices_partitionCmpFunc_api_Route.K2 a0 a i' j) (fun k w N h1 h2 s hN hK => ?_) (fun w j1 j2 j3 s => ?_)
 ·show WP (slices_partitionCmpFunc_api_Route.L2 a0 a f (i' : Int) (k : Int)) w _
  unfold slices_partitionCmpFunc_api_Route.L2
  refine s.test (fun r => !(decide (r < 0))) _ cm k a (fun _ => rfl) (fun _ => rfl) (fun h => by omega) (fun _ => by omega) (fun r hr => by rw [hr]) (fun hc hv w s => WP.next ?_) (fun hv w s => WP.step (hK w (fun h => hv (by omega)) s) (fun b w h => WP.done h))
  rw [wr (i := k - 1) (by omega) (by omega)]
  exact hN w (by omega) (by omega) hv s
 generalize scanDown (fun x => !lt x d1[a]!) d1 i' j = j' at j1 j2 j3 hun ⊢
 show WP (slices_partitionCmpFunc_api_Route.K2 a0 a (i' : Int) (j' : Int)) w _
 unfold slices_partitionCmpFunc_api_Route.K2
 refine WP.ite (fun h => ?_) (fun h => ?_)
 ·rw [if_pos (by omega), he] at hun
  rw [hun]
  unfold slices_partitionCmpFunc_api_Route.K1
  refine WP.step (R := fun r w' => r.1 = (j' : Int) ∧ St W L R a0 sp D n (swp d1 j' a) w') (s.draw (fun w s => s.swap j' a rfl rfl (by omega) (by omega) (fun w s => WP.ret ⟨rfl, s⟩))) (fun r w h => WP.done h)
 rw [if_neg (by omega)] at hun
 have hne : i' < j' := by
  rcases Nat.lt_or_ge i' j' with h' | h'
  ·exact h'
  ·obtain rfl : i' = j' := by omega
   have q1 := i2 (by omega)
   have q2 := j3 (by omega)
   simp only [Bool.not_eq_false'] at q1 q2
   rw [q1] at q2
   cases q2
 refine s.draw (fun w s => s.swap i' j' rfl rfl (by omega) (by omega) (fun w s => WP.next ?_))
 exact ⟨((i' + 1, j' - 1), swp d1 i' j'), ⟨by rw [wr (i := i' + 1) (by omega) (by omega), wr (i := j' - 1) (by omega) (by omega)], by simp only; omega, by simp only; omega, by simp only; omega, s, by rw [← hun]; exact he⟩, by simp only; omega⟩
end
end Go.Proofs.YtfgcobigollfjaaDoor.Lx.Srt
