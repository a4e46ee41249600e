/- Plain words, put together. -/
import Derived.Test.YtfgcobigollfjaaDoorLxSh
import Derived.Test.YtfgcobigollfjaaDoorLxP
import Derived.Sort.AssemblyPlain
set_option linter.unusedVariables false
set_option linter.unusedSimpArgs false
namespace Go.Proofs.YtfgcobigollfjaaDoor.Lx.Srt
open Go Go.Proofs Go.RowKit Go.Sort Lx
abbrev T := Zab
abbrev C : Cod T := Zac
def SCmp (W : World) (R : List HP) (D : T → Prop) (f : T → T → M Int) (lt : T → T → Bool) : Prop :=
 ∀ (L : List HP) (w : World) (x y : T), Ss W (L ++ R) w → D x → D y → WP (f x y) w (fun r w' => decide (r < 0) = lt x y ∧ Ss W (L ++ R) w')
structure St (W : World) (L R : List HP) (a0 : Sl) (sp : List T) (D : T → Prop) (n : Nat) (d : Array T) (w : World) : Prop where
 sz : d.size = n
 al : ∀ i, i < n → D d[i]!
 ss : Ss W (L ++ vec C a0 d.toList sp :: R) w
theorem Zi9 (L R : List HP) (A : HP) : nth (L ++ A :: R) L.length = some A := by
 induction L with
 | nil => rfl
 | cons x L ih => exact ih
theorem Zmq (L R : List HP) (A B : HP) : up (L ++ A :: R) L.length B = L ++ B :: R := by
 induction L with
 | nil => rfl
 | cons x L ih => exact congrArg (x :: ·) ih
theorem Zl7 {d : Array T} {i : Nat} (h : i < d.size) : d.toList[i]? = some d[i]! := by
 rw [Array.getElem?_toList, getElem!_pos d i h, Array.getElem?_eq_getElem h]
theorem ZlO (d : Array T) (i j : Nat) : (swp d i j).toList = (d.toList.set i d[j]!).set j d[i]! := by
 unfold swp
 simp
section
variable {W w : World} {L R : List HP} {a0 : Sl} {sp : List T} {D : T → Prop} {n : Nat} {d : Array T} {β : Type} {Q : β → World → Prop} {f : T → T → M Int} {lt : T → T → Bool}
theorem St.draw {g : Unit → M β} (s : St W L R a0 sp D n d w) (k : ∀ w', St W L R a0 sp D n d w' → WP (g ()) w' Q) : WP (Lx.draw >>= g) w Q := WP.draw' s.ss (fun w' h => k w' ⟨s.sz, s.al, h⟩)
theorem St.get {g : T → M β} {I : Int} (s : St W L R a0 sp D n d w) (i : Nat) (hI : I = (i : Int)) (hi : i < n) (k : WP (g d[i]!) w Q) : WP (Lx.idx a0.a a0.len I 36 >>= fun p => Lx.ld C p >>= g) w Q := by
 subst hI
 refine WP.rdx s.ss L.length (Zi9 _ _ _) ZcG (by omega) (x := d[i]!) ?_ rfl k
 rw [Int.toNat_natCast]
 exact Zl7 (by rw [s.sz]; exact hi)
theorem St.cmp {g : Int → M β} {I J : Int} (s : St W L R a0 sp D n d w) (cm : SCmp W R D f lt) (i j : Nat) (hI : I = (i : Int)) (hJ : J = (j : Int)) (hi : i < n) (hj : j < n) (k : ∀ r w', decide (r < 0) = lt d[i]! d[j]! → St W L R a0 sp D n d w' → WP (g r) w' Q) :
  WP (Lx.idx a0.a a0.len I 36 >>= fun p => Lx.ld C p >>= fun x => Lx.idx a0.a a0.len J 36 >>= fun q => Lx.ld C q >>= fun y => f x y >>= g) w Q := by
 refine s.get i hI hi (s.get j hJ hj ?_)
 have s1 : Ss W ((L ++ [vec C a0 d.toList sp]) ++ R) w := by rw [List.append_assoc]; exact s.ss
 refine WP.step (cm _ w _ _ s1 (s.al i hi) (s.al j hj)) (fun r w' h => k r w' h.1 ⟨s.sz, s.al, ?_⟩)
 have := h.2
 rwa [List.append_assoc] at this
theorem Znk (hs : d.size = n) (ha : ∀ i, i < n → D d[i]!) {i j : Nat} (hi : i < n) (hj : j < n) : ∀ k, k < n → D (swp d i j)[k]! := by
 intro k hk
 rw [swp_get d (by omega) (by omega) k]
 split
 ·exact ha _ hi
 ·split
  ·exact ha _ hj
  ·exact ha _ hk
theorem St.swap {g : Unit → M β} {I J : Int} (s : St W L R a0 sp D n d w) (i j : Nat) (hI : I = (i : Int)) (hJ : J = (j : Int)) (hi : i < n) (hj : j < n) (k : ∀ w', St W L R a0 sp D n (swp d i j) w' → WP (g ()) w' Q) :
  WP (Lx.idx a0.a a0.len J 36 >>= fun p => Lx.ld C p >>= fun x => Lx.idx a0.a a0.len I 36 >>= fun q => Lx.ld C q >>= fun y => Lx.idx a0.a a0.len I 36 >>= fun p => Lx.st C p x >>= fun _ => Lx.idx a0.a a0.len J 36 >>= fun p => Lx.st C p y >>= g) w Q := by
 refine s.get j hJ hj (s.get i hI hi ?_)
 subst hI hJ
 have hl : d.toList.length = n := by rw [Array.length_toList, s.sz]
 refine WP.stx s.ss L.length (Zi9 _ _ _) (by omega) (by omega) rfl (fun w s1 => ?_)
 rw [Zmq, Int.toNat_natCast] at s1
 refine WP.stx s1 L.length (Zi9 _ _ _) (by omega) (by rw [List.length_set]; omega) rfl (fun w s2 => ?_)
 rw [Zmq, Int.toNat_natCast, ← ZlO] at s2
 exact k w ⟨by rw [swp_size, s.sz], Znk s.sz s.al hi hj, s2⟩
theorem St.to {d' : Array T} (s : St W L R a0 sp D n d w) (e : d = d') : St W L R a0 sp D n d' w := e ▸ s
theorem wr {x : Int} {i : Nat} (h : x = (i : Int)) (h' : i < 9223372036854775808) : IntKind.wrap .i64 x = (i : Int) := by rw [h]; exact ZaP (by omega) (by omega)
theorem ZnG (cm : SCmp W R D f lt) (hn : n < 4611686018427387904) (a b : Nat) (hab : a ≤ b) (hb : b ≤ n) (s : St W L R a0 sp D n d w) : WP (Zak a0 a b f) w (fun _ w' => St W L R a0 sp D n (insertionSort lt d a b) w') := by
 unfold Zak
 refine WP.loopG (γ := Nat × Array T) (fun g i w => i = (g.1 : Int) ∧ a + 1 ≤ g.1 ∧ g.1 ≤ max b (a + 1) ∧ St W L R a0 sp D n g.2 w ∧ insOuter lt a b g.1 g.2 = insertionSort lt d a b) (fun g _ => max b (a + 1) - g.1) (a + 1, d) ⟨wr (by simp) (by omega), by simp, by simp; omega, s, rfl⟩ ?_
 clear s
 rintro ⟨i, d1⟩ _ w ⟨rfl, h1, h2, s, he⟩
 simp only at h1 h2 s he
 show WP (Zak.L1 a0 a b f (i : Int)) w _
 unfold Zak.L1
 refine WP.ite (fun hi => ?_) (fun hi => WP.done ?_)
 ·have hi : i < b := by omega
  refine WP.loopG (γ := Nat × Array T) (fun g j w => j = (g.1 : Int) ∧ g.1 ≤ i ∧ a ≤ g.1 ∧ St W L R a0 sp D n g.2 w ∧ insInner lt a g.1 g.2 = insInner lt a i d1) (fun g _ => g.1) (i, d1) ⟨rfl, by simp, by simp; omega, s, rfl⟩ ?_
  clear s
  rintro ⟨j, d2⟩ _ w ⟨rfl, k1, k2, s, hk⟩
  simp only at k1 k2 s hk
  show WP (Zak.L2 a0 a f (i : Int) (j : Int)) w _
  unfold Zak.L2
  refine s.draw (fun w s => ?_)
  have fin : ∀ w, St W L R a0 sp D n d2 w → insInner lt a j d2 = d2 → WP.Rd (fun i' w' => ∃ g' : Nat × Array T, (i' = (g'.1 : Int) ∧ a + 1 ≤ g'.1 ∧ g'.1 ≤ max b (a + 1) ∧ St W L R a0 sp D n g'.2 w' ∧ insOuter lt a b g'.1 g'.2 = insertionSort lt d a b) ∧ max b (a + 1) - g'.1 < max b (a + 1) - i) (fun _ w' => St W L R a0 sp D n (insertionSort lt d a b) w') (LS.next (IntKind.wrap .i64 ((i : Int) + 1)) : LS Int Unit) w := by
   intro w s hd
   refine ⟨(i + 1, d2), ⟨wr (by simp) (by omega), by simp only; omega, by simp only; omega, s, ?_⟩, by simp only; omega⟩
   rw [← he]
   conv => rhs; rw [insOuter]
   rw [if_pos hi, ← hk, hd]
  by_cases hja : j = a
  ·subst hja
   rw [if_neg (show ¬ (j : Int) > (j : Int) by omega)]
   refine WP.done (fin w s ?_)
   cases j with
   | zero => rfl
   | succ j => rw [insInner]; simp
  ·obtain ⟨j, rfl⟩ : ∃ j', j = j' + 1 := ⟨j - 1, by omega⟩
   have hjm : (((j + 1 : Nat) : Int) - 1) = (j : Int) := by omega
   rw [if_pos (show ((j + 1 : Nat) : Int) > (a : Int) by omega)]
   refine WP.step (R := fun y w' => y = lt d2[j + 1]! d2[j]! ∧ St W L R a0 sp D n d2 w') (s.cmp cm (j + 1) j rfl (wr hjm (by omega)) (by omega) (by omega) (fun r w h s => WP.ret ⟨h, s⟩)) ?_
   rintro y w ⟨rfl, s⟩
   have hun : insInner lt a (j + 1) d2 = if lt d2[j + 1]! d2[j]! then insInner lt a j (swp d2 (j + 1) j) else d2 := by
    rw [insInner]
    simp only [gt_iff_lt, show a < j + 1 by omega, decide_true, Bool.true_and]
   refine WP.ite (fun hy => ?_) (fun hy => WP.done (fin w s ?_))
   ·rw [hy, if_pos rfl] at hun
    refine s.draw (fun w s => s.swap (j + 1) j rfl (wr hjm (by omega)) (by omega) (by omega) (fun w s => WP.next ?_))
    exact ⟨(j, swp d2 (j + 1) j), ⟨wr hjm (by omega), by simp only; omega, by simp only; omega, s, by rw [← hun]; exact hk⟩, by simp only; omega⟩
   ·rw [hun, if_neg hy]
 ·have : ¬ i < b := by omega
  rw [insOuter, if_neg this] at he
  exact he ▸ s
end
end Go.Proofs.YtfgcobigollfjaaDoor.Lx.Srt
set_option linter.unusedVariables false
set_option linter.unusedSimpArgs false
namespace Go.Proofs.YtfgcobigollfjaaDoor.Lx.Srt
open Go Go.Proofs Go.RowKit Go.Sort Lx
section
variable {W w : World} {L R : List HP} {a0 : Sl} {sp : List T} {D : T → Prop} {n : Nat} {d : Array T} {β : Type} {Q : β → World → Prop} {f : T → T → M Int} {lt : T → T → Bool}
theorem St.test {c : Prop} [Decidable c] {A B : M β} {I J : Int} (h : Int → Bool) (v : Bool) (s : St W L R a0 sp D n d w) (cm : SCmp W R D f lt) (i j : Nat) (hI : c → I = (i : Int)) (hJ : c → J = (j : Int)) (hi : c → i < n) (hj : c → j < n) (hv : ∀ r : Int, decide (r < 0) = lt d[i]! d[j]! → h r = v)
  (hA : c → v = true → ∀ w', St W L R a0 sp D n d w' → WP A w' Q) (hB : (c → v = false) → ∀ w', St W L R a0 sp D n d w' → WP B w' Q) :
  WP (Lx.draw >>= fun _ => (if c then Lx.idx a0.a a0.len I 36 >>= fun p => Lx.ld C p >>= fun x => Lx.idx a0.a a0.len J 36 >>= fun q => Lx.ld C q >>= fun y => f x y >>= fun r => pure (h r) else pure false) >>= fun y => if y = true then A else B) w Q := by
 refine s.draw (fun w s => ?_)
 refine WP.step (R := fun y w' => y = (decide c && v) ∧ St W L R a0 sp D n d w') (WP.ite (fun hc => ?_) (fun hc => WP.ret ⟨by simp [hc], s⟩)) ?_
 ·exact s.cmp cm i j (hI hc) (hJ hc) (hi hc) (hj hc) (fun r w hr s => WP.ret ⟨by rw [hv r hr]; simp [hc], s⟩)
 ·rintro y w ⟨rfl, s⟩
  refine WP.ite (fun hy => ?_) (fun hy => ?_)
  ·simp only [Bool.and_eq_true, decide_eq_true_eq] at hy
   exact hA hy.1 hy.2 w s
  ·refine hB (fun hc => ?_) w s
   simpa [hc] using hy
theorem ZkC (cm : SCmp W R D f lt) (hn : n < 1152921504606846976) (root hi first : Nat) (hr : root < n ∨ root < hi) (hb : first + hi ≤ n) (s : St W L R a0 sp D n d w) : WP (Zan a0 root hi first f) w (fun _ w' => St W L R a0 sp D n (siftDown lt hi first root d) w') := by
 unfold Zan
 refine WP.loopG (γ := Nat × Array T) (fun g i w => i = (g.1 : Int) ∧ (g.1 < n ∨ g.1 < hi) ∧ St W L R a0 sp D n g.2 w ∧ siftDown lt hi first g.1 g.2 = siftDown lt hi first root d) (fun g _ => hi - g.1) (root, d) ⟨rfl, hr, s, rfl⟩ ?_
 clear s hr
 rintro ⟨r, d1⟩ _ w ⟨rfl, hr, s, he⟩
 simp only at s he hr
 show WP (Zan.L1 a0 hi first f (r : Int)) w _
 unfold Zan.L1
 have e1 : IntKind.wrap .i64 ((IntKind.wrap .i64 (2 * (r : Int))) + 1) = ((2 * r + 1 : Nat) : Int) := by
  rw [wr (x := 2 * (r : Int)) (i := 2 * r) (by omega) (by omega)]
  exact wr (i := 2 * r + 1) (by omega) (by omega)
 rw [e1]
 have e2 : IntKind.wrap .i64 (((2 * r + 1 : Nat) : Int) + 1) = ((2 * r + 2 : Nat) : Int) := wr (by omega) (by omega)
 rw [e2]
 refine WP.ite (fun h => WP.done ?_) (fun h => ?_)
 ·rw [siftDown, dif_pos (by omega)] at he
  exact he ▸ s
 have h : ¬ 2 * r + 1 ≥ hi := by omega
 have e3 : IntKind.wrap .i64 ((first : Int) + ((2 * r + 1 : Nat) : Int)) = ((first + (2 * r + 1) : Nat) : Int) := wr (by omega) (by omega)
 have e4 : IntKind.wrap .i64 (((first + (2 * r + 1) : Nat) : Int) + 1) = ((first + (2 * r + 1) + 1 : Nat) : Int) := wr (by omega) (by omega)
 rw [e3, e4]
 have er : IntKind.wrap .i64 ((first : Int) + (r : Int)) = ((first + r : Nat) : Int) := wr (by omega) (by omega)
 have key : ∀ (c : Nat) w, (c = 2 * r + 1 ∨ c = 2 * r + 2) → c < hi → St W L R a0 sp D n d1 w → siftDown lt hi first r d1 = (if !lt d1[first + r]! d1[first + c]! then d1 else siftDown lt hi first c (swp d1 (first + r) (first + c))) →
   WP (Zan.K1 a0 first f (r : Int) (c : Int)) w (WP.Rd (fun i' w' => ∃ g' : Nat × Array T, (i' = (g'.1 : Int) ∧ (g'.1 < n ∨ g'.1 < hi) ∧ St W L R a0 sp D n g'.2 w' ∧ siftDown lt hi first g'.1 g'.2 = siftDown lt hi first root d) ∧ hi - g'.1 < hi - r) (fun _ w' => St W L R a0 sp D n (siftDown lt hi first root d) w')) := by
  intro c w hc hc2 s hd
  unfold Zan.K1
  have ec : IntKind.wrap .i64 ((first : Int) + (c : Int)) = ((first + c : Nat) : Int) := wr (by omega) (by omega)
  rw [er, ec]
  refine s.draw (fun w s => s.cmp cm (first + r) (first + c) rfl rfl (by omega) (by omega) (fun q w hq s => ?_))
  refine WP.ite (fun hl => WP.done ?_) (fun hl => ?_)
  ·rw [show lt d1[first + r]! d1[first + c]! = false by rw [← hq]; simpa using hl] at hd
   rw [← he, hd]
   simpa using s
  ·rw [show lt d1[first + r]! d1[first + c]! = true by rw [← hq]; simpa using hl] at hd
   refine s.draw (fun w s => s.swap (first + r) (first + c) rfl rfl (by omega) (by omega) (fun w s => WP.next ?_))
   exact ⟨(c, swp d1 (first + r) (first + c)), ⟨rfl, .inr hc2, s, by rw [← he, hd]; simp⟩, by simp only; omega⟩
 have hun := siftDown.eq_1 lt hi first r d1
 rw [dif_neg h] at hun
 refine s.test (fun q => decide (q < 0)) (lt d1[first + (2 * r + 1)]! d1[first + (2 * r + 1) + 1]!) cm (first + (2 * r + 1)) (first + (2 * r + 1) + 1) (fun _ => rfl) (fun _ => rfl) (fun hc => by omega) (fun hc => by omega) (fun q hq => hq) (fun hc hv w s => ?_) (fun hv w s => ?_)
 ·refine key (2 * r + 2) w (.inr rfl) (by omega) s ?_
  rw [hun, if_pos (by rw [hv]; simp; omega), dif_pos (by omega)]
 ·refine key (2 * r + 1) w (.inl rfl) (by omega) s ?_
  rw [hun, if_neg]
  intro hx
  simp only [Bool.and_eq_true, decide_eq_true_eq] at hx
  rw [hv (by omega)] at hx
  cases hx.2
theorem Zm5 (cm : SCmp W R D f lt) (hn : n < 1152921504606846976) (a b : Nat) (hab : a ≤ b) (hb : b ≤ n) (hab0 : a < n) (s : St W L R a0 sp D n d w) : WP (Zaj a0 a b f) w (fun _ w' => St W L R a0 sp D n (heapSort lt d a b) w') := by
 unfold Zaj
 have e0 : IntKind.wrap .i64 ((b : Int) - (a : Int)) = ((b - a : Nat) : Int) := wr (by omega) (by omega)
 rw [e0]
 have e1 : IntKind.wrap .i64 (Int.tdiv (IntKind.wrap .i64 (((b - a : Nat) : Int) - 1)) 2) = (((b - a - 1) / 2 : Nat) : Int) := by
  rw [ZaP (n := ((b - a : Nat) : Int) - 1) (by omega) (by omega)]
  by_cases h0 : b - a = 0
  ·rw [h0]
   rfl
  ·rw [show ((b - a : Nat) : Int) - 1 = ((b - a - 1 : Nat) : Int) by omega]
   refine wr ?_ (by omega)
   rw [Int.tdiv_eq_ediv_of_nonneg (by omega)]
   rfl
 rw [e1]
 refine WP.loopG (γ := Nat × Array T) (fun g i w => i = (g.1 : Int) - 1 ∧ g.1 ≤ (b - a - 1) / 2 + 1 ∧ St W L R a0 sp D n g.2 w ∧ heapBuild lt (b - a) a g.1 g.2 = heapBuild lt (b - a) a ((b - a - 1) / 2 + 1) d) (fun g _ => g.1) ((b - a - 1) / 2 + 1, d) ⟨by simp, Nat.le_refl _, s, rfl⟩ ?_
 clear s
 rintro ⟨k, d1⟩ _ w ⟨rfl, hk, s, he⟩
 simp only at s he hk
 show WP (Zaj.L2 a0 a b f ((k : Int) - 1)) w _
 unfold Zaj.L2
 refine WP.ite (fun h => ?_) (fun h => ?_)
 ·obtain ⟨k, rfl⟩ : ∃ k', k = k' + 1 := ⟨k - 1, by omega⟩
  rw [e0, show (((k + 1 : Nat) : Int) - 1) = (k : Int) by omega]
  refine WP.step (ZkC cm hn k (b - a) a (.inl (by omega)) (by omega) s) (fun _ w s => WP.next ?_)
  exact ⟨(k, siftDown lt (b - a) a k d1), ⟨ZaP (by omega) (by omega), by simp only; omega, s, by rw [← he]; rfl⟩, by simp only; omega⟩
 ·obtain rfl : k = 0 := by omega
  have hd : d1 = heapBuild lt (b - a) a ((b - a - 1) / 2 + 1) d := he
  refine WP.step (R := fun _ w' => St W L R a0 sp D n (heapSort lt d a b) w') ?_ (fun _ w s => WP.done s)
  unfold Zaj.K1
  rw [e0, ZaP (n := ((b - a : Nat) : Int) - 1) (by omega) (by omega)]
  refine WP.loopG (γ := Nat × Array T) (fun g i w => i = (g.1 : Int) - 1 ∧ g.1 ≤ b - a ∧ St W L R a0 sp D n g.2 w ∧ heapPop lt a g.1 g.2 = heapSort lt d a b) (fun g _ => g.1) (b - a, d1) ⟨rfl, Nat.le_refl _, s, by simp only; rw [hd]; rfl⟩ ?_
  clear s he hd d1
  rintro ⟨k, d1⟩ _ w ⟨rfl, hk, s, he⟩
  simp only at s he hk
  show WP (Zaj.L1 a0 a f ((k : Int) - 1)) w _
  unfold Zaj.L1
  refine WP.ite (fun h => ?_) (fun h => WP.done ?_)
  ·obtain ⟨k, rfl⟩ : ∃ k', k = k' + 1 := ⟨k - 1, by omega⟩
   rw [show (((k + 1 : Nat) : Int) - 1) = (k : Int) by omega]
   have e2 : IntKind.wrap .i64 ((a : Int) + (k : Int)) = ((a + k : Nat) : Int) := wr (by omega) (by omega)
   rw [e2]
   refine s.draw (fun w s => s.swap a (a + k) rfl rfl (by omega) (by omega) (fun w s => ?_))
   refine WP.step (ZkC cm hn 0 k a (.inl (by omega)) (by omega) s) (fun _ w s => WP.next ?_)
   exact ⟨(k, siftDown lt k a 0 (swp d1 a (a + k))), ⟨ZaP (by omega) (by omega), by simp only; omega, s, by rw [← he]; rfl⟩, by simp only; omega⟩
  ·obtain rfl : k = 0 := by omega
   have hd : d1 = heapSort lt d a b := he
   exact hd ▸ s
theorem ZiX {G : Int → M (LS Int β)} {Kc : Int → M β} (p : T → Bool) (i j : Nat) (hij : i ≤ j + 1) {I0 : Int} (hI0 : I0 = (i : Int)) (s : St W L R a0 sp D n d w)
  (body : ∀ (k : Nat) (w : World) (N : Int → World → Prop), i ≤ k → k ≤ j + 1 → St W L R a0 sp D n d w → (∀ w', k ≤ j → p d[k]! = true → St W L R a0 sp D n d w' → N ((k + 1 : Nat) : Int) w') → (∀ w', (k ≤ j → p d[k]! = false) → St W L R a0 sp D n d w' → WP (Kc k) w' Q) → WP (G k) w (WP.Rd N Q))
  (fin : ∀ w, scanUp p d j i ≤ j + 1 → (scanUp p d j i ≤ j → p d[scanUp p d j i]! = false) → St W L R a0 sp D n d w → WP (Kc ((scanUp p d j i : Nat) : Int)) w Q) : WP (ZbR G I0) w Q := by
 subst hI0
 refine WP.loopG (γ := Nat) (fun k x w => x = (k : Int) ∧ i ≤ k ∧ k ≤ j + 1 ∧ St W L R a0 sp D n d w ∧ scanUp p d j k = scanUp p d j i) (fun k _ => j + 1 - k) i ⟨rfl, Nat.le_refl _, hij, s, rfl⟩ ?_
 clear s
 rintro k _ w ⟨rfl, h1, h2, s, he⟩
 refine body k w _ h1 h2 s (fun w' hk hp s => ?_) (fun w' hk s => ?_)
 ·refine ⟨k + 1, ⟨rfl, by omega, by omega, s, ?_⟩, by omega⟩
  rw [← he]
  conv => rhs; rw [scanUp]
  rw [if_pos (by simp [hk, hp])]
 ·have hst : scanUp p d j k = k := by
   rw [scanUp, if_neg]
   intro hx
   simp only [Bool.and_eq_true, decide_eq_true_eq] at hx
   rw [hk hx.1] at hx
   cases hx.2
  rw [hst] at he
  have := fin w' (by omega) (by rw [← he]; exact hk) s
  rwa [← he] at this
theorem Zg9 {G : Int → M (LS Int β)} {Kc : Int → M β} (p : T → Bool) (i j : Nat) (hi : 1 ≤ i) (hij : i ≤ j + 1) {I0 : Int} (hI0 : I0 = (j : Int)) (s : St W L R a0 sp D n d w)
  (body : ∀ (k : Nat) (w : World) (N : Int → World → Prop), k ≤ j → i ≤ k + 1 → St W L R a0 sp D n d w → (∀ w', 1 ≤ k → i ≤ k → p d[k]! = true → St W L R a0 sp D n d w' → N ((k - 1 : Nat) : Int) w') → (∀ w', (i ≤ k → p d[k]! = false) → St W L R a0 sp D n d w' → WP (Kc k) w' Q) → WP (G k) w (WP.Rd N Q))
  (fin : ∀ w, scanDown p d i j ≤ j → i ≤ scanDown p d i j + 1 → (i ≤ scanDown p d i j → p d[scanDown p d i j]! = false) → St W L R a0 sp D n d w → WP (Kc ((scanDown p d i j : Nat) : Int)) w Q) : WP (ZbR G I0) w Q := by
 subst hI0
 refine WP.loopG (γ := Nat) (fun k x w => x = (k : Int) ∧ k ≤ j ∧ i ≤ k + 1 ∧ St W L R a0 sp D n d w ∧ scanDown p d i k = scanDown p d i j) (fun k _ => k) j ⟨rfl, Nat.le_refl _, hij, s, rfl⟩ ?_
 clear s
 rintro k _ w ⟨rfl, h1, h2, s, he⟩
 refine body k w _ h1 h2 s (fun w' hk hk2 hp s => ?_) (fun w' hk s => ?_)
 ·obtain ⟨k, rfl⟩ : ∃ k', k = k' + 1 := ⟨k - 1, by omega⟩
  refine ⟨k, ⟨by simp, by omega, by omega, s, ?_⟩, by omega⟩
  rw [← he]
  conv => rhs; rw [scanDown]
  rw [if_pos (by simp [hk2, hp])]
 ·have hst : scanDown p d i k = k := by
   cases k with
   | zero => rfl
   | succ k =>
    rw [scanDown, if_neg]
    intro hx
    simp only [Bool.and_eq_true, decide_eq_true_eq] at hx
    rw [hk hx.1] at hx
    cases hx.2
  rw [hst] at he
  have := fin w' (by omega) (by omega) (by rw [← he]; exact hk) s
  rwa [← he] at this
theorem ZmR (cm : SCmp W R D f lt) (hn : n < 1152921504606846976) (a b pv : Nat) (ha : a ≤ pv) (hp : pv < b) (hb : b ≤ n) (s : St W L R a0 sp D n d w) : WP (Zae a0 a b pv f) w (fun r w' => r.1 = ((partition lt d a b pv).1 : Int) ∧ St W L R a0 sp D n (partition lt d a b pv).2.2 w') := by
 unfold Zae
 rw [partition_fst, partition_arr]
 refine s.draw (fun w s => s.swap a pv rfl rfl (by omega) (by omega) (fun w s => ?_))
 generalize swp d a pv = d0 at s ⊢
 have eb : IntKind.wrap .i64 ((b : Int) - 1) = ((b - 1 : Nat) : Int) := wr (by omega) (by omega)
 refine ZiX (fun x => lt x d0[a]!) (a + 1) (b - 1) (by omega) (wr (by omega) (by omega)) s (Kc := fun i => Zae.K5 a0 a b f i) (fun k w N h1 h2 s hN hK => ?_) (fun w i1 i2 s => ?_)
 ·show WP (Zae.L5 a0 a b f (k : Int)) w _
  unfold Zae.L5
  rw [eb]
  refine s.test (fun r => decide (r < 0)) _ cm k a (fun _ => rfl) (fun _ => rfl) (fun h => by omega) (fun _ => by omega) (fun r hr => hr) (fun hc hv w s => WP.next ?_) (fun hv w s => WP.step (hK w (fun h => hv (by omega)) s) (fun b w h => WP.done h))
  rw [wr (i := k + 1) (by omega) (by omega)]
  exact hN w (by omega) hv s
 have hun := partLoop_eq lt a (a + 1) (b - 1) d0
 have i0 : a + 1 ≤ scanUp (fun x => lt x d0[a]!) d0 (b - 1) (a + 1) := scanUp_ge _ _ _ _
 generalize scanUp (fun x => lt x d0[a]!) d0 (b - 1) (a + 1) = i at i0 i1 i2 hun ⊢
 show WP (Zae.K5 a0 a b f (i : Int)) w _
 unfold Zae.K5
 rw [eb]
 refine Zg9 (fun x => !lt x d0[a]!) i (b - 1) (by omega) (by omega) rfl s (Kc := fun j => Zae.K4 a0 a f i j) (fun k w N h1 h2 s hN hK => ?_) (fun w j1 j2 j3 s => ?_)
 ·show WP (Zae.L4 a0 a f (i : Int) (k : Int)) w _
  unfold Zae.L4
  refine s.test (fun r => !(decide (r < 0))) _ cm k a (fun _ => rfl) (fun _ => rfl) (fun h => by omega) (fun _ => by omega) (fun r hr => by rw [hr]) (fun hc hv w s => WP.next ?_) (fun hv w s => WP.step (hK w (fun h => hv (by omega)) s) (fun b w h => WP.done h))
  rw [wr (i := k - 1) (by omega) (by omega)]
  exact hN w (by omega) (by omega) hv s
 generalize scanDown (fun x => !lt x d0[a]!) d0 i (b - 1) = j at j1 j2 j3 hun ⊢
 show WP (Zae.K4 a0 a f (i : Int) (j : Int)) w _
 unfold Zae.K4
 refine WP.ite (fun h => ?_) (fun h => ?_)
 ·rw [if_pos (by omega)] at hun
  rw [hun]
  exact s.draw (fun w s => s.swap j a rfl rfl (by omega) (by omega) (fun w s => WP.ret ⟨rfl, s⟩))
 rw [if_neg (by omega)] at hun
 have hne : i < j := by
  rcases Nat.lt_or_ge i j with h' | h'
  ·exact h'
  ·obtain rfl : i = j := by omega
   have q1 := i2 (by omega)
   have q2 := j3 (by omega)
   simp only [Bool.not_eq_false'] at q1 q2
   rw [q1] at q2
   cases q2
 refine s.draw (fun w s => s.swap i j rfl rfl (by omega) (by omega) (fun w s => ?_))
 rw [hun]
 clear hun i1 i2 j3
 refine WP.loopG (γ := (Nat × Nat) × Array T) (fun g x w => x = ((g.1.1 : Int), (g.1.2 : Int)) ∧ a + 1 ≤ g.1.1 ∧ g.1.1 ≤ g.1.2 + 1 ∧ g.1.2 < b ∧ St W L R a0 sp D n g.2 w ∧ partLoop lt a g.1.1 g.1.2 g.2 = partLoop lt a (i + 1) (j - 1) (swp d0 i j)) (fun g _ => g.1.2 + 1 - g.1.1) ((i + 1, j - 1), swp d0 i j) ⟨by rw [wr (i := i + 1) (by omega) (by omega), wr (i := j - 1) (by omega) (by omega)], by simp only; omega, by simp only; omega, by simp only; omega, s, rfl⟩ ?_
 clear s
 generalize partLoop lt a (i + 1) (j - 1) (swp d0 i j) = F
 clear h hne i0 j1 j2 i j
 rintro ⟨⟨i, j⟩, d1⟩ _ w ⟨rfl, h1, h2, h3, s, he⟩
 simp only at h1 h2 h3 s he
 show WP (Zae.L1 a0 a f (i : Int) (j : Int)) w _
 unfold Zae.L1
 have hun := partLoop_eq lt a i j d1
 refine ZiX (fun x => lt x d1[a]!) i j (by omega) rfl s (Kc := fun i => Zae.K3 a0 a f (j : Int) i) (fun k w N h1 h2 s hN hK => ?_) (fun w i1 i2 s => ?_)
 ·show WP (Zae.L3 a0 a f (j : Int) (k : Int)) w _
  unfold Zae.L3
  refine s.test (fun r => decide (r < 0)) _ cm k a (fun _ => rfl) (fun _ => rfl) (fun h => by omega) (fun _ => by omega) (fun r hr => hr) (fun hc hv w s => WP.next ?_) (fun hv w s => WP.step (hK w (fun h => hv (by omega)) s) (fun b w h => WP.done h))
  rw [wr (i := k + 1) (by omega) (by omega)]
  exact hN w (by omega) hv s
 have i0 : i ≤ scanUp (fun x => lt x d1[a]!) d1 j i := scanUp_ge _ _ _ _
 generalize scanUp (fun x => lt x d1[a]!) d1 j i = i' at i0 i1 i2 hun ⊢
 show WP (Zae.K3 a0 a f (j : Int) (i' : Int)) w _
 unfold Zae.K3
 refine Zg9 (fun x => !lt x d1[a]!) i' j (by omega) (by omega) rfl s (Kc := fun j => Zae.K2 a0 a i' j) (fun k w N h1 h2 s hN hK => ?_) (fun w j1 j2 j3 s => ?_)
 ·show WP (Zae.L2 a0 a f (i' : Int) (k : Int)) w _
  unfold Zae.L2
  refine s.test (fun r => !(decide (r < 0))) _ cm k a (fun _ => rfl) (fun _ => rfl) (fun h => by omega) (fun _ => by omega) (fun r hr => by rw [hr]) (fun hc hv w s => WP.next ?_) (fun hv w s => WP.step (hK w (fun h => hv (by omega)) s) (fun b w h => WP.done h))
  rw [wr (i := k - 1) (by omega) (by omega)]
  exact hN w (by omega) (by omega) hv s
 generalize scanDown (fun x => !lt x d1[a]!) d1 i' j = j' at j1 j2 j3 hun ⊢
 show WP (Zae.K2 a0 a (i' : Int) (j' : Int)) w _
 unfold Zae.K2
 refine WP.ite (fun h => ?_) (fun h => ?_)
 ·rw [if_pos (by omega), he] at hun
  rw [hun]
  unfold Zae.K1
  refine WP.step (R := fun r w' => r.1 = (j' : Int) ∧ St W L R a0 sp D n (swp d1 j' a) w') (s.draw (fun w s => s.swap j' a rfl rfl (by omega) (by omega) (fun w s => WP.ret ⟨rfl, s⟩))) (fun r w h => WP.done h)
 rw [if_neg (by omega)] at hun
 have hne : i' < j' := by
  rcases Nat.lt_or_ge i' j' with h' | h'
  ·exact h'
  ·obtain rfl : i' = j' := by omega
   have q1 := i2 (by omega)
   have q2 := j3 (by omega)
   simp only [Bool.not_eq_false'] at q1 q2
   rw [q1] at q2
   cases q2
 refine s.draw (fun w s => s.swap i' j' rfl rfl (by omega) (by omega) (fun w s => WP.next ?_))
 exact ⟨((i' + 1, j' - 1), swp d1 i' j'), ⟨by rw [wr (i := i' + 1) (by omega) (by omega), wr (i := j' - 1) (by omega) (by omega)], by simp only; omega, by simp only; omega, by simp only; omega, s, by rw [← hun]; exact he⟩, by simp only; omega⟩
end
end Go.Proofs.YtfgcobigollfjaaDoor.Lx.Srt
set_option linter.unusedVariables false
set_option linter.unusedSimpArgs false
namespace Go.Proofs.YtfgcobigollfjaaDoor.Lx.Srt
open Go Go.Proofs Go.RowKit Go.Sort Lx
section
variable {W w : World} {L R : List HP} {a0 : Sl} {sp : List T} {D : T → Prop} {n : Nat} {d : Array T} {β : Type} {Q : β → World → Prop} {f : T → T → M Int} {lt : T → T → Bool}
theorem ZkU (cm : SCmp W R D f lt) (hn : n < 1152921504606846976) (a b pv : Nat) (ha : a ≤ pv) (hp : pv < b) (hb : b ≤ n) (s : St W L R a0 sp D n d w) : WP (Zaf a0 a b pv f) w (fun r w' => r = ((partitionEqual lt d a b pv).1 : Int) ∧ St W L R a0 sp D n (partitionEqual lt d a b pv).2 w') := by
 unfold Zaf partitionEqual
 refine s.draw (fun w s => s.swap a pv rfl rfl (by omega) (by omega) (fun w s => ?_))
 generalize swp d a pv = d0 at s ⊢
 refine WP.loopG (γ := (Nat × Nat) × Array T) (fun g x w => x = ((g.1.1 : Int), (g.1.2 : Int)) ∧ a + 1 ≤ g.1.1 ∧ g.1.1 ≤ g.1.2 + 1 ∧ g.1.2 < b ∧ St W L R a0 sp D n g.2 w ∧ partEqLoop lt a g.1.1 g.1.2 g.2 = partEqLoop lt a (a + 1) (b - 1) d0) (fun g _ => g.1.2 + 1 - g.1.1) ((a + 1, b - 1), d0) ⟨by rw [wr (i := a + 1) (by omega) (by omega), wr (i := b - 1) (by omega) (by omega)], by simp only; omega, by simp only; omega, by simp only; omega, s, rfl⟩ ?_
 clear s
 generalize partEqLoop lt a (a + 1) (b - 1) d0 = F
 rintro ⟨⟨i, j⟩, d1⟩ _ w ⟨rfl, h1, h2, h3, s, he⟩
 simp only at h1 h2 h3 s he
 show WP (Zaf.L1 a0 a f (i : Int) (j : Int)) w _
 unfold Zaf.L1
 have hun := partEqLoop_eq lt a i j d1
 refine ZiX (fun x => !lt d1[a]! x) i j (by omega) rfl s (Kc := fun i => Zaf.K2 a0 a f (j : Int) i) (fun k w N h1 h2 s hN hK => ?_) (fun w i1 i2 s => ?_)
 ·show WP (Zaf.L3 a0 a f (j : Int) (k : Int)) w _
  unfold Zaf.L3
  refine s.test (fun r => !(decide (r < 0))) _ cm a k (fun _ => rfl) (fun _ => rfl) (fun h => by omega) (fun _ => by omega) (fun r hr => by rw [hr]) (fun hc hv w s => WP.next ?_) (fun hv w s => WP.step (hK w (fun h => hv (by omega)) s) (fun b w h => WP.done h))
  rw [wr (i := k + 1) (by omega) (by omega)]
  exact hN w (by omega) hv s
 have i0 : i ≤ scanUp (fun x => !lt d1[a]! x) d1 j i := scanUp_ge _ _ _ _
 generalize scanUp (fun x => !lt d1[a]! x) d1 j i = i' at i0 i1 i2 hun ⊢
 show WP (Zaf.K2 a0 a f (j : Int) (i' : Int)) w _
 unfold Zaf.K2
 refine Zg9 (fun x => lt d1[a]! x) i' j (by omega) (by omega) rfl s (Kc := fun j => Zaf.K1 a0 i' j) (fun k w N h1 h2 s hN hK => ?_) (fun w j1 j2 j3 s => ?_)
 ·show WP (Zaf.L2 a0 a f (i' : Int) (k : Int)) w _
  unfold Zaf.L2
  refine s.test (fun r => decide (r < 0)) _ cm a k (fun _ => rfl) (fun _ => rfl) (fun h => by omega) (fun _ => by omega) (fun r hr => hr) (fun hc hv w s => WP.next ?_) (fun hv w s => WP.step (hK w (fun h => hv (by omega)) s) (fun b w h => WP.done h))
  rw [wr (i := k - 1) (by omega) (by omega)]
  exact hN w (by omega) (by omega) hv s
 generalize scanDown (fun x => lt d1[a]! x) d1 i' j = j' at j1 j2 j3 hun ⊢
 show WP (Zaf.K1 a0 (i' : Int) (j' : Int)) w _
 unfold Zaf.K1
 refine WP.ite (fun h => ?_) (fun h => ?_)
 ·rw [if_pos (by omega), he] at hun
  rw [hun]
  exact WP.done ⟨rfl, s⟩
 rw [if_neg (by omega)] at hun
 have hne : i' < j' := by
  rcases Nat.lt_or_ge i' j' with h' | h'
  ·exact h'
  ·obtain rfl : i' = j' := by omega
   have q1 := i2 (by omega)
   have q2 := j3 (by omega)
   simp only [Bool.not_eq_false'] at q1 q2
   rw [q1] at q2
   cases q2
 refine s.draw (fun w s => s.swap i' j' rfl rfl (by omega) (by omega) (fun w s => WP.next ?_))
 exact ⟨((i' + 1, j' - 1), swp d1 i' j'), ⟨by rw [wr (i := i' + 1) (by omega) (by omega), wr (i := j' - 1) (by omega) (by omega)], by simp only; omega, by simp only; omega, by simp only; omega, s, by rw [← hun]; exact he⟩, by simp only; omega⟩
theorem Zgd (a b : Nat) : ∀ (m i j : Nat) (d : Array T), j - i ≤ m → a ≤ i → j < b → b ≤ d.size → PermIn a b d (reverseLoop i j d)
 | 0, i, j, d, hm, h1, h2, h3 => by
  rw [reverseLoop, if_neg (by omega)]
  exact permIn_refl _ _ _
 | m + 1, i, j, d, hm, h1, h2, h3 => by
  rw [reverseLoop]
  split
  ·exact permIn_trans _ _ _ _ _ (swp_permIn d a b i j h1 (by omega) (by omega) h2 h3) (Zgd a b m (i + 1) (j - 1) _ (by omega) (by omega) (by omega) (by rw [swp_size]; exact h3))
  ·exact permIn_refl _ _ _
theorem Zns (hn : n < 1152921504606846976) (a b : Nat) (hab : a < b) (hb : b ≤ n) (s : St W L R a0 sp D n d w) : WP (Zat a0 a b f) w (fun _ w' => ∃ d', PermIn a b d d' ∧ St W L R a0 sp D n d' w') := by
 unfold Zat
 refine (show WP _ w (fun (_ : Unit) w' => St W L R a0 sp D n (reverseLoop a (b - 1) d) w') from ?_).mono (fun _ w s' => ⟨_, Zgd a b _ a (b - 1) d (Nat.le_refl _) (Nat.le_refl _) (by omega) (by rw [s.sz]; exact hb), s'⟩)
 refine WP.loopG (γ := (Nat × Nat) × Array T) (fun g x w => x = ((g.1.1 : Int), (g.1.2 : Int)) ∧ g.1.1 ≤ g.1.2 + 1 ∧ g.1.2 < b ∧ St W L R a0 sp D n g.2 w ∧ reverseLoop g.1.1 g.1.2 g.2 = reverseLoop a (b - 1) d) (fun g _ => g.1.2 + 1 - g.1.1) ((a, b - 1), d) ⟨by rw [wr (i := b - 1) (by omega) (by omega)], by simp only; omega, by simp only; omega, s, rfl⟩ ?_
 clear s
 rintro ⟨⟨i, j⟩, d1⟩ _ w ⟨rfl, h2, h3, s, he⟩
 simp only at h2 h3 s he
 show WP (Zat.L1 a0 (i : Int) (j : Int)) w _
 unfold Zat.L1
 rw [reverseLoop] at he
 refine WP.ite (fun h => ?_) (fun h => WP.done ?_)
 ·rw [if_pos (by omega)] at he
  refine s.draw (fun w s => s.swap i j rfl rfl (by omega) (by omega) (fun w s => WP.next ?_))
  exact ⟨((i + 1, j - 1), swp d1 i j), ⟨by rw [wr (i := i + 1) (by omega) (by omega), wr (i := j - 1) (by omega) (by omega)], by simp only; omega, by simp only; omega, s, he⟩, by simp only; omega⟩
 ·rw [if_neg (by omega)] at he
  exact he ▸ s
abbrev cnt (b : Nat) (c : Int) : HP := pts true (pt b 0) ((cI .i64).enc c)
theorem ZgO {q : Nat} {c : Int} (cm : SCmp W R D f lt) (i j : Nat) (hi : i < n) (hj : j < n) (s : St W [cnt q c] R a0 sp D n d w) : WP (Za7 a0 i j (some (pt q 0)) f) w (fun r w' => (r = ((i : Int), (j : Int)) ∨ r = ((j : Int), (i : Int))) ∧ ∃ c', St W [cnt q c'] R a0 sp D n d w') := by
 unfold Za7
 refine s.draw (fun w s => s.cmp cm j i rfl rfl hj hi (fun r w _ s => WP.ite (fun h => ?_) (fun h => WP.ret ⟨.inl rfl, c, s⟩)))
 refine WP.nilck (WP.ld s.ss 0 rfl (o := 0) (by simp [Addr.add]) (At.whole _) (WP.nilck ?_))
 refine WP.st s.ss 0 rfl (o := 0) (by simp [Addr.add]) (Upd.whole (by rw [Cod.len, Cod.len])) (fun w s' => WP.ret ⟨.inr rfl, _, s.sz, s.al, s'⟩)
theorem ZgU {q : Nat} {c : Int} (cm : SCmp W R D f lt) (i j k : Nat) (hi : i < n) (hj : j < n) (hk : k < n) (s : St W [cnt q c] R a0 sp D n d w) : WP (Za8 a0 i j k (some (pt q 0)) f) w (fun r w' => (r = (i : Int) ∨ r = (j : Int) ∨ r = (k : Int)) ∧ ∃ c', St W [cnt q c'] R a0 sp D n d w') := by
 unfold Za8
 refine WP.step (ZgO cm i j hi hj s) ?_
 rintro r w ⟨h1, c, s⟩
 obtain ⟨x, y, rfl, hx, hy, hxn, hyn⟩ : ∃ x y : Nat, r = ((x : Int), (y : Int)) ∧ (x = i ∨ x = j) ∧ (y = i ∨ y = j) ∧ x < n ∧ y < n := by
  rcases h1 with rfl | rfl
  ·exact ⟨i, j, rfl, .inl rfl, .inr rfl, hi, hj⟩
  ·exact ⟨j, i, rfl, .inr rfl, .inl rfl, hj, hi⟩
 refine WP.step (ZgO cm y k hyn hk s) ?_
 rintro r w ⟨h1, c, s⟩
 obtain ⟨z, z', rfl, hz, hzn⟩ : ∃ z z' : Nat, r = ((z : Int), (z' : Int)) ∧ (z = y ∨ z = k) ∧ z < n := by
  rcases h1 with rfl | rfl
  ·exact ⟨y, k, rfl, .inl rfl, hyn⟩
  ·exact ⟨k, y, rfl, .inr rfl, hk⟩
 refine WP.step (ZgO cm x z hxn hzn s) ?_
 rintro r w ⟨h1, c, s⟩
 refine WP.ret ⟨?_, c, s⟩
 rcases h1 with rfl | rfl <;> simp only <;> omega
theorem ZlE {q : Nat} {c : Int} (cm : SCmp W R D f lt) (hn : n < 1152921504606846976) (i : Nat) (h0 : 1 ≤ i) (hi : i + 1 < n) (s : St W [cnt q c] R a0 sp D n d w) : WP (ZaW a0 i (some (pt q 0)) f) w (fun r w' => (r = ((i - 1 : Nat) : Int) ∨ r = (i : Int) ∨ r = ((i + 1 : Nat) : Int)) ∧ ∃ c', St W [cnt q c'] R a0 sp D n d w') := by
 unfold ZaW
 rw [wr (x := (i : Int) - 1) (i := i - 1) (by omega) (by omega), wr (x := (i : Int) + 1) (i := i + 1) (by omega) (by omega)]
 exact WP.step (ZgU cm (i - 1) i (i + 1) (by omega) (by omega) (by omega) s) (fun r w h => WP.ret h)
theorem ZlW (cm : SCmp W R D f lt) (hn : n < 1152921504606846976) (a b : Nat) (hab : a < b) (hb : b ≤ n) (s : St W [] R a0 sp D n d w) : WP (Za9 a0 a b f) w (fun r w' => (∃ p : Nat, r.1 = (p : Int) ∧ a ≤ p ∧ p < b) ∧ St W [] R a0 sp D n d w') := by
 unfold Za9
 have e0 : IntKind.wrap .i64 ((b : Int) - (a : Int)) = ((b - a : Nat) : Int) := wr (by omega) (by omega)
 have e1 : IntKind.wrap .i64 (Int.tdiv ((b - a : Nat) : Int) 4) = (((b - a) / 4 : Nat) : Int) := by
  refine wr ?_ (by omega)
  rw [Int.tdiv_eq_ediv_of_nonneg (by omega)]
  rfl
 rw [e0, e1]
 have em : ∀ m : Nat, m ≤ 3 → IntKind.wrap .i64 ((a : Int) + IntKind.wrap .i64 ((((b - a) / 4 : Nat) : Int) * (m : Int))) = ((a + (b - a) / 4 * m : Nat) : Int) := by
  intro m hm
  have hq : (b - a) / 4 * m ≤ (b - a) / 4 * 3 := Nat.mul_le_mul_left _ hm
  rw [wr (x := (((b - a) / 4 : Nat) : Int) * (m : Int)) (i := (b - a) / 4 * m) (by rw [Int.natCast_mul]) (by omega)]
  exact wr (by omega) (by omega)
 have em1 : IntKind.wrap .i64 ((a : Int) + IntKind.wrap .i64 ((((b - a) / 4 : Nat) : Int) * 1)) = ((a + (b - a) / 4 * 1 : Nat) : Int) := em 1 (by omega)
 have em2 : IntKind.wrap .i64 ((a : Int) + IntKind.wrap .i64 ((((b - a) / 4 : Nat) : Int) * 2)) = ((a + (b - a) / 4 * 2 : Nat) : Int) := em 2 (by omega)
 have em3 : IntKind.wrap .i64 ((a : Int) + IntKind.wrap .i64 ((((b - a) / 4 : Nat) : Int) * 3)) = ((a + (b - a) / 4 * 3 : Nat) : Int) := em 3 (by omega)
 rw [em1, em2, em3]
 have hq1 : 4 * ((b - a) / 4) ≤ b - a := by omega
 have hq2 : b - a < 4 * ((b - a) / 4) + 4 := by omega
 clear em em1 em2 em3 e1 e0
 generalize (b - a) / 4 = m at hq1 hq2 ⊢
 refine WP.newv s.ss (fun q w s1 => ?_)
 have s : St W [cnt q 0] R a0 sp D n d w := ⟨s.sz, s.al, s1⟩
 have fin : ∀ {w : World} {c : Int} {p : Nat} {x y z : Int × Int}, a ≤ p → p < b → x.1 = (p : Int) → y.1 = (p : Int) → z.1 = (p : Int) → St W [cnt q c] R a0 sp D n d w →
   WP (Lx.ld (cI .i64) (pt q 0) >>= fun v => if v = 0 then pure x else if v = 12 then pure y else pure z) w (fun r w' => (∃ p : Nat, r.1 = (p : Int) ∧ a ≤ p ∧ p < b) ∧ St W [] R a0 sp D n d w') := by
  intro w c p x y z h1 h2 hx hy hz s
  refine WP.ld s.ss 0 rfl (o := 0) (by simp [Addr.add]) (At.whole _) ?_
  have s' : St W [] R a0 sp D n d w := ⟨s.sz, s.al, s.ss.drop⟩
  exact WP.ite (fun _ => WP.ret ⟨⟨p, hx, h1, h2⟩, s'⟩) (fun _ => WP.ite (fun _ => WP.ret ⟨⟨p, hy, h1, h2⟩, s'⟩) (fun _ => WP.ret ⟨⟨p, hz, h1, h2⟩, s'⟩))
 refine WP.ite (fun h8 => ?_) (fun h8 => fin (p := a + m * 2) (by omega) (by omega) rfl rfl rfl s)
 have h8 : 8 ≤ b - a := by omega
 refine WP.ite (fun h50 => ?_) (fun h50 => ?_)
 ·have h50 : 50 ≤ b - a := by omega
  refine WP.step (ZlE cm hn _ (by omega) (by omega) s) ?_
  rintro r1 w ⟨g1, c, s⟩
  refine WP.step (ZlE cm hn _ (by omega) (by omega) s) ?_
  rintro r2 w ⟨g2, c, s⟩
  refine WP.step (ZlE cm hn _ (by omega) (by omega) s) ?_
  rintro r3 w ⟨g3, c, s⟩
  obtain ⟨x1, rfl, y1, z1⟩ : ∃ x : Nat, r1 = (x : Int) ∧ a ≤ x ∧ x < b := by rcases g1 with h | h | h <;> exact ⟨_, h, by omega, by omega⟩
  obtain ⟨x2, rfl, y2, z2⟩ : ∃ x : Nat, r2 = (x : Int) ∧ a ≤ x ∧ x < b := by rcases g2 with h | h | h <;> exact ⟨_, h, by omega, by omega⟩
  obtain ⟨x3, rfl, y3, z3⟩ : ∃ x : Nat, r3 = (x : Int) ∧ a ≤ x ∧ x < b := by rcases g3 with h | h | h <;> exact ⟨_, h, by omega, by omega⟩
  refine WP.step (ZgU cm x1 x2 x3 (by omega) (by omega) (by omega) s) ?_
  rintro r w ⟨g, c, s⟩
  obtain ⟨p, rfl, h1, h2⟩ : ∃ p : Nat, r = (p : Int) ∧ a ≤ p ∧ p < b := by rcases g with h | h | h <;> exact ⟨_, h, by omega, by omega⟩
  exact fin h1 h2 rfl rfl rfl s
 ·refine WP.step (ZgU cm _ _ _ (by omega) (by omega) (by omega) s) ?_
  rintro r w ⟨g, c, s⟩
  obtain ⟨p, rfl, h1, h2⟩ : ∃ p : Nat, r = (p : Int) ∧ a ≤ p ∧ p < b := by rcases g with h | h | h <;> exact ⟨_, h, by omega, by omega⟩
  exact fin h1 h2 rfl rfl rfl s
end
end Go.Proofs.YtfgcobigollfjaaDoor.Lx.Srt
set_option linter.unusedVariables false
set_option linter.unusedSimpArgs false
namespace Go.Proofs.YtfgcobigollfjaaDoor.Lx.Srt
open Go Go.Proofs Go.RowKit Go.Sort Lx
theorem len8 : ∀ k : Nat, k < 256 → 0 ≤ sb str0 (k : Int) ∧ (sb str0 (k : Int)).toNat ≤ 8 ∧ (0 < k → 2 ^ (sb str0 (k : Int)).toNat ≤ 2 * k) := by decide +kernel
theorem Zic : str0.size = 256 := by decide +kernel
theorem Zjq {x : Int} (h : 0 ≤ x) (h' : x < 256) : IntKind.wrap .u8 x = x := by
 simp [IntKind.wrap, IntKind.bits, IntKind.signed]
 omega
theorem ZeH {x : Int} (h : 0 ≤ x) (h' : x < 18446744073709551616) : IntKind.wrap .u64 x = x := by
 simp [IntKind.wrap, IntKind.bits, IntKind.signed]
 omega
theorem ZmC {w : World} (x : Nat) (hx : x < 65536) : WP (Zeb (x : Int)) w (fun r w' => w = w' ∧ ∃ k : Nat, r = (k : Int) ∧ k ≤ 16 ∧ (0 < x → 2 ^ k ≤ 2 * x)) := by
 unfold Zeb Zbi
 refine WP.step (WP.ite (fun h => absurd h (by omega)) (fun _ => ?_)) (fun r w h => WP.ret h)
 unfold Zbi.K2
 refine WP.ite (fun h => absurd h (by omega)) (fun _ => ?_)
 unfold Zbi.K1
 refine WP.ite (fun h => ?_) (fun h => ?_)
 ·have e : Int.fdiv (x : Int) (2 ^ 8) = ((x / 256 : Nat) : Int) := by
   rw [Int.fdiv_eq_ediv_of_nonneg _ (by decide)]
   rfl
  obtain ⟨h1, h2, h3⟩ := len8 (x / 256) (by omega)
  rw [e, Zjq (by omega) (by omega)]
  refine WP.chk ⟨by omega, by rw [Zic]; omega⟩ (WP.ret ⟨rfl, ?_⟩)
  generalize sb str0 ((x / 256 : Nat) : Int) = v at h1 h2 h3
  rw [ZaP (n := v) (by omega) (by omega), ZaP (n := 0 + 8) (by decide) (by decide), ZaP (by omega) (by omega)]
  refine ⟨v.toNat + 8, by omega, by omega, fun _ => ?_⟩
  have := h3 (by omega)
  rw [Nat.pow_add]
  omega
 ·obtain ⟨h1, h2, h3⟩ := len8 x (by omega)
  rw [Zjq (by omega) (by omega)]
  refine WP.chk ⟨by omega, by rw [Zic]; omega⟩ (WP.ret ⟨rfl, ?_⟩)
  generalize sb str0 (x : Int) = v at h1 h2 h3
  rw [ZaP (n := v) (by omega) (by omega), ZaP (by omega) (by omega)]
  exact ⟨v.toNat, by omega, by omega, h3⟩
theorem Znv {w : World} (x : Nat) (h0 : 0 < x) (hx : x < 65536) : WP (ZbE (x : Int)) w (fun r w' => w = w' ∧ ∃ k : Nat, r = (k : Int) ∧ 1 ≤ k ∧ k ≤ 2 * x) := by
 unfold ZbE
 rw [ZeH (by omega) (by omega)]
 refine WP.step (ZmC x hx) ?_
 rintro _ w ⟨rfl, k, rfl, h1, h2⟩
 refine WP.chk (by omega) (WP.ret ⟨rfl, 2 ^ k, ?_, Nat.pow_pos (by decide), h2 h0⟩)
 have h3 : 2 ^ k ≤ 2 ^ 16 := Nat.pow_le_pow_right (by decide) h1
 rw [Int.toNat_natCast, Nat.min_eq_left (by omega), Int.one_mul]
 have : ((2 : Int) ^ k) = ((2 ^ k : Nat) : Int) := by rw [Int.natCast_pow]; rfl
 rw [this]
 generalize 2 ^ k = v at h3
 rw [ZeH (by omega) (by omega)]
theorem Zjn (x : Int) {m : Int} (h0 : 0 ≤ m) (h1 : m < 18446744073709551616) : 0 ≤ band .u64 x m ∧ band .u64 x m ≤ m := by
 have h2 : (BitVec.ofInt 64 x &&& BitVec.ofInt 64 m).toNat ≤ m.toNat := by
  rw [BitVec.toNat_and]
  refine Nat.le_trans Nat.and_le_right ?_
  rw [BitVec.toNat_ofInt]
  omega
 have h3 : band .u64 x m = ((BitVec.ofInt 64 x &&& BitVec.ofInt 64 m).toNat : Int) := ZeH (by show (0 : Int) ≤ ((BitVec.ofInt 64 x &&& BitVec.ofInt 64 m).toNat : Int); omega) (by show ((BitVec.ofInt 64 x &&& BitVec.ofInt 64 m).toNat : Int) < 18446744073709551616; omega)
 rw [h3]
 omega
section
variable {W w : World} {L R : List HP} {a0 : Sl} {sp : List T} {D : T → Prop} {n : Nat} {d : Array T} {β : Type} {Q : β → World → Prop} {f : T → T → M Int} {lt : T → T → Bool}
abbrev ZiJ (b : Nat) (c : Int) : HP := pts true (pt b 0) ((cI .u64).enc c)
theorem Znj {q : Nat} {c : Int} (s : St W [ZiJ q c] R a0 sp D n d w) : WP (ZbN (some (pt q 0))) w (fun _ w' => ∃ c', St W [ZiJ q c'] R a0 sp D n d w') := by
 unfold ZbN
 have hz : ∀ a : Addr, a = a.add 0 := fun a => by simp [Addr.add]
 refine s.draw (fun w s => WP.nilck (WP.ld s.ss 0 rfl (o := 0) (hz _) (At.whole _) (WP.nilck (WP.ld s.ss 0 rfl (o := 0) (hz _) (At.whole _) (WP.nilck (WP.st s.ss 0 rfl (o := 0) (hz _) (Upd.whole (by rw [Cod.len, Cod.len])) (fun w' s' => ?_)))))))
 have s : St W [ZiJ q _] R a0 sp D n d w' := ⟨s.sz, s.al, s'⟩
 clear s'
 refine s.draw (fun w s => WP.nilck (WP.ld s.ss 0 rfl (o := 0) (hz _) (At.whole _) (WP.nilck (WP.ld s.ss 0 rfl (o := 0) (hz _) (At.whole _) (WP.nilck (WP.st s.ss 0 rfl (o := 0) (hz _) (Upd.whole (by rw [Cod.len, Cod.len])) (fun w' s' => ?_)))))))
 have s : St W [ZiJ q _] R a0 sp D n d w' := ⟨s.sz, s.al, s'⟩
 clear s'
 refine s.draw (fun w s => WP.nilck (WP.ld s.ss 0 rfl (o := 0) (hz _) (At.whole _) (WP.nilck (WP.ld s.ss 0 rfl (o := 0) (hz _) (At.whole _) (WP.nilck (WP.st s.ss 0 rfl (o := 0) (hz _) (Upd.whole (by rw [Cod.len, Cod.len])) (fun w' s' => ?_)))))))
 have s : St W [ZiJ q _] R a0 sp D n d w' := ⟨s.sz, s.al, s'⟩
 exact WP.nilck (WP.ld s.ss 0 rfl (o := 0) (hz _) (At.whole _) (WP.ret ⟨_, s⟩))
theorem Zmd (hn : n < 65536) (a b : Nat) (hab : a ≤ b) (hb : b ≤ n) (s : St W [] R a0 sp D n d w) : WP (Zal a0 a b f) w (fun _ w' => ∃ d', PermIn a b d d' ∧ St W [] R a0 sp D n d' w') := by
 unfold Zal
 have e0 : IntKind.wrap .i64 ((b : Int) - (a : Int)) = ((b - a : Nat) : Int) := wr (by omega) (by omega)
 have e1 : IntKind.wrap .i64 (Int.tdiv ((b - a : Nat) : Int) 4) = (((b - a) / 4 : Nat) : Int) := by
  refine wr ?_ (by omega)
  rw [Int.tdiv_eq_ediv_of_nonneg (by omega)]
  rfl
 have e2 : IntKind.wrap .i64 ((((b - a) / 4 : Nat) : Int) * 2) = (((b - a) / 4 * 2 : Nat) : Int) := wr (by rw [Int.natCast_mul]; rfl) (by omega)
 have e3 : IntKind.wrap .i64 ((a : Int) + (((b - a) / 4 * 2 : Nat) : Int)) = ((a + (b - a) / 4 * 2 : Nat) : Int) := wr (by omega) (by omega)
 refine WP.ite (fun h8 => ?_) (fun _ => WP.ret ⟨d, permIn_refl _ _ _, s⟩)
 rw [e0] at h8 ⊢
 rw [e1, e2, e3]
 refine WP.newv s.ss (fun q w s1 => WP.st s1 0 rfl (o := 0) (by simp [Addr.add]) (Upd.whole (by rw [Cod.len, Cod.len])) (fun w s1 => ?_))
 have s : St W [ZiJ q _] R a0 sp D n d w := ⟨s.sz, s.al, s1⟩
 clear s1
 refine WP.step (Znv (b - a) (by omega) (by omega)) ?_
 rintro _ w ⟨rfl, md, rfl, m1, m2⟩
 have hq1 : 4 * ((b - a) / 4) ≤ b - a := by omega
 have hq2 : b - a < 4 * ((b - a) / 4) + 4 := by omega
 have e4 : IntKind.wrap .i64 (((a + (b - a) / 4 * 2 : Nat) : Int) - 1) = ((a + (b - a) / 4 * 2 - 1 : Nat) : Int) := wr (by omega) (by omega)
 rw [e4]
 refine WP.loopG (γ := Nat × Array T × Int) (fun g x w => x = (g.1 : Int) ∧ a + (b - a) / 4 * 2 - 1 ≤ g.1 ∧ g.1 ≤ a + (b - a) / 4 * 2 + 2 ∧ PermIn a b d g.2.1 ∧ St W [ZiJ q g.2.2] R a0 sp D n g.2.1 w) (fun g _ => a + (b - a) / 4 * 2 + 2 - g.1) (a + (b - a) / 4 * 2 - 1, d, _) ⟨rfl, Nat.le_refl _, by simp only; omega, permIn_refl _ _ _, s⟩ ?_
 clear s e4
 rintro ⟨i, d1, c⟩ _ w ⟨rfl, h1, h2, hp, s⟩
 simp only at h1 h2 hp s
 show WP (Zal.L1 a0 a b q (md : Int) (i : Int)) w _
 unfold Zal.L1
 rw [e0, e1, e2, e3, wr (x := ((a + (b - a) / 4 * 2 : Nat) : Int) + 1) (i := a + (b - a) / 4 * 2 + 1) (by omega) (by omega)]
 clear e0 e1 e2 e3
 generalize (b - a) / 4 = m at *
 refine WP.ite (fun h => ?_) (fun h => WP.done ⟨d1, hp, s.sz, s.al, s.ss.drop⟩)
 refine WP.step (Znj s) ?_
 rintro r w ⟨c, s⟩
 rw [ZeH (x := (md : Int) - 1) (by omega) (by omega)]
 obtain ⟨b1, b2⟩ := Zjn r (m := (md : Int) - 1) (by omega) (by omega)
 generalize band .u64 r ((md : Int) - 1) = x at b1 b2
 obtain ⟨x, rfl⟩ : ∃ x' : Nat, x = x' := ⟨x.toNat, by omega⟩
 rw [wr (x := (x : Int)) (i := x) rfl (by omega)]
 have key : ∀ y : Nat, y < b - a → WP (Zal.K1 a0 a (i : Int) (y : Int)) w (WP.Rd (fun x' w' => ∃ g' : Nat × Array T × Int, (x' = (g'.1 : Int) ∧ a + m * 2 - 1 ≤ g'.1 ∧ g'.1 ≤ a + m * 2 + 2 ∧ PermIn a b d g'.2.1 ∧ St W [ZiJ q g'.2.2] R a0 sp D n g'.2.1 w') ∧ a + m * 2 + 2 - g'.1 < a + m * 2 + 2 - i) (fun _ w' => ∃ d', PermIn a b d d' ∧ St W [] R a0 sp D n d' w')) := by
  intro y hy
  unfold Zal.K1
  rw [wr (x := (a : Int) + (y : Int)) (i := a + y) (by omega) (by omega)]
  refine s.draw (fun w s => s.swap i (a + y) rfl rfl (by omega) (by omega) (fun w s' => WP.next ?_))
  refine ⟨(i + 1, swp d1 i (a + y), c), ⟨wr (by simp) (by omega), by simp only; omega, by simp only; omega, ?_, s'⟩, by simp only; omega⟩
  exact permIn_trans _ _ _ _ _ hp (swp_permIn _ a b i (a + y) (by omega) (by omega) (by omega) (by omega) (by rw [s.sz]; exact hb))
 refine WP.ite (fun hx => ?_) (fun hx => key x (by omega))
 rw [wr (x := (x : Int) - ((b - a : Nat) : Int)) (i := x - (b - a)) (by omega) (by omega)]
 exact key _ (by omega)
theorem Zj6 (cm : SCmp W R D f lt) (hn : n < 1152921504606846976) (a b : Nat) (hab : a < b) (hb : b ≤ n) (s : St W L R a0 sp D n d w) : WP (Zad a0 a b f) w (fun r w' => r = (partialInsertionSort lt d a b).2 ∧ St W L R a0 sp D n (partialInsertionSort lt d a b).1 w') := by
 unfold Zad partialInsertionSort
 refine WP.loopG (γ := (Nat × Nat) × Array T) (fun g x w => x = ((g.1.1 : Int), (5 : Int) - (g.1.2 : Int)) ∧ a + 1 ≤ g.1.1 ∧ g.1.1 ≤ b ∧ g.1.2 ≤ 5 ∧ St W L R a0 sp D n g.2 w ∧ partialIns lt a b g.1.2 g.1.1 g.2 = partialIns lt a b 5 (a + 1) d) (fun g _ => g.1.2) ((a + 1, 5), d) ⟨by rw [wr (i := a + 1) (by omega) (by omega)]; rfl, by simp only; omega, by simp only; omega, by simp only; omega, s, rfl⟩ ?_
 clear s
 generalize partialIns lt a b 5 (a + 1) d = F
 rintro ⟨⟨i, k⟩, d1⟩ _ w ⟨rfl, h1, h2, h3, s, he⟩
 simp only at h1 h2 h3 s he
 show WP (Zad.L1 a0 a b f (i : Int) ((5 : Int) - (k : Int))) w _
 unfold Zad.L1
 refine WP.ite (fun hk => ?_) (fun hk => WP.done ?_)
 ·obtain ⟨k, rfl⟩ : ∃ k', k = k' + 1 := ⟨k - 1, by omega⟩
  rw [partialIns_succ] at he
  generalize hJ : (5 : Int) - ((k + 1 : Nat) : Int) = J at hk
  have eJ : IntKind.wrap .i64 (J + 1) = (5 : Int) - (k : Int) := by
   rw [ZaP (by omega) (by omega)]
   omega
  refine WP.loopG (γ := Nat) (fun g x w => x = (g : Int) ∧ a + 1 ≤ g ∧ g ≤ b ∧ St W L R a0 sp D n d1 w ∧ scanSorted lt d1 b g = scanSorted lt d1 b i) (fun g _ => b - g) i ⟨rfl, h1, h2, s, rfl⟩ ?_
  clear s
  rintro g _ w ⟨rfl, g1, g2, s, hg⟩
  show WP (Zad.L4 a0 a b f J (g : Int)) w _
  unfold Zad.L4
  have eg : IntKind.wrap .i64 ((g : Int) - 1) = ((g - 1 : Nat) : Int) := wr (by omega) (by omega)
  rw [eg]
  refine s.test (fun r => !(decide (r < 0))) (!lt d1[g]! d1[g - 1]!) cm g (g - 1) (fun _ => rfl) (fun _ => rfl) (fun h => by omega) (fun _ => by omega) (fun r hr => by rw [hr]) (fun hc hv w s => WP.next ?_) (fun hv w s => ?_)
  ·refine ⟨g + 1, ⟨wr (by simp) (by omega), by omega, by omega, s, ?_⟩, by omega⟩
   rw [← hg]
   conv => rhs; rw [scanSorted]
   rw [if_pos]
   have : g < b := by omega
   simp [this]
   simpa using hv
  ·have hst : scanSorted lt d1 b g = g := by
    rw [scanSorted, if_neg]
    intro hx
    simp only [Bool.and_eq_true, decide_eq_true_eq] at hx
    rw [hv (by omega)] at hx
    cases hx.2
   rw [hst] at hg
   rw [← hg] at he
   refine WP.step (R := WP.Rd _ _) ?_ (fun b w h => WP.done h)
   unfold Zad.K4
   refine WP.ite (fun hgb => WP.done ?_) (fun hgb => ?_)
   ·rw [if_pos (by omega)] at he
    subst he
    exact ⟨rfl, s⟩
   rw [if_neg (by omega)] at he
   rw [wr (x := (b : Int) - (a : Int)) (i := b - a) (by omega) (by omega)]
   refine WP.ite (fun h50 => WP.done ?_) (fun h50 => ?_)
   ·rw [if_pos (by omega)] at he
    subst he
    exact ⟨rfl, s⟩
   rw [if_neg (by omega)] at he
   rw [eg]
   -- the end of a round
   have k1 : ∀ w d3, St W L R a0 sp D n d3 w → partialIns lt a b k g d3 = F → WP (Zad.K1 J (g : Int)) w (WP.Rd (fun x' w' => ∃ g' : (Nat × Nat) × Array T, (x' = ((g'.1.1 : Int), (5 : Int) - (g'.1.2 : Int)) ∧ a + 1 ≤ g'.1.1 ∧ g'.1.1 ≤ b ∧ g'.1.2 ≤ 5 ∧ St W L R a0 sp D n g'.2 w' ∧ partialIns lt a b g'.1.2 g'.1.1 g'.2 = F) ∧ g'.1.2 < k + 1) (fun r w' => r = F.2 ∧ St W L R a0 sp D n F.1 w')) := by
    intro w d3 s hF
    unfold Zad.K1
    exact WP.next ⟨((g, k), d3), ⟨by rw [eJ], g1, g2, by simp only; omega, s, hF⟩, by simp only; omega⟩
   have k2 : ∀ w d2, St W L R a0 sp D n d2 w → partialIns lt a b k g (fixUp lt b g d2) = F → WP (Zad.K2 a0 b f J (g : Int)) w (WP.Rd (fun x' w' => ∃ g' : (Nat × Nat) × Array T, (x' = ((g'.1.1 : Int), (5 : Int) - (g'.1.2 : Int)) ∧ a + 1 ≤ g'.1.1 ∧ g'.1.1 ≤ b ∧ g'.1.2 ≤ 5 ∧ St W L R a0 sp D n g'.2 w' ∧ partialIns lt a b g'.1.2 g'.1.1 g'.2 = F) ∧ g'.1.2 < k + 1) (fun r w' => r = F.2 ∧ St W L R a0 sp D n F.1 w')) := by
    intro w d2 s hF
    unfold Zad.K2
    unfold fixUp at hF
    rw [wr (x := (b : Int) - (g : Int)) (i := b - g) (by omega) (by omega)]
    refine WP.ite (fun h => ?_) (fun h => ?_)
    ·rw [if_pos (by omega)] at hF
     rw [wr (x := (g : Int) + 1) (i := g + 1) (by omega) (by omega)]
     refine WP.loopG (γ := Nat × Array T) (fun q x w => x = (q.1 : Int) ∧ g + 1 ≤ q.1 ∧ q.1 ≤ b ∧ St W L R a0 sp D n q.2 w ∧ shiftUp lt b q.1 q.2 = shiftUp lt b (g + 1) d2) (fun q _ => b - q.1) (g + 1, d2) ⟨rfl, Nat.le_refl _, by simp only; omega, s, rfl⟩ ?_
     clear s
     rintro ⟨j, d3⟩ _ w ⟨rfl, j1, j2, s, hj⟩
     simp only at j1 j2 s hj
     show WP (Zad.L2 a0 b f J (g : Int) (j : Int)) w _
     unfold Zad.L2
     rw [shiftUp] at hj
     refine WP.ite (fun hjb => ?_) (fun hjb => ?_)
     ·rw [if_pos (by omega)] at hj
      rw [wr (x := (j : Int) - 1) (i := j - 1) (by omega) (by omega)]
      refine s.draw (fun w s => s.cmp cm j (j - 1) rfl rfl (by omega) (by omega) (fun r w hr s => WP.ite (fun hl => ?_) (fun hl => ?_)))
      ·rw [if_pos (by rw [← hr]; simpa using hl)] at hj
       exact WP.step (k1 w d3 s (by rw [hj]; exact hF)) (fun b w h => WP.done h)
      ·rw [if_neg (by rw [← hr]; simpa using hl)] at hj
       refine s.draw (fun w s => s.swap j (j - 1) rfl rfl (by omega) (by omega) (fun w s => WP.next ?_))
       exact ⟨(j + 1, swp d3 j (j - 1)), ⟨wr (by simp) (by omega), by simp only; omega, by simp only; omega, s, hj⟩, by simp only; omega⟩
     ·rw [if_neg (by omega)] at hj
      exact WP.step (k1 w d3 s (by rw [hj]; exact hF)) (fun b w h => WP.done h)
    ·rw [if_neg (by omega)] at hF
     exact k1 w d2 s hF
   refine s.draw (fun w s => s.swap g (g - 1) rfl rfl (by omega) (by omega) (fun w s => ?_))
   rw [wr (x := (g : Int) - (a : Int)) (i := g - a) (by omega) (by omega)]
   unfold fixDown at he
   refine WP.ite (fun h => ?_) (fun h => ?_)
   ·rw [if_pos (by omega)] at he
    refine WP.loopG (γ := Nat × Array T) (fun q x w => x = (q.1 : Int) ∧ q.1 ≤ g - 1 ∧ St W L R a0 sp D n q.2 w ∧ shiftDown lt q.1 q.2 = shiftDown lt (g - 1) (swp d1 g (g - 1))) (fun q _ => q.1) (g - 1, swp d1 g (g - 1)) ⟨rfl, Nat.le_refl _, s, rfl⟩ ?_
    clear s
    rintro ⟨j, d3⟩ _ w ⟨rfl, j1, s, hj⟩
    simp only at j1 s hj
    show WP (Zad.L3 a0 b f J (g : Int) (j : Int)) w _
    unfold Zad.L3 Zad.K3
    refine WP.ite (fun hjb => ?_) (fun hjb => ?_)
    ·obtain ⟨j, rfl⟩ : ∃ j', j = j' + 1 := ⟨j - 1, by omega⟩
     rw [shiftDown] at hj
     rw [wr (x := ((j + 1 : Nat) : Int) - 1) (i := j) (by omega) (by omega)]
     refine s.draw (fun w s => s.cmp cm (j + 1) j rfl rfl (by omega) (by omega) (fun r w hr s => WP.ite (fun hl => ?_) (fun hl => ?_)))
     ·rw [if_pos (by rw [← hr]; simpa using hl)] at hj
      exact WP.step (k2 w d3 s (by rw [hj]; exact he)) (fun b w h => WP.done h)
     ·rw [if_neg (by rw [← hr]; simpa using hl)] at hj
      refine s.draw (fun w s => s.swap (j + 1) j rfl rfl (by omega) (by omega) (fun w s => WP.next ?_))
      exact ⟨(j, swp d3 (j + 1) j), ⟨rfl, by simp only; omega, s, hj⟩, by simp only; omega⟩
    ·obtain rfl : j = 0 := by omega
     exact WP.step (k2 w d3 s (by rw [show d3 = _ from hj]; exact he)) (fun b w h => WP.done h)
   ·rw [if_neg (by omega)] at he
    exact k2 w _ s he
 ·obtain rfl : k = 0 := by omega
  have : (d1, false) = F := he
  subst this
  exact ⟨rfl, s⟩
end
end Go.Proofs.YtfgcobigollfjaaDoor.Lx.Srt
set_option linter.unusedVariables false
set_option linter.unusedSimpArgs false
namespace Go.Proofs.YtfgcobigollfjaaDoor.Lx.Srt
open Go Go.Proofs Go.RowKit Go.Sort Lx
section
variable {W w : World} {L R : List HP} {a0 : Sl} {sp : List T} {D : T → Prop} {n : Nat} {d : Array T} {β : Type} {Q : β → World → Prop} {f : T → T → M Int} {lt : T → T → Bool}
def Does (lt : T → T → Bool) (a b : Nat) (d : Array T) (a' b' : Nat) (d' : Array T) : Prop := ∀ S, PermIn a' b' d' S → SortedIn lt a' b' S → PermIn a b d S ∧ SortedIn lt a b S
theorem Does.perm {a b a' b' : Nat} {d d' d'' : Array T} (h : Does lt a b d a' b' d') (p : PermIn a' b' d' d'') : Does lt a b d a' b' d'' := fun S hp hs => h S (permIn_trans _ _ _ _ _ p hp) hs
theorem Zmy (cm : SCmp W R D f lt) (swo : SWO lt) (hn : n < 65536) : ∀ (m a b : Nat) (lim : Int) (d : Array T) (w : World), b - a < m → a ≤ b → b ≤ n → Below lt a b d → St W [] R a0 sp D n d w →
  WP (Zag.go f m a0 a b lim) w (fun _ w' => ∃ d', PermIn a b d d' ∧ SortedIn lt a b d' ∧ St W [] R a0 sp D n d' w')
 | 0, a, b, lim, d, w, hm, _, _, _, _ => absurd hm (by omega)
 | m + 1, a, b, lim, d, w, hm, hab, hb, hB, s => by
  have ih := Zmy cm swo hn m
  unfold Zag.go Zag.body
  generalize Zag.go f m = rc at ih
  refine WP.loopG (γ := (Nat × Nat) × Array T) (fun g x w => x.1 = (g.1.1 : Int) ∧ x.2.1 = (g.1.2 : Int) ∧ g.1.1 ≤ g.1.2 ∧ g.1.2 ≤ n ∧ g.1.2 - g.1.1 ≤ b - a ∧ Below lt g.1.1 g.1.2 g.2 ∧ Does lt a b d g.1.1 g.1.2 g.2 ∧ St W [] R a0 sp D n g.2 w) (fun g _ => g.1.2 - g.1.1) ((a, b), d) ⟨rfl, rfl, hab, hb, Nat.le_refl _, hB, fun S h1 h2 => ⟨h1, h2⟩, s⟩ ?_
  clear s hB
  rintro ⟨⟨x, y⟩, d1⟩ ⟨x', y', lim, wb, wp⟩ w ⟨h1, h2, h3, h4, h5, hB, hD, s⟩
  simp only at h1 h2 h3 h4 h5 hB hD s
  subst h1 h2
  show WP (Zag.L1 a0 f rc (x : Int) (y : Int) lim wb wp) w _
  unfold Zag.L1
  have e0 : IntKind.wrap .i64 ((y : Int) - (x : Int)) = ((y - x : Nat) : Int) := wr (by omega) (by omega)
  rw [e0]
  refine WP.ite (fun h12 => ?_) (fun h12 => ?_)
  ·obtain ⟨p1, p2⟩ := insertionSort_holds swo d1 x y h3 (by rw [s.sz]; exact h4)
   obtain ⟨q1, q2⟩ := hD _ p1 p2
   exact WP.step (ZnG cm (by omega) x y h3 h4 s) (fun _ w s => WP.done ⟨_, q1, q2, s⟩)
  have hxy : x < y := by omega
  refine WP.ite (fun h0 => ?_) (fun h0 => ?_)
  ·obtain ⟨p1, p2⟩ := heapSort_holds swo d1 x y h3 (by rw [s.sz]; exact h4)
   obtain ⟨q1, q2⟩ := hD _ p1 p2
   exact WP.step (Zm5 cm (by omega) x y h3 h4 (by omega) s) (fun _ w s => WP.done ⟨_, q1, q2, s⟩)
  -- behind the patterns, the pivot, the reversal and the insertions
  have k1 : ∀ (lim : Int) (pv : Nat) (d2 : Array T) (w : World), x ≤ pv → pv < y → Below lt x y d2 → Does lt a b d x y d2 → St W [] R a0 sp D n d2 w →
    WP (Zag.K1 a0 f rc (x : Int) (y : Int) wb wp lim (pv : Int)) w (WP.Rd (fun x' w' => ∃ g' : (Nat × Nat) × Array T, (x'.1 = (g'.1.1 : Int) ∧ x'.2.1 = (g'.1.2 : Int) ∧ g'.1.1 ≤ g'.1.2 ∧ g'.1.2 ≤ n ∧ g'.1.2 - g'.1.1 ≤ b - a ∧ Below lt g'.1.1 g'.1.2 g'.2 ∧ Does lt a b d g'.1.1 g'.1.2 g'.2 ∧ St W [] R a0 sp D n g'.2 w') ∧ g'.1.2 - g'.1.1 < y - x) (fun (_ : Unit) w' => ∃ d', PermIn a b d d' ∧ SortedIn lt a b d' ∧ St W [] R a0 sp D n d' w')) := by
   clear s hB hD
   intro lim pv d2 w hp1 hp2 hB hD s
   unfold Zag.K1
   refine s.test (fun r => !(decide (r < 0))) (!lt d2[x - 1]! d2[pv]!) cm (x - 1) pv (fun h => wr (by omega) (by omega)) (fun _ => rfl) (fun h => by omega) (fun _ => by omega) (fun r hr => by rw [hr]) (fun hc hv w s => ?_) (fun hv w s => ?_)
   ·obtain ⟨g1, g2, g3, g4, g5⟩ := round_eq swo (partitionEqual_holds lt) (by omega) hp1 hp2 (by rw [s.sz]; exact h4) hB (by simpa using hv) (pivot := pv) (mid := (partitionEqual lt d2 x y pv).1) (d4 := (partitionEqual lt d2 x y pv).2) rfl
    refine WP.step (ZkU cm (by omega) x y pv hp1 hp2 h4 s) ?_
    rintro r w ⟨rfl, s⟩
    generalize (partitionEqual lt d2 x y pv).2 = d4 at g3 g4 g5 s
    generalize (partitionEqual lt d2 x y pv).1 = mid at g1 g2 g4 g5 s ⊢
    exact WP.next ⟨((mid, y), d4), ⟨rfl, rfl, g2, h4, by simp only; omega, g4, fun S q1 q2 => hD S (g5 S q1 q2).1 (g5 S q1 q2).2, s⟩, by simp only; omega⟩
   ·obtain ⟨g1, g2, g3, g4, g5, g6, g7⟩ := round_part swo (partition_holds lt) hp1 hp2 (by rw [s.sz]; exact h4) hB (mid := (partition lt d2 x y pv).1) (ap := (partition lt d2 x y pv).2.1) (d4 := (partition lt d2 x y pv).2.2) rfl
    refine WP.step (ZmR cm (by omega) x y pv hp1 hp2 h4 s) ?_
    rintro ⟨r, al⟩ w ⟨hr, s⟩
    simp only at hr
    subst hr
    generalize (partition lt d2 x y pv).2.2 = d4 at g3 g4 g5 g6 g7 s
    generalize (partition lt d2 x y pv).1 = mid at g1 g2 g4 g5 g6 g7 s ⊢
    simp only
    rw [wr (x := (mid : Int) - (x : Int)) (i := mid - x) (by omega) (by omega), wr (x := (y : Int) - (mid : Int)) (i := y - mid) (by omega) (by omega), wr (x := (mid : Int) + 1) (i := mid + 1) (by omega) (by omega)]
    refine WP.ite (fun hh => ?_) (fun hh => ?_)
    ·refine WP.step (ih x mid lim d4 w (by omega) g1 (by omega) g4 s) ?_
     rintro _ w ⟨S, p1, p2, s⟩
     obtain ⟨q1, q2⟩ := g6 S p1 p2
     exact WP.next ⟨((mid + 1, y), S), ⟨rfl, rfl, by simp only; omega, h4, by simp only; omega, q1, fun S' r1 r2 => hD S' (q2 S' r1 r2).1 (q2 S' r1 r2).2, s⟩, by simp only; omega⟩
    ·refine WP.step (ih (mid + 1) y lim d4 w (by omega) (by omega) h4 g5 s) ?_
     rintro _ w ⟨S, p1, p2, s⟩
     obtain ⟨q1, q2⟩ := g7 S p1 p2
     exact WP.next ⟨((x, mid), S), ⟨rfl, rfl, g1, by simp only; omega, by simp only; omega, q1, fun S' r1 r2 => hD S' (q2 S' r1 r2).1 (q2 S' r1 r2).2, s⟩, by simp only; omega⟩
  have k2 : ∀ (lim : Int) (pv : Nat) (hint : Int) (d2 : Array T) (w : World), x ≤ pv → pv < y → Below lt x y d2 → Does lt a b d x y d2 → St W [] R a0 sp D n d2 w →
    WP (Zag.K2 a0 f rc (x : Int) (y : Int) wb wp lim (pv : Int) hint) w (WP.Rd (fun x' w' => ∃ g' : (Nat × Nat) × Array T, (x'.1 = (g'.1.1 : Int) ∧ x'.2.1 = (g'.1.2 : Int) ∧ g'.1.1 ≤ g'.1.2 ∧ g'.1.2 ≤ n ∧ g'.1.2 - g'.1.1 ≤ b - a ∧ Below lt g'.1.1 g'.1.2 g'.2 ∧ Does lt a b d g'.1.1 g'.1.2 g'.2 ∧ St W [] R a0 sp D n g'.2 w') ∧ g'.1.2 - g'.1.1 < y - x) (fun (_ : Unit) w' => ∃ d', PermIn a b d d' ∧ SortedIn lt a b d' ∧ St W [] R a0 sp D n d' w')) := by
   clear s hB hD
   intro lim pv hint d2 w hp1 hp2 hB hD s
   unfold Zag.K2
   refine WP.step (R := fun _ w' => w = w') (WP.ite (fun _ => WP.ret rfl) (fun _ => WP.ret rfl)) ?_
   rintro u _ rfl
   refine WP.step (R := fun _ w' => w = w') (WP.ite (fun _ => WP.ret rfl) (fun _ => WP.ret rfl)) ?_
   rintro u' _ rfl
   refine WP.ite (fun _ => ?_) (fun _ => k1 lim pv d2 w hp1 hp2 hB hD s)
   obtain ⟨p1, p2⟩ := partialInsertionSort_holds swo d2 x y hxy (by rw [s.sz]; exact h4) hB
   refine WP.step (Zj6 cm (by omega) x y hxy h4 s) ?_
   rintro r w ⟨rfl, s⟩
   refine WP.ite (fun hr => WP.done ?_) (fun hr => ?_)
   ·obtain ⟨q1, q2⟩ := hD _ p1 (p2 hr)
    exact ⟨_, q1, q2, s⟩
   ·exact k1 lim pv _ w hp1 hp2 (hB.perm (by rw [show d2.size = n by rw [← p1.1, s.sz]]; exact h4) p1) (hD.perm p1) s
  have k3 : ∀ (lim : Int) (d2 : Array T) (w : World), Below lt x y d2 → Does lt a b d x y d2 → St W [] R a0 sp D n d2 w →
    WP (Zag.K3 a0 f rc (x : Int) (y : Int) wb wp lim) w (WP.Rd (fun x' w' => ∃ g' : (Nat × Nat) × Array T, (x'.1 = (g'.1.1 : Int) ∧ x'.2.1 = (g'.1.2 : Int) ∧ g'.1.1 ≤ g'.1.2 ∧ g'.1.2 ≤ n ∧ g'.1.2 - g'.1.1 ≤ b - a ∧ Below lt g'.1.1 g'.1.2 g'.2 ∧ Does lt a b d g'.1.1 g'.1.2 g'.2 ∧ St W [] R a0 sp D n g'.2 w') ∧ g'.1.2 - g'.1.1 < y - x) (fun (_ : Unit) w' => ∃ d', PermIn a b d d' ∧ SortedIn lt a b d' ∧ St W [] R a0 sp D n d' w')) := by
   clear s hB hD
   intro lim d2 w hB hD s
   unfold Zag.K3
   refine WP.step (ZlW cm (by omega) x y hxy h4 s) ?_
   rintro ⟨r, hint⟩ w ⟨⟨pv, hr, hp1, hp2⟩, s⟩
   simp only at hr
   subst hr
   simp only
   refine WP.ite (fun hx => ?_) (fun hx => k2 lim pv _ d2 w hp1 hp2 hB hD s)
   refine WP.step (Zns (by omega) x y hxy h4 s) ?_
   rintro _ w ⟨d3, p, s⟩
   have e1 : IntKind.wrap .i64 (IntKind.wrap .i64 ((y : Int) - 1) - IntKind.wrap .i64 ((pv : Int) - (x : Int))) = (((y - 1) - (pv - x) : Nat) : Int) := by
    rw [wr (x := (y : Int) - 1) (i := y - 1) (by omega) (by omega), wr (x := (pv : Int) - (x : Int)) (i := pv - x) (by omega) (by omega)]
    exact wr (by omega) (by omega)
   rw [e1]
   exact k2 lim _ _ d3 w (by omega) (by omega) (hB.perm (by rw [show d2.size = n by rw [← p.1, s.sz]]; exact h4) p) (hD.perm p) s
  refine WP.ite (fun _ => ?_) (fun _ => k3 lim d1 w hB hD s)
  refine WP.step (Zmd hn x y h3 h4 s) ?_
  rintro _ w ⟨d2, p, s⟩
  exact k3 _ d2 w (hB.perm (by rw [show d1.size = n by rw [← p.1, s.sz]]; exact h4) p) (hD.perm p) s
theorem sort_wp (cm : SCmp W R D f lt) (swo : SWO lt) {l : List T} (hn : l.length < 65536) (hD : ∀ x ∈ l, D x) (s : Ss W (vec C a0 l sp :: R) w) :
  WP (Zba a0 f) w (fun _ w' => ∃ l', l'.Perm l ∧ l'.Pairwise (fun x y => lt y x = false) ∧ Ss W (vec C a0 l' sp :: R) w') := by
 unfold Zba Zag
 have hl := (s.vec_len (i := 0) rfl).1
 have s0 : St W [] R a0 sp D l.length l.toArray w := ⟨by simp, fun i hi => by
  rw [getElem!_pos _ _ (by simpa using hi)]
  exact hD _ (by simp), s⟩
 rw [hl, ZeH (by omega) (by omega)]
 refine WP.step (ZmC l.length hn) ?_
 rintro _ w ⟨rfl, k, rfl, -, -⟩
 refine WP.step (Zmy cm swo hn _ 0 l.length _ l.toArray w (by omega) (Nat.zero_le _) (Nat.le_refl _) (.inl rfl) s0) ?_
 rintro _ w ⟨d', p, hs, s⟩
 refine WP.ret ⟨d'.toList, ?_, ?_, s.ss⟩
 ·have h1 := p.2.2
  have h2 : d'.extract 0 l.length = d' := by
   rw [← s.sz]
   simp
  have h3 : l.toArray.extract 0 l.length = l.toArray := by
   have : l.length = l.toArray.size := by simp
   rw [this]
   simp
  rw [h2, h3] at h1
  exact h1
 ·rw [List.pairwise_iff_getElem]
  intro i j hi hj hij
  have hsz : d'.size = l.length := s.sz
  have hj' : j < l.length := by rw [← hsz, ← Array.length_toList]; exact hj
  have := hs i j (Nat.zero_le _) hij hj'
  rw [getElem!_pos d' j (by omega), getElem!_pos d' i (by omega)] at this
  simpa using this
end
end Go.Proofs.YtfgcobigollfjaaDoor.Lx.Srt
