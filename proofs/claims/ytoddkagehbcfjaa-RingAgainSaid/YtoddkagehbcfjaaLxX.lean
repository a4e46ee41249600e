/- The machine 'Lx', places: rows of places, slices that are cut, and rules for the elements of a slice of one's own. -/
import Derived.Test.YtoddkagehbcfjaaLxV
set_option linter.unusedVariables false
set_option linter.unusedSimpArgs false
namespace Go.Proofs.Ytoddkagehbcfjaa.Lx
open Go Go.RowKit

theorem set_eq {α : Type} {l : List α} {i : Nat} {x : α} (h : l[i]? = some x) : l.set i x = l := by
  apply List.ext_getElem?
  intro j
  by_cases e : j = i
  · subst e
    rw [List.getElem?_set_self (List.getElem?_eq_some_iff.1 h).1, h]
  · rw [List.getElem?_set_ne (fun h => e h.symm)]
theorem get_of {α β : Type} {l : List α} {m : List β} {i : Nat} {y : β} (h : l.length = m.length) (hy : m[i]? = some y) : ∃ x, l[i]? = some x := ⟨l[i]'(by rw [h]; exact (List.getElem?_eq_some_iff.1 hy).1), List.getElem?_eq_getElem _⟩
theorem at_r {α : Type} {c : Cod α} {l : List α} {i : Nat} {x : α} (h : l[i]? = some x) : At (l.flatMap c.enc) (i * c.n) (c.enc x) := by
  have := flatMap_at c l i x (List.getElem?_eq_some_iff.1 h).1
  rwa [show l.getD i x = x by rw [List.getD, h]; rfl] at this
theorem upd_r {α : Type} {c : Cod α} {l : List α} {i : Nat} (x : α) (h : i < l.length) : Upd (l.flatMap c.enc) (i * c.n) (c.enc x) ((l.set i x).flatMap c.enc) := by
  refine ⟨(l.take i).flatMap c.enc, c.enc l[i], (l.drop (i + 1)).flatMap c.enc, ?_, ?_, by rw [c.len, c.len], ?_⟩
  · rw [← List.flatMap_singleton (f := c.enc) (x := l[i]), ← List.flatMap_append, ← List.flatMap_append]
    congr 1
    simp
  · rw [flat_len, List.length_take, Nat.min_eq_left (Nat.le_of_lt h)]
  · rw [← List.flatMap_singleton (f := c.enc) (x := x), ← List.flatMap_append, ← List.flatMap_append]
    congr 1
    rw [List.set_eq_take_append_cons_drop, if_pos h]
    simp
/-! ### rows of places -/
/-- places of pairs, one by one -/
def zipH {α β : Type} (P : α → β → HP) : List α → List β → List HP
  | a :: as, b :: bs => P a b :: zipH P as bs
  | _, _ => []
section
variable {α β : Type} {P : α → β → HP}
theorem zipH_nth : ∀ {as : List α} {bs : List β} {i : Nat} {a : α} {b : β}, as[i]? = some a → bs[i]? = some b → nth (zipH P as bs) i = some (P a b)
  | [], _, _, _, _, h, _ => by simp at h
  | _ :: _, [], _, _, _, _, h => by simp at h
  | a :: as, b :: bs, 0, _, _, h, h' => by
    simp only [List.getElem?_cons_zero, Option.some.injEq] at h h'
    subst h h'
    rfl
  | a :: as, b :: bs, i + 1, _, _, h, h' => by
    simp only [List.getElem?_cons_succ] at h h'
    exact zipH_nth (as := as) (bs := bs) h h'
theorem zipH_up : ∀ {as : List α} {bs : List β} {i : Nat} {a : α} {b : β}, i < as.length → i < bs.length → up (zipH P as bs) i (P a b) = zipH P (as.set i a) (bs.set i b)
  | [], _, _, _, _, h, _ => by simp at h
  | _ :: _, [], _, _, _, _, h => by simp at h
  | a :: as, b :: bs, 0, _, _, _, _ => rfl
  | a :: as, b :: bs, i + 1, _, _, h, h' => by
    show P a b :: up (zipH P as bs) i _ = P a b :: _
    rw [zipH_up (by simpa using h) (by simpa using h')]
theorem zipH_snoc {a : α} {b : β} : ∀ {as : List α} {bs : List β}, as.length = bs.length → zipH P (as ++ [a]) (bs ++ [b]) = zipH P as bs ++ [P a b]
  | [], [], _ => rfl
  | [], _ :: _, h => by simp at h
  | _ :: _, [], h => by simp at h
  | x :: as, y :: bs, h => by
    show P x y :: zipH P (as ++ [a]) (bs ++ [b]) = P x y :: (zipH P as bs ++ [P a b])
    rw [zipH_snoc (by simpa using h)]
end
section
variable {W w : World} {Hs L M : List HP} {A : HP}
theorem Ss.out (s : Ss W Hs w) (i : Nat) (e : nth Hs i = some (seps L)) {j : Nat} (e2 : nth L j = some A) : Ss W (A :: up Hs i (seps (wo L j))) w := by
  have s1 := (s.perm (nth_perm e)).split.perm ((nth_perm e2).append_right _)
  have s2 : Ss W (wo L j ++ (A :: wo Hs i)) w := s1.perm (by
    show (A :: (wo L j ++ wo Hs i)).Perm _
    exact List.perm_middle.symm)
  exact s2.group.perm ((List.Perm.swap _ _ _).trans ((up_perm e).symm.cons A))
theorem Ss.into (s : Ss W (A :: Hs) w) (i : Nat) (e : nth Hs i = some (seps L)) (p : (A :: L).Perm M) : Ss W (up Hs i (seps M)) w := by
  have s1 : Ss W (seps L :: A :: wo Hs i) w := s.perm (((nth_perm e).cons A).trans (List.Perm.swap _ _ _))
  have s2 : Ss W (M ++ wo Hs i) w := s1.split.perm (List.perm_middle.trans (p.append_right _))
  exact s2.group.perm (up_perm e).symm
/-- one of a row put back, changed -/
theorem Ss.back {B : HP} {L : List HP} {j : Nat} (s : Ss W (B :: Hs) w) (i : Nat) (e : nth Hs i = some (seps (wo L j))) (e2 : nth L j = some A) : Ss W (up Hs i (seps (up L j B))) w := s.into i e (up_perm e2).symm
end
/-- what needs no places -/
theorem Ss.mk0 {W w : World} {Hs : List HP} {A : HP} (s : Ss W Hs w) (ha : A PH.nil) : Ss W (A :: Hs) w := by
  obtain ⟨hb, k, hs, hw⟩ := s
  exact ⟨hb, k, ⟨PH.nil, k, fun _ _ _ _ hx => (by cases hx), fun _ _ _ hx => (by cases hx), fun _ _ _ hx => hx, ha, hs⟩, hw⟩
/-! ### a slice cut in front -/
theorem vec_tail {α : Type} {c : Cod α} {s : Sl} {x : α} {l sp : List α} {h : PH} (hv : vec c s (x :: l) sp h) : vec c ⟨if s.cap = 1 then s.a else s.a.map (·.add (1 * c.n)), s.len - 1, s.cap - 1⟩ l sp h := by
  obtain ⟨h1, h2, h3⟩ := hv
  rw [List.length_cons] at h1 h2
  refine ⟨by simp only; omega, by simp only; omega, ?_⟩
  cases ha : s.a with
  | none =>
    rw [ha] at h3
    exact absurd h3.1 (by simp)
  | some a =>
    rw [ha] at h3
    obtain ⟨sp', hp⟩ := h3
    by_cases hc : s.cap = 1
    · have hl : l = [] := by cases l with | nil => rfl | cons y l => rw [List.length_cons] at h2; omega
      have hs : sp = [] := by cases sp with | nil => rfl | cons y l => rw [List.length_cons] at h2; omega
      subst hl hs
      simp only [hc, if_true]
      exact ⟨sp', fun i v hv => by simp at hv⟩
    · simp only [if_neg hc, Option.map_some]
      rw [Nat.one_mul, addr_add sp']
      refine ⟨rfl, fun i y hy => ?_⟩
      have := hp (c.n + i) y (by rw [List.cons_append, List.flatMap_cons, List.getElem?_append_right (by rw [c.len]; omega), c.len, Nat.add_sub_cancel_left]; exact hy)
      rw [← Nat.add_assoc] at this
      exact this
theorem band_mask (x : Int) {m : Int} (h0 : 0 ≤ m) (h1 : m < 9223372036854775808) : 0 ≤ band .i64 x m ∧ band .i64 x m ≤ m := by
  have h2 : (BitVec.ofInt 64 x &&& BitVec.ofInt 64 m).toNat ≤ m.toNat := by
    rw [BitVec.toNat_and]
    refine Nat.le_trans Nat.and_le_right ?_
    rw [BitVec.toNat_ofInt]
    omega
  have h3 : band .i64 x m = ((BitVec.ofInt 64 x &&& BitVec.ofInt 64 m).toNat : Int) := wrap_i64 (by show (-9223372036854775808 : Int) ≤ ((BitVec.ofInt 64 x &&& BitVec.ofInt 64 m).toNat : Int); omega) (by show ((BitVec.ofInt 64 x &&& BitVec.ofInt 64 m).toNat : Int) ≤ 9223372036854775807; omega)
  rw [h3]
  omega
theorem mul_bound {a b A B : Int} (h0 : 0 ≤ a) (h1 : a ≤ A) (h2 : 0 ≤ b) (h3 : b ≤ B) : 0 ≤ a * b ∧ a * b ≤ A * B :=
  ⟨Int.mul_nonneg h0 h2, Int.mul_le_mul h1 h3 h2 (by omega)⟩
namespace WP
variable {α β : Type} {w : World}
theorem loopGN {γ σ : Type} {G : σ → M (LS σ β)} (I : γ → σ → World → Prop) (μ : γ → σ → Nat) {Q : β → World → Prop}
    (hs : ∀ g s w, I g s w → WP (G s) w (Rd (fun s' w' => ∃ g', I g' s' w' ∧ μ g' s' < μ g s) Q)) : ∀ (n : Nat) (g : γ) (s : σ) (w : World), I g s w → μ g s < n → WP (Lx.loopN G n s) w Q
  | 0, g, s, w, _, hn => absurd hn (by omega)
  | n + 1, g, s, w, hI, hn => by
    obtain ⟨q, w1, h1, h2⟩ := hs g s w hI
    cases q with
    | next s' =>
      obtain ⟨g', h5, h6⟩ := h2
      obtain ⟨r, w2, h3, h4⟩ := loopGN I μ hs n g' s' w1 h5 (by omega)
      exact ⟨r, w2, bind_some.2 ⟨_, _, h1, h3⟩, h4⟩
    | done b => exact ⟨b, w1, bind_some.2 ⟨_, _, h1, rfl⟩, h2⟩
/-- a loop, of whose state more is known than its variables tell -/
theorem loopG {γ σ : Type} {G : σ → M (LS σ β)} (I : γ → σ → World → Prop) (μ : γ → σ → Nat) {Q : β → World → Prop} {s : σ} (g : γ) (hI : I g s w)
    (hs : ∀ g s w, I g s w → WP (G s) w (Rd (fun s' w' => ∃ g', I g' s' w' ∧ μ g' s' < μ g s) Q)) : WP (loopM G s) w Q := by
  obtain ⟨r, w', h1, h2⟩ := loopGN I μ hs (μ g s + 1) g s w hI (by omega)
  exact ⟨r, w', loopM_of h1, h2⟩
theorem cuttail {W : World} {Hs : List HP} {c : Cod α} {sl : Sl} {x : α} {l sp : List α} {n : Nat} {f : Sl → M β} {Q : β → World → Prop} (s : Ss W Hs w) (i : Nat) (e : nth Hs i = some (vec c sl (x :: l) sp)) (hn : n = c.n)
    (k : ∀ r, Ss W (up Hs i (vec c r l sp)) w → WP (f r) w Q) : WP (Lx.cut n sl (some 1) none none >>= f) w Q := by
  subst hn
  obtain ⟨h1, h2, _⟩ := s.vec_len e
  rw [List.length_cons] at h1 h2
  refine bind ⟨_, w, ?_, k ⟨if sl.cap = 1 then sl.a else sl.a.map (·.add (1 * c.n)), sl.len - 1, sl.cap - 1⟩ (s.close e (fun h hv => vec_tail hv))⟩
  unfold Lx.cut
  simp only [Option.getD_none, Option.getD_some]
  rw [if_pos (by omega)]
  simp
/-- a place in a slice of one's own -/
theorem idxv {W : World} {Hs : List HP} {c : Cod α} {sl : Sl} {l sp : List α} {k : Int} {n : Nat} {f : Addr → M β} {Q : β → World → Prop} (s : Ss W Hs w) (i : Nat) (e : nth Hs i = some (vec c sl l sp)) (h0 : 0 ≤ k) (h1 : k < l.length) (hn : n = c.n) (g : ∀ a, sl.a = some a → WP (f (a.add (k.toNat * c.n))) w Q) : WP (Lx.idx sl.a sl.len k n >>= f) w Q := by
  subst hn
  obtain ⟨e1, e2, e3⟩ := s.vec_len e
  cases ha : sl.a with
  | none =>
    have := (e3 ha).1
    subst this
    simp only [List.length_nil] at h1
    omega
  | some a =>
    have g' := g a ha
    exact idx h0 (by omega) g'
/-- a part of an element written -/
theorem stvf {γ : Type} {W : World} {Hs : List HP} {c : Cod α} {d : Cod γ} {sl : Sl} {l sp : List α} {x x' : α} {y : γ} {k o : Nat} {a p : Addr} {f : Unit → M β} {Q : β → World → Prop} (s : Ss W Hs w) (i : Nat) (e : nth Hs i = some (vec c sl l sp)) (ha : sl.a = some a) (hx : l[k]? = some x) (hp : p = a.add (k * c.n + o)) (u : Upd (c.enc x) o (d.enc y) (c.enc x'))
    (g : ∀ w', Ss W (up Hs i (vec c sl (l.set k x') sp)) w' → WP (f ()) w' Q) : WP (Lx.st d p y >>= f) w Q := by
  have hk := (List.getElem?_eq_some_iff.1 hx).1
  obtain ⟨b, eb, s2⟩ := s.vec_open e (.inr (by rw [ha]; simp))
  rw [eb] at ha
  cases ha
  have hk' : k < (l ++ sp).length := by rw [List.length_append]; omega
  have u2 := Upd.trans (at_r (c := c) (l := l ++ sp) (i := k) (by rw [List.getElem?_append_left hk]; exact hx)) u (upd_r (c := c) (l := l ++ sp) (i := k) _ hk')
  refine st s2 i (up_nth e) hp u2 (fun w' s => g w' ?_)
  rw [up_up] at s
  rw [← up_up (l := Hs) (i := i) (A := pts true a (((l ++ sp).set k x').flatMap c.enc))]
  refine s.close (up_nth e) (fun h hh => ?_)
  rw [eb]
  refine ⟨by simp, by simp, ?_⟩
  rw [List.set_append_left _ _ hk] at hh
  exact hh
/-- an element written -/
theorem stv {W : World} {Hs : List HP} {c : Cod α} {sl : Sl} {l sp : List α} {x : α} {k : Nat} {a p : Addr} {f : Unit → M β} {Q : β → World → Prop} (s : Ss W Hs w) (i : Nat) (e : nth Hs i = some (vec c sl l sp)) (ha : sl.a = some a) (hk : k < l.length) (hp : p = a.add (k * c.n))
    (g : ∀ w', Ss W (up Hs i (vec c sl (l.set k x) sp)) w' → WP (f ()) w' Q) : WP (Lx.st c p x >>= f) w Q := by
  obtain ⟨b, eb, s2⟩ := s.vec_open e (.inr (by rw [ha]; simp))
  rw [eb] at ha
  cases ha
  have hk' : k < (l ++ sp).length := by rw [List.length_append]; omega
  refine st s2 i (up_nth e) hp (upd_r (c := c) (l := l ++ sp) (i := k) x hk') (fun w' s => g w' ?_)
  rw [up_up] at s
  rw [← up_up (l := Hs) (i := i) (A := pts true a (((l ++ sp).set k x).flatMap c.enc))]
  refine s.close (up_nth e) (fun h hh => ?_)
  rw [eb]
  refine ⟨by simp, by simp, ?_⟩
  rw [List.set_append_left _ _ hk] at hh
  exact hh
/-- an element's place, then it is written -/
theorem stx {W : World} {Hs : List HP} {c : Cod α} {sl : Sl} {l sp : List α} {x : α} {k : Int} {n : Nat} {f : Unit → M β} {Q : β → World → Prop} (s : Ss W Hs w) (i : Nat) (e : nth Hs i = some (vec c sl l sp)) (h0 : 0 ≤ k) (h1 : k < l.length) (hn : n = c.n)
    (g : ∀ w', Ss W (up Hs i (vec c sl (l.set k.toNat x) sp)) w' → WP (f ()) w' Q) : WP (Lx.idx sl.a sl.len k n >>= fun p => Lx.st c p x >>= f) w Q :=
  idxv s i e h0 h1 hn (fun a ha => stv s i e ha (by omega) rfl g)
/-- an element is as it was read -/
theorem samer {W : World} {Hs : List HP} {A : HP} {c : Cod α} {sl : Sl} {xs : List α} {x : α} {k : Nat} {a p : Addr} {f : Unit → M β} {Q : β → World → Prop} (s : Ss W Hs w) (i : Nat) (e : nth Hs i = some A) (r : Rdb A c sl xs) (hx : xs[k]? = some x) (ha : sl.a = some a) (hp : p = a.add (k * c.n)) (g : WP (f ()) w Q) : WP (Lx.same c p x >>= f) w Q := by
  subst hp
  refine bind ⟨(), w, ?_, g⟩
  unfold Lx.same
  rw [if_pos]
  unfold Lx.ld
  rw [s.rd_cells e r hx ha]
  simp [c.de]
/-- a part of an element, of a readable slice -/
theorem rdxp {γ : Type} {W : World} {Hs : List HP} {A : HP} {c : Cod α} {d : Cod γ} {sl : Sl} {xs : List α} {x : α} {y : γ} {k : Int} {n o : Nat} {f : γ → M β} {Q : β → World → Prop} (s : Ss W Hs w) (i : Nat) (e : nth Hs i = some A) (r : Rdb A c sl xs) (h0 : 0 ≤ k) (hx : xs[k.toNat]? = some x) (hn : n = c.n) (h : At (c.enc x) o (d.enc y)) (g : WP (f y) w Q) : WP (Lx.idx sl.a sl.len k n >>= fun p => Lx.ld d (Addr.add p o) >>= f) w Q :=
  idxr s i e r h0 hx hn (fun a ha => ldp s i e r hx ha (by rw [add_add]) h g)
theorem rdxp0 {γ : Type} {W : World} {Hs : List HP} {A : HP} {c : Cod α} {d : Cod γ} {sl : Sl} {xs : List α} {x : α} {y : γ} {k : Int} {n : Nat} {f : γ → M β} {Q : β → World → Prop} (s : Ss W Hs w) (i : Nat) (e : nth Hs i = some A) (r : Rdb A c sl xs) (h0 : 0 ≤ k) (hx : xs[k.toNat]? = some x) (hn : n = c.n) (h : At (c.enc x) 0 (d.enc y)) (g : WP (f y) w Q) : WP (Lx.idx sl.a sl.len k n >>= fun p => Lx.ld d p >>= f) w Q :=
  idxr s i e r h0 hx hn (fun a ha => ldp s i e r hx ha rfl h g)
/-- a place, then a part of that element is written -/
theorem stxp {γ : Type} {W : World} {Hs : List HP} {c : Cod α} {d : Cod γ} {sl : Sl} {l sp : List α} {x x' : α} {y : γ} {k : Int} {n o : Nat} {f : Unit → M β} {Q : β → World → Prop} (s : Ss W Hs w) (i : Nat) (e : nth Hs i = some (vec c sl l sp)) (h0 : 0 ≤ k) (hx : l[k.toNat]? = some x) (hn : n = c.n) (u : Upd (c.enc x) o (d.enc y) (c.enc x'))
    (g : ∀ w', Ss W (up Hs i (vec c sl (l.set k.toNat x') sp)) w' → WP (f ()) w' Q) : WP (Lx.idx sl.a sl.len k n >>= fun p => Lx.st d (Addr.add p o) y >>= f) w Q := by
  have h1 := (List.getElem?_eq_some_iff.1 hx).1
  exact idxv s i e h0 (by omega) hn (fun a ha => stvf s i e ha hx (by rw [add_add]) u g)
theorem stxp0 {γ : Type} {W : World} {Hs : List HP} {c : Cod α} {d : Cod γ} {sl : Sl} {l sp : List α} {x x' : α} {y : γ} {k : Int} {n : Nat} {f : Unit → M β} {Q : β → World → Prop} (s : Ss W Hs w) (i : Nat) (e : nth Hs i = some (vec c sl l sp)) (h0 : 0 ≤ k) (hx : l[k.toNat]? = some x) (hn : n = c.n) (u : Upd (c.enc x) 0 (d.enc y) (c.enc x'))
    (g : ∀ w', Ss W (up Hs i (vec c sl (l.set k.toNat x') sp)) w' → WP (f ()) w' Q) : WP (Lx.idx sl.a sl.len k n >>= fun p => Lx.st d p y >>= f) w Q := by
  have h1 := (List.getElem?_eq_some_iff.1 hx).1
  exact idxv s i e h0 (by omega) hn (fun a ha => stvf s i e ha hx rfl u g)
end WP
end Go.Proofs.Ytoddkagehbcfjaa.Lx
