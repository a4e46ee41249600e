/- The machine 'Lx', places: rows of places, slices that are cut, and rules for the elements of a slice of one's own. -/
import Derived.Test.YtlkhijflgbobjaaLxV
set_option linter.unusedVariables false
set_option linter.unusedSimpArgs false
namespace Go.Proofs.Ytlkhijflgbobjaa.Lx
open Go Go.RowKit
theorem set_eq {α : Type} {l : List α} {i : Nat} {x : α} (h : l[i]? = some x) : l.set i x = l := by
  apply List.ext_getElem?
  intro j
  by_cases e : j = i
  · subst e
    rw [List.getElem?_set_self (List.getElem?_eq_some_iff.1 h).1, h]
  · rw [List.getElem?_set_ne (fun h => e h.symm)]
theorem upd_r {α : Type} {c : Cod α} {l : List α} {i : Nat} (x : α) (h : i < l.length) : Upd (l.flatMap c.enc) (i * c.n) (c.enc x) ((l.set i x).flatMap c.enc) := by
  refine ⟨(l.take i).flatMap c.enc, c.enc l[i], (l.drop (i + 1)).flatMap c.enc, ?_, ?_, by rw [c.len, c.len], ?_⟩
  · rw [← List.flatMap_singleton (f := c.enc) (x := l[i]), ← List.flatMap_append, ← List.flatMap_append]
    congr 1
    simp
  · rw [flat_len, List.length_take, Nat.min_eq_left (Nat.le_of_lt h)]
  · rw [← List.flatMap_singleton (f := c.enc) (x := x), ← List.flatMap_append, ← List.flatMap_append]
    congr 1
    rw [List.set_eq_take_append_cons_drop, if_pos h]
    simp
section
variable {α β : Type} {P : α → β → HP}
end
section
variable {W w : World} {Hs L M : List HP} {A : HP}
theorem Ss.out (s : Ss W Hs w) (i : Nat) (e : nth Hs i = some (seps L)) {j : Nat} (e2 : nth L j = some A) : Ss W (A :: up Hs i (seps (wo L j))) w := by
  have s1 := (s.perm (nth_perm e)).split.perm ((nth_perm e2).append_right _)
  have s2 : Ss W (wo L j ++ (A :: wo Hs i)) w := s1.perm (by
    show (A :: (wo L j ++ wo Hs i)).Perm _
    exact List.perm_middle.symm)
  exact s2.group.perm ((List.Perm.swap _ _ _).trans ((up_perm e).symm.cons A))
theorem Ss.into (s : Ss W (A :: Hs) w) (i : Nat) (e : nth Hs i = some (seps L)) (p : (A :: L).Perm M) : Ss W (up Hs i (seps M)) w := by
  have s1 : Ss W (seps L :: A :: wo Hs i) w := s.perm (((nth_perm e).cons A).trans (List.Perm.swap _ _ _))
  have s2 : Ss W (M ++ wo Hs i) w := s1.split.perm (List.perm_middle.trans (p.append_right _))
  exact s2.group.perm (up_perm e).symm
theorem Ss.back {B : HP} {L : List HP} {j : Nat} (s : Ss W (B :: Hs) w) (i : Nat) (e : nth Hs i = some (seps (wo L j))) (e2 : nth L j = some A) : Ss W (up Hs i (seps (up L j B))) w := s.into i e (up_perm e2).symm
end
theorem Ss.mk0 {W w : World} {Hs : List HP} {A : HP} (s : Ss W Hs w) (ha : A PH.nil) : Ss W (A :: Hs) w := by
  obtain ⟨hb, k, hs, hw⟩ := s
  exact ⟨hb, k, ⟨PH.nil, k, fun _ _ _ _ hx => (by cases hx), fun _ _ _ hx => (by cases hx), fun _ _ _ hx => hx, ha, hs⟩, hw⟩
namespace WP
variable {α β : Type} {w : World}
theorem loopGN {γ σ : Type} {G : σ → M (LS σ β)} (I : γ → σ → World → Prop) (μ : γ → σ → Nat) {Q : β → World → Prop}
    (hs : ∀ g s w, I g s w → WP (G s) w (Rd (fun s' w' => ∃ g', I g' s' w' ∧ μ g' s' < μ g s) Q)) : ∀ (n : Nat) (g : γ) (s : σ) (w : World), I g s w → μ g s < n → WP (Lx.loopN G n s) w Q
  | 0, g, s, w, _, hn => absurd hn (by omega)
  | n + 1, g, s, w, hI, hn => by
    obtain ⟨q, w1, h1, h2⟩ := hs g s w hI
    cases q with
    | next s' =>
      obtain ⟨g', h5, h6⟩ := h2
      obtain ⟨r, w2, h3, h4⟩ := loopGN I μ hs n g' s' w1 h5 (by omega)
      exact ⟨r, w2, bind_some.2 ⟨_, _, h1, h3⟩, h4⟩
    | done b => exact ⟨b, w1, bind_some.2 ⟨_, _, h1, rfl⟩, h2⟩
theorem loopG {γ σ : Type} {G : σ → M (LS σ β)} (I : γ → σ → World → Prop) (μ : γ → σ → Nat) {Q : β → World → Prop} {s : σ} (g : γ) (hI : I g s w)
    (hs : ∀ g s w, I g s w → WP (G s) w (Rd (fun s' w' => ∃ g', I g' s' w' ∧ μ g' s' < μ g s) Q)) : WP (loopM G s) w Q := by
  obtain ⟨r, w', h1, h2⟩ := loopGN I μ hs (μ g s + 1) g s w hI (by omega)
  exact ⟨r, w', loopM_of h1, h2⟩
theorem idxv {W : World} {Hs : List HP} {c : Cod α} {sl : Sl} {l sp : List α} {k : Int} {n : Nat} {f : Addr → M β} {Q : β → World → Prop} (s : Ss W Hs w) (i : Nat) (e : nth Hs i = some (vec c sl l sp)) (h0 : 0 ≤ k) (h1 : k < l.length) (hn : n = c.n) (g : ∀ a, sl.a = some a → WP (f (a.add (k.toNat * c.n))) w Q) : WP (Lx.idx sl.a sl.len k n >>= f) w Q := by
  subst hn
  obtain ⟨e1, e2, e3⟩ := s.vec_len e
  cases ha : sl.a with
  | none =>
    have := (e3 ha).1
    subst this
    simp only [List.length_nil] at h1
    omega
  | some a =>
    have g' := g a ha
    exact idx h0 (by omega) g'
theorem stv {W : World} {Hs : List HP} {c : Cod α} {sl : Sl} {l sp : List α} {x : α} {k : Nat} {a p : Addr} {f : Unit → M β} {Q : β → World → Prop} (s : Ss W Hs w) (i : Nat) (e : nth Hs i = some (vec c sl l sp)) (ha : sl.a = some a) (hk : k < l.length) (hp : p = a.add (k * c.n))
    (g : ∀ w', Ss W (up Hs i (vec c sl (l.set k x) sp)) w' → WP (f ()) w' Q) : WP (Lx.st c p x >>= f) w Q := by
  obtain ⟨b, eb, s2⟩ := s.vec_open e (.inr (by rw [ha]; simp))
  rw [eb] at ha
  cases ha
  have hk' : k < (l ++ sp).length := by rw [List.length_append]; omega
  refine st s2 i (up_nth e) hp (upd_r (c := c) (l := l ++ sp) (i := k) x hk') (fun w' s => g w' ?_)
  rw [up_up] at s
  rw [← up_up (l := Hs) (i := i) (A := pts true a (((l ++ sp).set k x).flatMap c.enc))]
  refine s.close (up_nth e) (fun h hh => ?_)
  rw [eb]
  refine ⟨by simp, by simp, ?_⟩
  rw [List.set_append_left _ _ hk] at hh
  exact hh
theorem stx {W : World} {Hs : List HP} {c : Cod α} {sl : Sl} {l sp : List α} {x : α} {k : Int} {n : Nat} {f : Unit → M β} {Q : β → World → Prop} (s : Ss W Hs w) (i : Nat) (e : nth Hs i = some (vec c sl l sp)) (h0 : 0 ≤ k) (h1 : k < l.length) (hn : n = c.n)
    (g : ∀ w', Ss W (up Hs i (vec c sl (l.set k.toNat x) sp)) w' → WP (f ()) w' Q) : WP (Lx.idx sl.a sl.len k n >>= fun p => Lx.st c p x >>= f) w Q :=
  idxv s i e h0 h1 hn (fun a ha => stv s i e ha (by omega) rfl g)
end WP
end Go.Proofs.Ytlkhijflgbobjaa.Lx
