/- The machine 'Lx', places: which cells of a world are one's own, and rules for the words that read and write them (separation of memory; no Go program in sight). -/
import Derived.Test.YtlkhijflgbobjaaLxW
import Derived.Test.YtlkhijflgbobjaaLxR
set_option linter.unusedVariables false
set_option linter.unusedSimpArgs false
namespace Go.Proofs.Ytlkhijflgbobjaa.Lx
open Go Go.RowKit
inductive MO where
  | map (es : Array MapEntry) (clock : Nat)
  | iter (m : Option Nat) (since : Nat) (seen : Array Nat) (stepped : Nat)
def MO.obj : MO → Obj
  | .map es c => .map es c
  | .iter m a b c => .mapIter m a b c
inductive Ct where
  | v (x : Value)
  | m (o : MO)
abbrev PH := Nat → Nat → Option (Bool × Ct)
def PH.ok (h k : PH) : Prop := ∀ b o x y, h b o = some x → k b o = some y → x = y ∧ x.1 = false
def PH.add (h k : PH) : PH := fun b o => (h b o).or (k b o)
def PH.nil : PH := fun _ _ => none
def PH.le (h k : PH) : Prop := ∀ b o x, h b o = some x → k b o = some x
theorem PH.ok.symm {h k : PH} (e : h.ok k) : k.ok h := fun b o x y hx hy => by
  obtain ⟨e1, e2⟩ := e b o y x hy hx
  exact ⟨e1.symm, e1 ▸ e2⟩
theorem PH.add_comm {h k : PH} (e : h.ok k) : h.add k = k.add h := by
  funext b o
  unfold PH.add
  cases hx : h b o with
  | none => cases k b o <;> rfl
  | some x =>
    cases hy : k b o with
    | none => rfl
    | some y => rw [(e b o x y hx hy).1]
theorem PH.add_assoc (h k l : PH) : (h.add k).add l = h.add (k.add l) := by
  funext b o
  unfold PH.add
  cases h b o <;> rfl
theorem PH.add_some {h k : PH} {b o : Nat} {x : Bool × Ct} : (h.add k) b o = some x ↔ h b o = some x ∨ (h b o = none ∧ k b o = some x) := by
  unfold PH.add
  cases h b o <;> simp
theorem PH.le.trans {h k l : PH} (e : h.le k) (f : k.le l) : h.le l := fun b o x hx => f b o x (e b o x hx)
theorem PH.le_add {h k : PH} : h.le (h.add k) := fun b o x hx => PH.add_some.2 (.inl hx)
theorem PH.le_add' {h k : PH} (e : h.ok k) : k.le (h.add k) := by rw [PH.add_comm e]; exact PH.le_add
theorem PH.add_le {h k l : PH} (e : h.le l) (f : k.le l) : (h.add k).le l := fun b o x hx => by
  rcases PH.add_some.1 hx with hx | ⟨_, hx⟩
  · exact e b o x hx
  · exact f b o x hx
theorem PH.ok.mono {h k h' k' : PH} (e : h.ok k) (a : h'.le h) (b : k'.le k) : h'.ok k' := fun i o x y hx hy => e i o x y (a i o x hx) (b i o y hy)
def HP := PH → Prop
def Star (A B : HP) : HP := fun h => ∃ h1 h2, h1.ok h2 ∧ h1.le h ∧ h2.le h ∧ A h1 ∧ B h2
def seps : List HP → HP
  | [] => fun _ => True
  | A :: r => Star A (seps r)
def pts (q : Bool) (a : Addr) (l : List Value) : HP := fun h => a.spot = none ∧ ∀ i x, l[i]? = some x → h a.block (a.off + i) = some (q, .v x)
def mp (q : Bool) (b : Nat) (o : MO) : HP := fun h => h b 0 = some (q, .m o)
def some' {α : Type} (f : α → HP) : HP := fun h => ∃ x, f x h
theorem Star.up {A B : HP} {h k : PH} (hs : Star A B h) (e : h.le k) : Star A B k := by
  obtain ⟨h1, h2, e1, e2, e3, a, b⟩ := hs
  exact ⟨h1, h2, e1, e2.trans e, e3.trans e, a, b⟩
theorem seps_up {l : List HP} {h k : PH} (hs : seps l h) (e : h.le k) : seps l k := by
  cases l with
  | nil => trivial
  | cons A l => exact Star.up hs e
theorem Star.swap {A B C : HP} {h : PH} (hs : Star A (Star B C) h) : Star B (Star A C) h := by
  obtain ⟨h1, h23, e1, l1, l23, a, h2, h3, e2, l2, l3, b, c⟩ := hs
  have e12 : h1.ok h2 := e1.mono (fun _ _ _ h => h) l2
  have e13 : h1.ok h3 := e1.mono (fun _ _ _ h => h) l3
  refine ⟨h2, h1.add h3, ?_, l2.trans l23, PH.add_le l1 (l3.trans l23), b, h1, h3, e13, PH.le_add, PH.le_add' e13, a, c⟩
  intro b o x y hx hy
  rcases PH.add_some.1 hy with hy | ⟨_, hy⟩
  · exact e12.symm b o x y hx hy
  · exact e2 b o x y hx hy
theorem Star.mono {A B A' B' : HP} {h : PH} (hs : Star A B h) (ha : ∀ h, A h → A' h) (hb : ∀ h, B h → B' h) : Star A' B' h := by
  obtain ⟨h1, h2, e, l1, l2, a, b⟩ := hs
  exact ⟨h1, h2, e, l1, l2, ha _ a, hb _ b⟩
theorem seps_perm {l m : List HP} (p : l.Perm m) : ∀ h, seps l h → seps m h := by
  induction p with
  | nil => exact fun h e => e
  | cons A _ ih => exact fun h e => Star.mono e (fun _ a => a) ih
  | swap A B l => exact fun h e => Star.swap e
  | trans _ _ ih1 ih2 => exact fun h e => ih2 h (ih1 h e)
theorem seps_app {l m : List HP} {h : PH} : seps (l ++ m) h ↔ Star (seps l) (seps m) h := by
  induction l generalizing h with
  | nil =>
    constructor
    · exact fun e => ⟨PH.nil, h, fun _ _ _ _ hx => (by cases hx), fun _ _ _ hx => (by cases hx), fun _ _ _ hx => hx, trivial, e⟩
    · rintro ⟨h1, h2, e, l1, l2, _, b⟩
      exact seps_up (l := m) b l2
  | cons A l ih =>
    constructor
    · rintro ⟨h1, h2, e, l1, l2, a, b⟩
      obtain ⟨h3, h4, e', l3, l4, c, d⟩ := ih.1 b
      have e13 := e.mono (fun _ _ _ h => h) l3
      refine ⟨h1.add h3, h4, ?_, PH.add_le l1 (l3.trans l2), l4.trans l2, ⟨h1, h3, e13, PH.le_add, PH.le_add' e13, a, c⟩, d⟩
      intro b o x y hx hy
      rcases PH.add_some.1 hx with hx | ⟨_, hx⟩
      · exact e b o x y hx (l4 b o y hy)
      · exact e' b o x y hx hy
    · rintro ⟨h1, h2, e, l1, l2, ⟨h3, h4, e', l3, l4, a, c⟩, d⟩
      have e42 := e.mono l4 (fun _ _ _ h => h)
      refine ⟨h3, h4.add h2, ?_, l3.trans l1, PH.add_le (l4.trans l1) l2, a, ih.2 ⟨h4, h2, e42, PH.le_add, PH.le_add' e42, c, d⟩⟩
      intro b o x y hx hy
      rcases PH.add_some.1 hy with hy | ⟨_, hy⟩
      · exact e' b o x y hx hy
      · exact e b o x y (l3 b o x hx) hy
def Has (B : Nat) (w : World) (b o : Nat) : Bool × Ct → Prop
  | (true, .v x) => B ≤ b ∧ ∃ cs T, w.heap[b]? = some (.cells cs T (0, 0)) ∧ cs[o]? = some x
  | (false, .v x) => w.cell? ⟨b, o, none⟩ = some x
  | (true, .m u) => B ≤ b ∧ o = 0 ∧ w.heap[b]? = some u.obj
  | (false, .m u) => o = 0 ∧ w.heap[b]? = some u.obj
structure Ss (W : World) (l : List HP) (w : World) : Prop where
  below : Below W.heap.size W w
  sep : ∃ h, seps l h ∧ ∀ b o x, h b o = some x → Has W.heap.size w b o x
theorem Ss.start (W : World) : Ss W [] W := ⟨Below.refl _ _, PH.nil, trivial, fun _ _ _ h => by cases h⟩
theorem Ss.perm {W w : World} {l m : List HP} (h : Ss W l w) (p : l.Perm m) : Ss W m w := by
  obtain ⟨hb, k, hs, hw⟩ := h
  exact ⟨hb, k, seps_perm p k hs, hw⟩
def nth : List HP → Nat → Option HP
  | [], _ => none
  | A :: _, 0 => some A
  | _ :: l, n + 1 => nth l n
def wo : List HP → Nat → List HP
  | [], _ => []
  | _ :: l, 0 => l
  | A :: l, n + 1 => A :: wo l n
def sel : List Nat → List HP → Option (List HP × List HP)
  | [], l => some ([], l)
  | i :: is, l => match nth l i with
    | some A => match sel is (wo l i) with
      | some (s, r) => some (A :: s, r)
      | none => none
    | none => none
theorem nth_perm : ∀ {l : List HP} {i : Nat} {A : HP}, nth l i = some A → l.Perm (A :: wo l i)
  | A :: l, 0, _, h => by cases h; exact List.Perm.refl _
  | A :: l, i + 1, B, h => ((nth_perm (l := l) h).cons A).trans (List.Perm.swap _ _ _)
theorem sel_perm : ∀ {is : List Nat} {l s r : List HP}, sel is l = some (s, r) → l.Perm (s ++ r)
  | [], l, s, r, h => by cases h; exact List.Perm.refl _
  | i :: is, l, s, r, h => by
    unfold sel at h
    split at h
    · rename_i A hA
      split at h
      · rename_i s' r' hs
        cases h
        exact (nth_perm hA).trans ((sel_perm hs).cons A)
      · cases h
    · cases h
theorem Ss.use {W w : World} {l s r : List HP} (h : Ss W l w) (is : List Nat) (e : sel is l = some (s, r)) : Ss W (s ++ r) w := h.perm (sel_perm e)
theorem Ss.weak {W w : World} {l m : List HP} (h : Ss W (l ++ m) w) : Ss W m w := by
  obtain ⟨hb, k, hs, hw⟩ := h
  obtain ⟨h1, h2, _, _, l2, _, b⟩ := seps_app.1 hs
  exact ⟨hb, h2, b, fun b o x hx => hw b o x (l2 b o x hx)⟩
theorem Ss.first {W w : World} {A B : HP} {l : List HP} (h : Ss W (A :: l) w) (f : ∀ h, A h → B h) : Ss W (B :: l) w := by
  obtain ⟨hb, k, hs, hw⟩ := h
  exact ⟨hb, k, Star.mono hs f (fun _ b => b), hw⟩
theorem Ss.drop {W w : World} {A : HP} {l : List HP} (h : Ss W (A :: l) w) : Ss W l w := Ss.weak (l := [A]) h
theorem Ss.ex {W w : World} {α : Type} {f : α → HP} {l : List HP} (h : Ss W (some' f :: l) w) : ∃ x, Ss W (f x :: l) w := by
  obtain ⟨hb, k, ⟨h1, h2, e, l1, l2, ⟨x, a⟩, b⟩, hw⟩ := h
  exact ⟨x, hb, k, ⟨h1, h2, e, l1, l2, a, b⟩, hw⟩
theorem Ss.group {W w : World} {l m : List HP} (h : Ss W (l ++ m) w) : Ss W (seps l :: m) w := by
  obtain ⟨hb, k, hs, hw⟩ := h
  exact ⟨hb, k, seps_app.1 hs, hw⟩
theorem Ss.split {W w : World} {l m : List HP} (h : Ss W (seps l :: m) w) : Ss W (l ++ m) w := by
  obtain ⟨hb, k, hs, hw⟩ := h
  exact ⟨hb, k, seps_app.2 hs, hw⟩
theorem seps_nth {l : List HP} {h : PH} {i : Nat} {A : HP} (hs : seps l h) (e : nth l i = some A) : ∃ h1, A h1 ∧ h1.le h := by
  obtain ⟨h1, h2, _, l1, _, a, _⟩ := seps_perm (nth_perm e) h hs
  exact ⟨h1, a, l1⟩
theorem Has.cell {B : Nat} {w : World} {b o : Nat} {q : Bool} {x : Value} (h : Has B w b o (q, .v x)) : w.cell? ⟨b, o, none⟩ = some x := by
  cases q with
  | false => exact h
  | true =>
    obtain ⟨_, cs, T, h1, h2⟩ := h
    unfold World.cell?
    simp [h1, h2]
theorem pts_cell {W w : World} {l : List HP} {i : Nat} {q : Bool} {a : Addr} {L : List Value} (s : Ss W l w) (e : nth l i = some (pts q a L)) {j : Nat} {x : Value} (hx : L[j]? = some x) : w.cell? (a.add j) = some x := by
  obtain ⟨hb, h, hs, hw⟩ := s
  obtain ⟨h1, ⟨ha, hc⟩, l1⟩ := seps_nth hs e
  have := (hw _ _ _ (l1 _ _ _ (hc j x hx))).cell
  have e2 : a.add j = ⟨a.block, a.off + j, none⟩ := by
    obtain ⟨b, o, sp⟩ := a
    simp only at ha
    subst ha
    unfold Addr.add
    split <;> simp_all
  rw [e2]
  exact this
theorem addr_add {a : Addr} (ha : a.spot = none) (j : Nat) : a.add j = ⟨a.block, a.off + j, none⟩ := by
  obtain ⟨b, o, sp⟩ := a
  simp only at ha
  subst ha
  unfold Addr.add
  split <;> simp_all
theorem add_add {a : Addr} (i j : Nat) : (a.add i).add j = a.add (i + j) := by
  unfold Addr.add
  by_cases hi : i = 0
  · subst hi
    simp
  · by_cases hj : j = 0
    · subst hj
      simp
    · simp [hi, hj, Nat.add_assoc]
theorem rdF_pts {W w : World} {l : List HP} {i : Nat} {q : Bool} {a : Addr} {L m : List Value} {o : Nat} (s : Ss W l w) (e : nth l i = some (pts q a L)) (h : At L o m) : rdF w (a.add o) 0 m.length = some m :=
  rdF_of _ _ _ rfl fun j hj => by
    rw [Nat.zero_add, add_add]
    have := h.get j hj
    rw [List.getElem?_eq_getElem hj] at this ⊢
    exact pts_cell s e this
namespace WP
variable {α β : Type} {w : World}
theorem ld {W : World} {l : List HP} {q : Bool} {a p : Addr} {L : List Value} {c : Cod α} {x : α} {f : α → M β} {Q : β → World → Prop} {o : Nat} (s : Ss W l w) (i : Nat) (e : nth l i = some (pts q a L)) (hp : p = a.add o) (h : At L o (c.enc x)) (k : WP (f x) w Q) : WP (Lx.ld c p >>= f) w Q := by
  subst hp
  refine bind ⟨x, w, ?_, k⟩
  unfold Lx.ld
  have := rdF_pts s e h
  rw [c.len] at this
  rw [this]
  simp [c.de]
theorem same {W : World} {l : List HP} {q : Bool} {a p : Addr} {L : List Value} {c : Cod α} {x : α} {f : Unit → M β} {Q : β → World → Prop} {o : Nat} (s : Ss W l w) (i : Nat) (e : nth l i = some (pts q a L)) (hp : p = a.add o) (h : At L o (c.enc x)) (k : WP (f ()) w Q) : WP (Lx.same c p x >>= f) w Q := by
  subst hp
  refine bind ⟨(), w, ?_, k⟩
  unfold Lx.same
  have := rdF_pts s e h
  rw [c.len] at this
  rw [if_pos]
  unfold Lx.ld
  rw [this]
  simp [c.de]
end WP
end Go.Proofs.Ytlkhijflgbobjaa.Lx
