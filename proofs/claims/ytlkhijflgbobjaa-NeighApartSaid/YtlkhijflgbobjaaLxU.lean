/- The machine 'Lx', places: what the words that write, make and lengthen do to them. -/
import Derived.Test.YtlkhijflgbobjaaLxS
import Derived.Laws.Append
set_option linter.unusedVariables false
set_option linter.unusedSimpArgs false
namespace Go.Proofs.Ytlkhijflgbobjaa.Lx
open Go Go.RowKit
def up : List HP → Nat → HP → List HP
  | [], _, _ => []
  | _ :: l, 0, B => B :: l
  | A :: l, n + 1, B => A :: up l n B
theorem up_perm : ∀ {l : List HP} {i : Nat} {A B : HP}, nth l i = some A → (up l i B).Perm (B :: wo l i)
  | A :: l, 0, _, B, h => List.Perm.refl _
  | A :: l, i + 1, C, B, h => ((up_perm (l := l) h).cons A).trans (List.Perm.swap _ _ _)
theorem up_nth : ∀ {l : List HP} {i : Nat} {A B : HP}, nth l i = some A → nth (up l i B) i = some B
  | A :: l, 0, _, B, h => rfl
  | A :: l, i + 1, C, B, h => up_nth (l := l) h
theorem up_up : ∀ {l : List HP} {i : Nat} {A B : HP}, up (up l i A) i B = up l i B
  | [], _, _, _ => rfl
  | A :: l, 0, _, B => rfl
  | A :: l, i + 1, C, B => congrArg (A :: ·) (up_up (l := l))
theorem Ss.ext {W w w' : World} {l : List HP} (s : Ss W l w) (hb : Below W.heap.size W w') (h : ∀ b, b < w.heap.size → w'.heap[b]? = w.heap[b]?) : Ss W l w' := by
  obtain ⟨b1, k, hs, hw⟩ := s
  refine ⟨hb, k, hs, fun b o x hx => ?_⟩
  have h1 := hw b o x hx
  have key : ∀ O, w.heap[b]? = some O → w'.heap[b]? = some O := fun O hO => by
    rw [h b (Array.getElem?_eq_some_iff.1 hO).1, hO]
  rcases x with ⟨q, x | mo⟩ <;> cases q
  · show w'.cell? _ = _
    have h2 : w.cell? ⟨b, o, none⟩ = some x := h1
    unfold World.cell? at h2 ⊢
    cases hO : w.heap[b]? with
    | none => simp only [hO] at h2; cases h2
    | some O => simp only [hO] at h2; simp only [key O hO]; exact h2
  · obtain ⟨c1, cs, T, c2, c3⟩ := h1
    exact ⟨c1, cs, T, key _ c2, c3⟩
  · exact ⟨h1.1, key _ h1.2⟩
  · exact ⟨h1.1, h1.2.1, key _ h1.2.2⟩
theorem Ss.drew {W w : World} {l : List HP} (s : Ss W l w) : Ss W l w.drew := s.ext ⟨s.below.os, s.below.tape, s.below.output, s.below.size, s.below.block⟩ (fun _ _ => rfl)
theorem heap_alloc_old (w : World) (O : Obj) {b : Nat} (h : b < w.heap.size) : (w.alloc O).heap[b]? = w.heap[b]? := by
  show (w.heap.push O)[b]? = _
  rw [Array.getElem?_push, if_neg (by omega)]
theorem heap_alloc_new (w : World) (O : Obj) : (w.alloc O).heap[w.heap.size]? = some O := by
  show (w.heap.push O)[w.heap.size]? = _
  rw [Array.getElem?_push, if_pos rfl]
theorem Ss.alloc {W w : World} {l : List HP} (s : Ss W l w) (O : Obj) : Ss W l (w.alloc O) :=
  s.ext (s.below.trans (below_less (below_alloc O) s.below.size)) (fun b hb => heap_alloc_old w O hb)
theorem Has.lt {B : Nat} {w : World} {b o : Nat} {x : Bool × Ct} (h : Has B w b o x) : b < w.heap.size := by
  have key : ∀ O, w.heap[b]? = some O → b < w.heap.size := fun O hO => (Array.getElem?_eq_some_iff.1 hO).1
  rcases x with ⟨q, x | mo⟩ <;> cases q
  · have h2 : w.cell? ⟨b, o, none⟩ = some x := h
    unfold World.cell? at h2
    cases hO : w.heap[b]? with
    | none => simp only [hO] at h2; cases h2
    | some O => exact key O hO
  · obtain ⟨c1, cs, T, c2, c3⟩ := h
    exact key _ c2
  · exact key _ h.2
  · exact key _ h.2.2
theorem Ss.new {W w : World} {l : List HP} (s : Ss W l w) (L : List Value) (T : TypeId) : Ss W (pts true (pt w.heap.size 0) L :: l) (w.alloc (.cells L.toArray T)) := by
  obtain ⟨b1, k, hs, hw⟩ := s.alloc (.cells L.toArray T)
  obtain ⟨b0, k0, hs0, hw0⟩ := s
  let n : PH := fun b o => if b = w.heap.size then (L[o]?).map fun x => (true, .v x) else none
  have hok : n.ok k0 := fun b o x y hx hy => by
    have := (hw0 b o y hy).lt
    simp only [n] at hx
    rw [if_neg (by omega)] at hx
    cases hx
  refine ⟨b1, n.add k0, ⟨n, k0, hok, PH.le_add, PH.le_add' hok, ⟨rfl, fun i x hx => ?_⟩, hs0⟩, fun b o x hx => ?_⟩
  · simp [n, pt, hx]
  · rcases PH.add_some.1 hx with hx' | ⟨_, hx'⟩
    · simp only [n] at hx'
      split at hx'
      · rename_i hb
        subst hb
        obtain ⟨y, hy, rfl⟩ := Option.map_eq_some_iff.1 hx'
        exact ⟨b0.size, _, T, heap_alloc_new _ _, by simpa using hy⟩
      · cases hx'
    · have h1 := hw0 b o x hx'
      have hlt := h1.lt
      have e : (w.alloc (.cells L.toArray T)).heap[b]? = w.heap[b]? := heap_alloc_old _ _ hlt
      rcases x with ⟨q, x | mo⟩ <;> cases q
      · show (w.alloc _).cell? _ = _
        have h2 : w.cell? ⟨b, o, none⟩ = some x := h1
        unfold World.cell? at h2 ⊢
        simp only [e]
        exact h2
      · obtain ⟨c1, cs, T', c2, c3⟩ := h1
        exact ⟨c1, cs, T', e.trans c2, c3⟩
      · exact ⟨h1.1, e.trans h1.2⟩
      · exact ⟨h1.1, h1.2.1, e.trans h1.2.2⟩
theorem Ss.set1 {W w : World} {l : List HP} {a : Addr} {L : List Value} (s : Ss W (pts true a L :: l) w) {j : Nat} {y : Value} (hy : L[j]? = some y) (x : Value) :
    (w.cell? (a.add j)).isSome = true ∧ w.frozen? (a.add j) = false ∧ Ss W (pts true a (L.set j x) :: l) (w.setCell (a.add j) x) := by
  have hc := pts_cell s (i := 0) rfl hy
  refine ⟨by rw [hc]; rfl, ?_⟩
  obtain ⟨b0, k, ⟨h1, h2, ok, l1, l2, ⟨sp, hp⟩, hr⟩, hw⟩ := s
  have hat := hp j y hy
  obtain ⟨hB, cs, T, hh, hcs⟩ := hw _ _ _ (l1 _ _ _ hat)
  rw [addr_add sp]
  refine ⟨by simp [World.frozen?, hh], ?_⟩
  have hw' : (w.setCell ⟨a.block, a.off + j, none⟩ x).heap[a.block]? = some (.cells (cs.setIfInBounds (a.off + j) x) T (0, 0)) := by
    rw [heap_setCell]
    simp [hh]
  have ho : ∀ b, b ≠ a.block → (w.setCell ⟨a.block, a.off + j, none⟩ x).heap[b]? = w.heap[b]? := fun b hb => by
    rw [heap_setCell, if_neg (fun e => hb e.symm)]
  have hsz : (w.setCell ⟨a.block, a.off + j, none⟩ x).heap.size = w.heap.size := by simp [World.setCell]
  have n2 : h2 a.block (a.off + j) = none := by
    cases h : h2 a.block (a.off + j) with
    | none => rfl
    | some z => exact absurd (ok _ _ _ _ hat h).2 (by simp)
  let n1 : PH := fun b o => if b = a.block ∧ o = a.off + j then some (true, .v x) else h1 b o
  let kk : PH := fun b o => if b = a.block ∧ o = a.off + j then some (true, .v x) else k b o
  refine ⟨⟨b0.os, b0.tape, b0.output, by rw [hsz]; exact b0.size, fun b hb => by rw [ho b (by omega)]; exact b0.block b hb⟩, kk, ⟨n1, h2, ?_, ?_, ?_, ⟨sp, ?_⟩, hr⟩, ?_⟩
  · intro b o u v hu hv
    simp only [n1] at hu
    split at hu
    · rename_i h
      rw [h.1, h.2, n2] at hv
      cases hv
    · exact ok b o u v hu hv
  · intro b o u hu
    simp only [n1] at hu
    simp only [kk]
    split
    · rename_i h
      rwa [if_pos h] at hu
    · rename_i h
      rw [if_neg h] at hu
      exact l1 b o u hu
  · intro b o u hu
    simp only [kk]
    split
    · rename_i h
      rw [h.1, h.2, n2] at hu
      cases hu
    · exact l2 b o u hu
  · intro i u hu
    by_cases e : i = j
    · subst e
      rw [show n1 a.block (a.off + i) = some (true, .v x) from if_pos ⟨rfl, rfl⟩]
      have hj : i < L.length := (List.getElem?_eq_some_iff.1 hy).1
      rw [List.getElem?_set_self hj] at hu
      cases hu
      rfl
    · rw [show n1 a.block (a.off + i) = h1 a.block (a.off + i) from if_neg (fun h => e (by have := h.2; omega))]
      rw [List.getElem?_set_ne (fun h => e h.symm)] at hu
      exact hp i u hu
  · intro b o u hu
    simp only [kk] at hu
    split at hu
    · rename_i h
      cases hu
      refine ⟨by rw [h.1]; exact hB, _, T, by rw [h.1]; exact hw', ?_⟩
      rw [h.2]
      have : a.off + j < cs.size := (Array.getElem?_eq_some_iff.1 hcs).1
      simp [this]
    · rename_i hne
      have h1 := hw b o u hu
      by_cases hb : b = a.block
      · subst hb
        have ho2 : o ≠ a.off + j := fun h => hne ⟨rfl, h⟩
        rcases u with ⟨q, u | mo⟩ <;> cases q
        · show World.cell? _ _ = _
          have h2 : w.cell? ⟨a.block, o, none⟩ = some u := h1
          unfold World.cell? at h2 ⊢
          simp only [hh] at h2
          simp only [hw']
          simp only [Option.isSome_none, Bool.false_eq_true, if_false] at h2 ⊢
          rw [Array.getElem?_setIfInBounds_ne (fun h => ho2 h.symm)]
          exact h2
        · obtain ⟨c1, cs', T', c2, c3⟩ := h1
          rw [hh] at c2
          cases c2
          exact ⟨c1, _, _, hw', by rw [Array.getElem?_setIfInBounds_ne (fun h => ho2 h.symm)]; exact c3⟩
        · have := h1.2
          rw [hh] at this
          cases mo <;> cases this
        · have := h1.2.2
          rw [hh] at this
          cases mo <;> cases this
      · rcases u with ⟨q, u | mo⟩ <;> cases q
        · show World.cell? _ _ = _
          have h2 : w.cell? ⟨b, o, none⟩ = some u := h1
          unfold World.cell? at h2 ⊢
          simp only [ho b hb]
          exact h2
        · obtain ⟨c1, cs', T', c2, c3⟩ := h1
          exact ⟨c1, cs', T', (ho b hb).trans c2, c3⟩
        · exact ⟨h1.1, (ho b hb).trans h1.2⟩
        · exact ⟨h1.1, h1.2.1, (ho b hb).trans h1.2.2⟩
theorem wrF_first {W : World} {l : List HP} {a : Addr} : ∀ (m : List Value) (w : World) (p q r : List Value) (b : Addr) (j : Nat), Ss W (pts true a (p ++ q ++ r) :: l) w → q.length = m.length → (b.add j = a.add p.length) → (∀ i, b.add (j + i) = a.add (p.length + i)) →
    ∃ w', wrF w b j m = some w' ∧ Ss W (pts true a (p ++ m ++ r) :: l) w'
  | [], w, p, q, r, b, j, s, hq, hb, hi => by
    have : q = [] := by cases q; rfl; simp at hq
    subst this
    exact ⟨w, rfl, s⟩
  | x :: m, w, p, q, r, b, j, s, hq, hb, hi => by
    cases q with
    | nil => simp at hq
    | cons y q =>
      have hy : (p ++ y :: q ++ r)[p.length]? = some y := by simp
      obtain ⟨h1, h2, h3⟩ := s.set1 hy x
      rw [show (p ++ y :: q ++ r).set p.length x = (p ++ [x]) ++ q ++ r by simp] at h3
      obtain ⟨w', h4, h5⟩ := wrF_first m _ (p ++ [x]) q r b (j + 1) h3 (by simpa using hq) (by have := hi 1; simpa using this) (fun i => by have := hi (1 + i); simpa [Nat.add_assoc] using this)
      refine ⟨w', ?_, by simpa using h5⟩
      simp only [wrF, hb]
      rw [h1, h2]
      exact h4
theorem wrF_pts {W w : World} {l : List HP} {i : Nat} {a : Addr} {L m L' : List Value} {o : Nat} (s : Ss W l w) (e : nth l i = some (pts true a L)) (h : Upd L o m L') :
    ∃ w', wrF w (a.add o) 0 m = some w' ∧ Ss W (up l i (pts true a L')) w' := by
  obtain ⟨p, q, r, rfl, rfl, hq, rfl⟩ := h
  obtain ⟨w', h1, h2⟩ := wrF_first m w p q r (a.add p.length) 0 (s.perm (nth_perm e)) hq (by rw [add_add, Nat.add_zero]) (fun i => by rw [add_add, Nat.zero_add])
  exact ⟨w', h1, h2.perm (up_perm e).symm⟩
theorem plain_enc {α : Type} (c : Cod α) (x : α) : (c.enc x).all plainV = true := by
  rw [List.all_eq_true]
  intro y hy
  have h := c.flat x y hy
  cases y <;> first | rfl | (exact absurd rfl (h.1 _)) | (exact absurd rfl (h.2 _))
theorem plain_flat {α : Type} (c : Cod α) (l : List α) : (l.flatMap c.enc).all plainV = true := by
  rw [List.all_eq_true]
  intro y hy
  obtain ⟨x, _, hx⟩ := List.mem_flatMap.1 hy
  exact List.all_eq_true.1 (plain_enc c x) y hx
theorem flat_len {α : Type} (c : Cod α) (l : List α) : (l.flatMap c.enc).length = l.length * c.n := by
  induction l with
  | nil => simp
  | cons x l ih => simp [ih, c.len, Nat.succ_mul, Nat.add_comm]
def vec {α : Type} (c : Cod α) (s : Sl) (l sp : List α) : HP := fun h => s.len = l.length ∧ s.cap = l.length + sp.length ∧ (match s.a with | some a => pts true a ((l ++ sp).flatMap c.enc) h | none => l = [] ∧ sp = [])
theorem vec_nil {α : Type} {c : Cod α} {h : PH} : vec c Sl.nil [] [] h := ⟨rfl, rfl, rfl, rfl⟩
theorem Ss.has {W w : World} {l : List HP} {i : Nat} {A : HP} (s : Ss W l w) (e : nth l i = some A) : ∃ h, A h := by
  obtain ⟨_, k, hs, _⟩ := s
  obtain ⟨h1, a, _⟩ := seps_nth hs e
  exact ⟨h1, a⟩
theorem Ss.vec_len {α : Type} {c : Cod α} {W w : World} {Hs : List HP} {i : Nat} {sl : Sl} {l sp : List α} (s : Ss W Hs w) (e : nth Hs i = some (vec c sl l sp)) : sl.len = l.length ∧ sl.cap = l.length + sp.length ∧ (sl.a = none → l = [] ∧ sp = []) := by
  obtain ⟨h, h1, h2, h3⟩ := s.has e
  refine ⟨h1, h2, fun e => ?_⟩
  rw [e] at h3
  exact h3
theorem Ss.vec_open {α : Type} {c : Cod α} {W w : World} {Hs : List HP} {i : Nat} {sl : Sl} {l sp : List α} (s : Ss W Hs w) (e : nth Hs i = some (vec c sl l sp)) (hl : l ≠ [] ∨ sl.a ≠ none) : ∃ a, sl = ⟨some a, l.length, l.length + sp.length⟩ ∧ Ss W (up Hs i (pts true a ((l ++ sp).flatMap c.enc))) w := by
  obtain ⟨h1, h2, h3⟩ := s.vec_len e
  obtain ⟨a, n, k⟩ := sl
  cases a with
  | none => exact absurd (h3 rfl).1 (hl.resolve_right (fun h => h rfl))
  | some a =>
    simp only at h1 h2
    subst h1
    subst h2
    exact ⟨a, rfl, ((s.perm (nth_perm e)).first (fun h hv => hv.2.2)).perm (up_perm e).symm⟩
theorem Ss.close {W w : World} {Hs : List HP} {i : Nat} {A B : HP} (s : Ss W Hs w) (e : nth Hs i = some A) (f : ∀ h, A h → B h) : Ss W (up Hs i B) w := ((s.perm (nth_perm e)).first f).perm (up_perm e).symm
theorem zeros_flat {α : Type} (c : Cod α) (z : α) (k : Nat) : (Builtin.zeroCells (c.enc z).toArray k).toList = (List.replicate k z).flatMap c.enc := by
  apply List.ext_getElem?
  intro i
  unfold Builtin.zeroCells
  rw [Array.toList_map, Array.toList_range, List.getElem?_map]
  have hl : ((List.replicate k z).flatMap c.enc).length = k * c.n := by rw [flat_len, List.length_replicate]
  have hz : (c.enc z).toArray.size = c.n := by simp [c.len]
  rw [hz]
  by_cases hi : i < k * c.n
  · have hn : 0 < c.n := by
      rcases Nat.eq_zero_or_pos c.n with h | h
      · rw [h, Nat.mul_zero] at hi; omega
      · exact h
    have hd : i / c.n < k := (Nat.div_lt_iff_lt_mul hn).2 hi
    have hm : i % c.n < c.n := Nat.mod_lt _ hn
    have hat := flatMap_at c (List.replicate k z) (i / c.n) z (by simpa using hd)
    have e : (List.replicate k z).getD (i / c.n) z = z := by
      simp only [List.getD, List.getElem?_replicate]
      split <;> rfl
    rw [e] at hat
    have := hat.get (i % c.n) (by rw [c.len]; exact hm)
    rw [Nat.mul_comm, Nat.div_add_mod] at this
    rw [this, List.getElem?_range hi]
    simp [c.len, hm]
  · rw [List.getElem?_eq_none (l := List.range (k * c.n)) (by simp; omega), List.getElem?_eq_none (by rw [hl]; omega)]
    rfl
theorem vec_upd {α : Type} (c : Cod α) (l xs sp : List α) (h : xs.length ≤ sp.length) : Upd ((l ++ sp).flatMap c.enc) (l.length * c.n) (xs.flatMap c.enc) ((l ++ xs ++ sp.drop xs.length).flatMap c.enc) := by
  refine ⟨l.flatMap c.enc, (sp.take xs.length).flatMap c.enc, (sp.drop xs.length).flatMap c.enc, ?_, flat_len _ _, ?_, ?_⟩
  · rw [List.append_assoc, ← List.flatMap_append, List.take_append_drop, ← List.flatMap_append]
  · rw [flat_len, flat_len, List.length_take, Nat.min_eq_left h]
  · simp [List.flatMap_append]
def ex {α : Type} (φ : α → Prop) (P : α → HP) : HP := fun h => ∃ x, φ x ∧ P x h
theorem Ss.openx {α : Type} {φ : α → Prop} {P : α → HP} {W w : World} {Hs : List HP} (s : Ss W Hs w) (i : Nat) (e : nth Hs i = some (Lx.ex φ P)) : ∃ x, φ x ∧ Ss W (up Hs i (P x)) w := by
  obtain ⟨hb, k, ⟨h1, h2, e', l1, l2, ⟨x, a1, a⟩, b⟩, hw⟩ := s.perm (nth_perm e)
  exact ⟨x, a1, Ss.perm (l := P x :: wo Hs i) ⟨hb, k, ⟨h1, h2, e', l1, l2, a, b⟩, hw⟩ (up_perm e).symm⟩
theorem Ss.closex {α : Type} {φ : α → Prop} {P : α → HP} {W w : World} {Hs : List HP} (s : Ss W Hs w) (i : Nat) (x : α) (e : nth Hs i = some (P x)) (hx : φ x) : Ss W (up Hs i (Lx.ex φ P)) w := s.close e (fun h hp => ⟨x, hx, hp⟩)
theorem Upd.at_ {L m L' : List Value} {o : Nat} (h : Upd L o m L') : At L' o m := by
  obtain ⟨p, q, r, rfl, rfl, hq, rfl⟩ := h
  exact ⟨p, r, rfl, rfl⟩
theorem Upd.comp {L m L1 m2 L2 : List Value} {o : Nat} (h : Upd L o m L1) (h2 : Upd L1 o m2 L2) (hl : m.length = m2.length) : Upd L o m2 L2 := by
  obtain ⟨p, q, r, rfl, rfl, hq, rfl⟩ := h
  obtain ⟨p', q', r', he, hp, hq', rfl⟩ := h2
  rw [List.append_assoc, List.append_assoc] at he
  obtain ⟨e1, e2⟩ := List.append_inj he hp.symm
  subst e1
  obtain ⟨e3, e4⟩ := List.append_inj e2 (by rw [hq', hl])
  subst e3
  subst e4
  exact ⟨p, q, r, rfl, rfl, by rw [hq, hl], rfl⟩
theorem At.put {α : Type} {c : Cod α} {L : List Value} {o : Nat} {x : α} (h : At L o (c.enc x)) (y : α) : ∃ L', Upd L o (c.enc y) L' ∧ At L' o (c.enc y) := by
  obtain ⟨p, r, rfl, rfl⟩ := h
  have : Upd (p ++ c.enc x ++ r) p.length (c.enc y) (p ++ c.enc y ++ r) := ⟨p, c.enc x, r, rfl, rfl, by rw [c.len, c.len], rfl⟩
  exact ⟨_, this, this.at_⟩
theorem Upd.go {α : Type} {c : Cod α} {L L1 L2 : List Value} {o : Nat} {x y : α} (h : Upd L o (c.enc x) L1) (h2 : Upd L1 o (c.enc y) L2) : Upd L o (c.enc y) L2 := h.comp h2 (by rw [c.len, c.len])
namespace WP
variable {α β : Type} {w : World}
theorem st {W : World} {l : List HP} {a p : Addr} {L L' : List Value} {c : Cod α} {x : α} {f : Unit → M β} {Q : β → World → Prop} {o : Nat} (s : Ss W l w) (i : Nat) (e : nth l i = some (pts true a L)) (hp : p = a.add o) (h : Upd L o (c.enc x) L')
    (k : ∀ w', Ss W (up l i (pts true a L')) w' → WP (f ()) w' Q) : WP (Lx.st c p x >>= f) w Q := by
  subst hp
  obtain ⟨w', h1, h2⟩ := wrF_pts s e h
  exact bind ⟨(), w', by unfold Lx.st; rw [h1]; rfl, k w' h2⟩
theorem newv {W : World} {l : List HP} {T : TypeId} {c : Cod α} {x : α} {f : Nat → M β} {Q : β → World → Prop} (s : Ss W l w)
    (k : ∀ b w', Ss W (pts true (pt b 0) (c.enc x) :: l) w' → WP (f b) w' Q) : WP (Lx.newv T c x >>= f) w Q :=
  bind ⟨_, _, rfl, k _ _ (s.new _ T)⟩
theorem slot' {W : World} {l : List HP} {T : TypeId} {f : Nat → M β} {Q : β → World → Prop} (s : Ss W l w) (k : ∀ b w', Ss W l w' → WP (f b) w' Q) : WP (Lx.slot T >>= f) w Q :=
  slot (k _ _ (s.alloc _))
theorem draw' {W : World} {l : List HP} {f : Unit → M β} {Q : β → World → Prop} (s : Ss W l w) (k : ∀ w', Ss W l w' → WP (f ()) w' Q) : WP (Lx.draw >>= f) w Q := draw (k _ s.drew)
theorem mkS {W : World} {l : List HP} {E : TypeId} {by_ : Nat} {c : Cod α} {z : α} {n k : Int} {f : Sl → M β} {Q : β → World → Prop} (s : Ss W l w) (h0 : 0 ≤ n) (h1 : n ≤ k) (h2 : k ≤ 9223372036854775807) (h3 : by_ * k ≤ 281474976710656)
    (g : ∀ r w', Ss W (vec c r (List.replicate n.toNat z) (List.replicate (k - n).toNat z) :: l) w' → r.a.isSome = true → WP (f r) w' Q) : WP (Lx.mkS c E by_ z n k >>= f) w Q := by
  have e1 : IntKind.i64.wrap n = n := wrap_i64 (by omega) (by omega)
  have e2 : IntKind.i64.wrap k = k := wrap_i64 (by omega) (by omega)
  refine bind ⟨_, _, ?_, g ⟨some (pt w.heap.size 0), n.toNat, k.toNat⟩ _ ((s.new (List.replicate k.toNat (c.enc z)).flatten E).first ?_) rfl⟩
  · unfold Lx.mkS
    rw [e1, e2, if_neg (by simp only [not_or]; refine ⟨by omega, ?_, by omega, by omega⟩; simpa using h3)]
  · intro h hp
    refine ⟨by simp, by simp; omega, ?_⟩
    show pts true _ _ h
    rw [List.replicate_append_replicate, show n.toNat + (k - n).toNat = k.toNat by omega]
    simpa [List.flatMap, List.map_replicate] using hp
theorem appl {W : World} {Hs : List HP} {E : TypeId} {by_ : Nat} {c : Cod α} {z : α} {sl : Sl} {l sp xs : List α} {f : Sl → M β} {Q : β → World → Prop} (s : Ss W Hs w) (i : Nat) (e : nth Hs i = some (vec c sl l sp)) (hb : (l.length + xs.length) * by_ ≤ 140737488355328) (h0 : 0 < by_)
    (k : ∀ r w' sp', Ss W (up Hs i (vec c r (l ++ xs) sp')) w' → WP (f r) w' Q) : WP (Lx.appl c E by_ z sl xs >>= f) w Q := by
  obtain ⟨e1, e2, e3⟩ := s.vec_len e
  obtain ⟨a, n, cap⟩ := sl
  simp only at e1 e2 e3
  subst e1
  subst e2
  by_cases hc : l.length + xs.length ≤ l.length + sp.length
  · cases a with
    | none =>
      obtain ⟨rfl, rfl⟩ := e3 rfl
      have : xs = [] := by cases xs; rfl; simp at hc
      subst this
      refine bind ⟨_, w, ?_, k ⟨none, 0, 0⟩ w [] (s.close e (fun h hv => vec_nil))⟩
      simp [Lx.appl, grow]
    | some a =>
      obtain ⟨a', e4, s2⟩ := s.vec_open e (.inr (by simp))
      cases e4
      obtain ⟨w', h1, h2⟩ := wrF_pts s2 (up_nth e) (vec_upd c l xs sp (by omega))
      rw [up_up] at h2
      refine bind ⟨⟨some a, l.length + xs.length, l.length + sp.length⟩, w', ?_, k _ w' (sp.drop xs.length) ?_⟩
      · unfold Lx.appl grow
        rw [plain_flat]
        simp only [Bool.not_true, Bool.false_eq_true, if_false]
        rw [if_pos hc, h1]
        rfl
      · refine (h2.close (up_nth e) (fun h hp => ?_)) |> fun s => up_up ▸ s
        exact ⟨by simp, by simp; omega, hp⟩
  · have hneed : l.length + sp.length < l.length + xs.length := by omega
    obtain ⟨old, ho, hold⟩ : ∃ old, rdR w a (l.length * c.n) = some old ∧ old = l.flatMap c.enc := by
      cases a with
      | none =>
        obtain ⟨rfl, rfl⟩ := e3 rfl
        exact ⟨[], by simp [rdR], rfl⟩
      | some a =>
        obtain ⟨a', e4, s2⟩ := s.vec_open e (.inr (by simp))
        cases e4
        have hat : At ((l ++ sp).flatMap c.enc) 0 (l.flatMap c.enc) := ⟨[], sp.flatMap c.enc, by simp, rfl⟩
        have := rdF_pts s2 (up_nth e) hat
        rw [flat_len] at this
        exact ⟨_, this, rfl⟩
    subst hold
    have hg : Builtin.nextslicecap (l.length + xs.length) (l.length + sp.length) * by_ ≤ 281474976710656 := growslice_fits hneed hb
    generalize hcap : (Question.appendCap (l.length + xs.length) (l.length + sp.length) E).cut (w.tape w.drawn (.appendCap (l.length + xs.length) (l.length + sp.length) E)) = cap'
    have hcap' : l.length + xs.length ≤ cap' := by rw [← hcap]; exact Nat.le_add_right _ _
    refine bind ⟨⟨some (pt w.heap.size 0), l.length + xs.length, cap'⟩, w.drew.alloc (.cells (l.flatMap c.enc ++ xs.flatMap c.enc ++ (Builtin.zeroCells (c.enc z).toArray (cap' - (l.length + xs.length))).toList).toArray E), ?_, k _ _ (List.replicate (cap' - (l.length + xs.length)) z) ?_⟩
    · unfold Lx.appl grow
      rw [plain_flat]
      simp only [Bool.not_true, Bool.false_eq_true, if_false]
      rw [if_neg hc, if_neg (fun h => by omega), if_neg (show ¬ Builtin.nextslicecap (l.length + xs.length) (l.length + sp.length) * by_ > 2 ^ 48 by simpa using hg), ho, hcap]
      rfl
    · rw [zeros_flat]
      have s3 := (s.drew.new (l.flatMap c.enc ++ xs.flatMap c.enc ++ (List.replicate (cap' - (l.length + xs.length)) z).flatMap c.enc) E).first (B := vec c ⟨some (pt w.heap.size 0), l.length + xs.length, cap'⟩ (l ++ xs) (List.replicate (cap' - (l.length + xs.length)) z)) (fun h hp => ⟨by simp, by simp; omega, by simpa [List.flatMap_append] using hp⟩)
      refine Ss.perm (l := vec c ⟨some (pt w.heap.size 0), l.length + xs.length, cap'⟩ (l ++ xs) (List.replicate (cap' - (l.length + xs.length)) z) :: wo Hs i) ?_ (up_perm e).symm
      have s4 := s3.perm (((nth_perm e).cons _).trans (List.Perm.swap _ _ _))
      exact s4.drop
end WP
end Go.Proofs.Ytlkhijflgbobjaa.Lx
