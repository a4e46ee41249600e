/- The machine 'Lx', places: reading out of places that are not opened; a walk's entry; places that are said together. -/
import Derived.Test.YtlkhijflgbobjaaLxN
import Derived.Test.YtlkhijflgbobjaaLxY
import Derived.Deep.DeepAppendWide
set_option linter.unusedVariables false
set_option linter.unusedSimpArgs false
namespace Go.Proofs.Ytlkhijflgbobjaa.Lx
open Go Go.RowKit
def Holds (A : HP) (a : Addr) (L : List Value) : Prop := ∀ h, A h → a.spot = none ∧ ∀ i v, L[i]? = some v → ∃ q, h a.block (a.off + i) = some (q, .v v)
theorem Holds.pts {q : Bool} {a : Addr} {L : List Value} : Holds (Lx.pts q a L) a L := fun h ⟨sp, hp⟩ => ⟨sp, fun i v hv => ⟨q, hp i v hv⟩⟩
theorem Holds.at_ {A : HP} {a : Addr} {L m : List Value} {o : Nat} (r : Holds A a L) (e : At L o m) : Holds A (a.add o) m := fun h ha => by
  obtain ⟨sp, hp⟩ := r h ha
  rw [addr_add sp]
  refine ⟨rfl, fun i v hv => ?_⟩
  obtain ⟨p, s, rfl, rfl⟩ := e
  obtain ⟨q, hq⟩ := hp (p.length + i) v (by
    have hi := (List.getElem?_eq_some_iff.1 hv).1
    rw [List.append_assoc, List.getElem?_append_right (by omega), Nat.add_sub_cancel_left, List.getElem?_append_left hi]
    exact hv)
  exact ⟨q, by rw [← hq]; congr 1; simp only; omega⟩
theorem Holds.up {A : HP} {a : Addr} {L : List Value} {l : List HP} {i : Nat} (r : Holds A a L) (e : nth l i = some A) : Holds (seps l) a L := fun h hs => by
  obtain ⟨h1, a1, l1⟩ := seps_nth hs e
  obtain ⟨sp, hp⟩ := r h1 a1
  exact ⟨sp, fun i v hv => (hp i v hv).imp fun q hq => l1 _ _ _ hq⟩
theorem Holds.rdb {α : Type} {c : Cod α} {A : HP} {a : Addr} {xs : List α} {k : Nat} (r : Holds A a (xs.flatMap c.enc)) : Rdb A c ⟨some a, xs.length, k⟩ xs := fun h ha => by
  obtain ⟨sp, hp⟩ := r h ha
  refine ⟨rfl, fun _ => ⟨a, rfl⟩, fun i x a' hx ha' => ?_⟩
  cases ha'
  exact ⟨sp, fun j v hv => hp _ _ (flat_get hx hv)⟩
theorem rdF_holds {W w : World} {Hs : List HP} {i : Nat} {A : HP} {a : Addr} {L : List Value} (s : Ss W Hs w) (e : nth Hs i = some A) (r : Holds A a L) : rdF w a 0 L.length = some L := by
  obtain ⟨hb, h, hs, hw⟩ := s
  obtain ⟨h1, a1, l1⟩ := seps_nth hs e
  obtain ⟨sp, hp⟩ := r h1 a1
  refine rdF_of _ _ _ rfl fun j hj => ?_
  rw [Nat.zero_add, addr_add sp]
  obtain ⟨q, hq⟩ := hp j _ (List.getElem?_eq_getElem hj)
  rw [List.getElem?_eq_getElem hj]
  exact (hw _ _ _ (l1 _ _ _ hq)).cell
theorem PH.le_refl (h : PH) : h.le h := fun _ _ _ e => e
theorem eqv_true {α : Type} {x y : α} : eqv x y = true ↔ x = y := by simp [eqv]
theorem eqv_of {α : Type} {x y : α} {b : Bool} (h : b = true ↔ x = y) : eqv x y = b := by
  cases b with
  | true => exact eqv_true.2 (h.1 rfl)
  | false =>
    cases h' : eqv x y with
    | false => rfl
    | true => exact absurd (h.2 (eqv_true.1 h')) (by simp)
theorem eqv_refl {α : Type} (x : α) : eqv x x = true := by simp [eqv]
theorem Rdb.drop {α : Type} {A : HP} {c : Cod α} {s : Sl} {xs : List α} (r : Rdb A c s xs) {k : Nat} (hk : k ≤ xs.length) (hc : s.len ≤ s.cap) : Rdb A c ⟨if s.cap = k then s.a else s.a.map (·.add (k * c.n)), s.len - k, s.cap - k⟩ (xs.drop k) := by
  intro h hA
  obtain ⟨h1, h2, h3⟩ := r h hA
  refine ⟨by simp only [List.length_drop]; omega, fun hne => ?_, fun i x a hx ha => ?_⟩
  · have hl : k < xs.length := by
      rcases Nat.lt_or_ge k xs.length with h | h
      · exact h
      · exact absurd (List.drop_eq_nil_of_le h) hne
    obtain ⟨a, ha⟩ := h2 (fun e => by rw [e] at hl; simp at hl)
    exact ⟨a.add (k * c.n), by simp only; rw [if_neg (by omega), ha]; rfl⟩
  · rw [List.getElem?_drop] at hx
    have hl := (List.getElem?_eq_some_iff.1 hx).1
    simp only at ha
    rw [if_neg (by omega)] at ha
    obtain ⟨a', ha', rfl⟩ := Option.map_eq_some_iff.1 ha
    obtain ⟨sp, h4⟩ := h3 _ x a' hx ha'
    rw [addr_add sp]
    refine ⟨rfl, fun j v hv => ?_⟩
    obtain ⟨q, hq⟩ := h4 j v hv
    exact ⟨q, by rw [← hq]; congr 1; simp only [Nat.add_mul]; omega⟩
namespace WP
variable {α β : Type} {w : World}
theorem cutsuf {sl : Sl} {n : Nat} {k : Int} {f : Sl → M β} {Q : β → World → Prop} (h0 : 0 ≤ k) (h1 : k ≤ sl.len) (h2 : sl.len ≤ sl.cap) (g : WP (f ⟨if sl.cap = k.toNat then sl.a else sl.a.map (·.add (k.toNat * n)), sl.len - k.toNat, sl.cap - k.toNat⟩) w Q) : WP (Lx.cut n sl (some k) none none >>= f) w Q := by
  refine bind ⟨_, w, ?_, g⟩
  unfold Lx.cut
  simp only [Option.getD_none, Option.getD_some]
  rw [if_pos (by omega)]
  simp
theorem ldh {W : World} {Hs : List HP} {A : HP} {a p : Addr} {c : Cod α} {x : α} {f : α → M β} {Q : β → World → Prop} (s : Ss W Hs w) (i : Nat) (e : nth Hs i = some A) (r : Holds A a (c.enc x)) (hp : p = a) (k : WP (f x) w Q) : WP (Lx.ld c p >>= f) w Q := by
  subst hp
  refine bind ⟨x, w, ?_, k⟩
  unfold Lx.ld
  have := rdF_holds s e r
  rw [c.len] at this
  rw [this]
  simp [c.de]
theorem sameh {W : World} {Hs : List HP} {A : HP} {a p : Addr} {c : Cod α} {x : α} {f : Unit → M β} {Q : β → World → Prop} (s : Ss W Hs w) (i : Nat) (e : nth Hs i = some A) (r : Holds A a (c.enc x)) (hp : p = a) (k : WP (f ()) w Q) : WP (Lx.same c p x >>= f) w Q := by
  subst hp
  refine bind ⟨(), w, ?_, k⟩
  unfold Lx.same
  have := rdF_holds s e r
  rw [c.len] at this
  rw [if_pos]
  unfold Lx.ld
  rw [this]
  simp [c.de]
theorem mentry {κ ν : Type} {W : World} {Hs : List HP} {ck : Cod κ} {cv : Cod ν} {b it : Nat} {kvs done : List (κ × ν)} {k : κ} {x : ν} {f : κ × ν → M β} {Q : β → World → Prop} (s : Ss W Hs w) (i : Nat) (e : nth Hs i = some (itH ck cv b it kvs (done ++ [(k, x)]))) (g : WP (f (k, x)) w Q) : WP (Lx.mentry ck cv it >>= f) w Q := by
  obtain ⟨⟨⟨l, cl⟩, vis⟩, ⟨g1, g2, g3, g4, g5⟩, s2⟩ := s.openx i e
  simp only at g1 g2 g3 g4 g5 s2
  have s3 := (s2.perm (up_perm e)).split
  have hm : w.heap[b]? = some (.map (ents ck cv l) cl) := s3.mp_at (i := 0) rfl
  have hi : w.heap[it]? = some (.mapIter (some b) cl (vis.map (·.2.2)).toArray cl) := s3.mp_at (i := 1) rfl
  obtain ⟨vis', v, rfl, hv1, hv2⟩ : ∃ vis' v, vis = vis' ++ [v] ∧ vis'.map kv = done ∧ kv v = (k, x) := by
    obtain ⟨l1, l2, h1, h2, h3⟩ := List.map_eq_append_iff.1 g5
    cases l2 with
    | nil => simp at h3
    | cons v l2 =>
      simp only [List.map_cons, List.cons.injEq, List.map_eq_nil_iff] at h3
      obtain ⟨h3, rfl⟩ := h3
      exact ⟨l1, v, h1, h2, h3⟩
  obtain ⟨k', x', n⟩ := v
  obtain ⟨rfl, rfl⟩ : k' = k ∧ x' = x := by
    have : (k', x') = (k, x) := hv2
    cases this
    exact ⟨rfl, rfl⟩
  have hmem : (k', x', n) ∈ l := g3 _ (by simp)
  have hf : l.find? (fun e => e.2.2 == n) = some (k', x', n) := by
    have : ∃ y, l.find? (fun e => e.2.2 == n) = some y := by
      cases h : l.find? (fun e => e.2.2 == n) with
      | some y => exact ⟨y, rfl⟩
      | none =>
        rw [List.find?_eq_none] at h
        exact absurd (by simp) (h _ hmem)
    obtain ⟨y, hy⟩ := this
    rw [hy]
    have h1 := List.find?_some hy
    have h2 := List.mem_of_find?_eq_some hy
    simp only [beq_iff_eq] at h1
    rw [g1.same_born h2 hmem h1]
  refine bind ⟨(k', x'), w, ?_, g⟩
  unfold Lx.mentry
  have hb : ((vis' ++ [(k', x', n)]).map (·.2.2)).toArray.back? = some n := by simp
  simp only [hi, hb, hm, mtyp_ents, Option.bind_some, bne_self_eq_false, Bool.false_eq_true, if_false, hf, Option.map_some]
theorem applW {W : World} {Hs : List HP} {E : TypeId} {by_ : Nat} {c : Cod α} {z : α} {sl : Sl} {l sp xs : List α} {f : Sl → M β} {Q : β → World → Prop} (s : Ss W Hs w) (i : Nat) (e : nth Hs i = some (vec c sl l sp)) (hb : ((l.length + xs.length) + (l.length + xs.length) / 4 + 192) * by_ ≤ 281474976710656) (h0 : 0 < by_)
    (k : ∀ r w' sp', Ss W (up Hs i (vec c r (l ++ xs) sp')) w' → WP (f r) w' Q) : WP (Lx.appl c E by_ z sl xs >>= f) w Q := by
  obtain ⟨e1, e2, e3⟩ := s.vec_len e
  obtain ⟨a, n, cap⟩ := sl
  simp only at e1 e2 e3
  subst e1
  subst e2
  by_cases hc : l.length + xs.length ≤ l.length + sp.length
  · cases a with
    | none =>
      obtain ⟨rfl, rfl⟩ := e3 rfl
      have : xs = [] := by cases xs; rfl; simp at hc
      subst this
      refine bind ⟨_, w, ?_, k ⟨none, 0, 0⟩ w [] (s.close e (fun h hv => vec_nil))⟩
      simp [Lx.appl, grow]
    | some a =>
      obtain ⟨a', e4, s2⟩ := s.vec_open e (.inr (by simp))
      cases e4
      obtain ⟨w', h1, h2⟩ := wrF_pts s2 (up_nth e) (vec_upd c l xs sp (by omega))
      rw [up_up] at h2
      refine bind ⟨⟨some a, l.length + xs.length, l.length + sp.length⟩, w', ?_, k _ w' (sp.drop xs.length) ?_⟩
      · unfold Lx.appl grow
        rw [plain_flat]
        simp only [Bool.not_true, Bool.false_eq_true, if_false]
        rw [if_pos hc, h1]
        rfl
      · refine (h2.close (up_nth e) (fun h hp => ?_)) |> fun s => up_up ▸ s
        exact ⟨by simp, by simp; omega, hp⟩
  · have hneed : l.length + sp.length < l.length + xs.length := by omega
    obtain ⟨old, ho, hold⟩ : ∃ old, rdR w a (l.length * c.n) = some old ∧ old = l.flatMap c.enc := by
      cases a with
      | none =>
        obtain ⟨rfl, rfl⟩ := e3 rfl
        exact ⟨[], by simp [rdR], rfl⟩
      | some a =>
        obtain ⟨a', e4, s2⟩ := s.vec_open e (.inr (by simp))
        cases e4
        have hat : At ((l ++ sp).flatMap c.enc) 0 (l.flatMap c.enc) := ⟨[], sp.flatMap c.enc, by simp, rfl⟩
        have := rdF_pts s2 (up_nth e) hat
        rw [flat_len] at this
        exact ⟨_, this, rfl⟩
    subst hold
    have hg : Builtin.nextslicecap (l.length + xs.length) (l.length + sp.length) * by_ ≤ 281474976710656 := growslice_fits_wide hneed hb
    generalize hcap : (Question.appendCap (l.length + xs.length) (l.length + sp.length) E).cut (w.tape w.drawn (.appendCap (l.length + xs.length) (l.length + sp.length) E)) = cap'
    have hcap' : l.length + xs.length ≤ cap' := by rw [← hcap]; exact Nat.le_add_right _ _
    refine bind ⟨⟨some (pt w.heap.size 0), l.length + xs.length, cap'⟩, w.drew.alloc (.cells (l.flatMap c.enc ++ xs.flatMap c.enc ++ (Builtin.zeroCells (c.enc z).toArray (cap' - (l.length + xs.length))).toList).toArray E), ?_, k _ _ (List.replicate (cap' - (l.length + xs.length)) z) ?_⟩
    · unfold Lx.appl grow
      rw [plain_flat]
      simp only [Bool.not_true, Bool.false_eq_true, if_false]
      rw [if_neg hc, if_neg (fun h => by omega), if_neg (show ¬ Builtin.nextslicecap (l.length + xs.length) (l.length + sp.length) * by_ > 2 ^ 48 by simpa using hg), ho, hcap]
      rfl
    · rw [zeros_flat]
      have s3 := (s.drew.new (l.flatMap c.enc ++ xs.flatMap c.enc ++ (List.replicate (cap' - (l.length + xs.length)) z).flatMap c.enc) E).first (B := vec c ⟨some (pt w.heap.size 0), l.length + xs.length, cap'⟩ (l ++ xs) (List.replicate (cap' - (l.length + xs.length)) z)) (fun h hp => ⟨by simp, by simp; omega, by simpa [List.flatMap_append] using hp⟩)
      refine Ss.perm (l := vec c ⟨some (pt w.heap.size 0), l.length + xs.length, cap'⟩ (l ++ xs) (List.replicate (cap' - (l.length + xs.length)) z) :: wo Hs i) ?_ (up_perm e).symm
      have s4 := s3.perm (((nth_perm e).cons _).trans (List.Perm.swap _ _ _))
      exact s4.drop
theorem appl0W {W : World} {Hs : List HP} {c : Cod α} {xs : List α} {E : TypeId} {by_ : Nat} {z : α} {f : Sl → M β} {Q : β → World → Prop} (s : Ss W Hs w) (hb : (xs.length + xs.length / 4 + 192) * by_ ≤ 281474976710656) (h0 : 0 < by_)
    (k : ∀ r w' sp', Ss W (vec c r xs sp' :: Hs) w' → WP (f r) w' Q) : WP (Lx.appl c E by_ z Sl.nil xs >>= f) w Q :=
  applW (s.mk0 (A := vec c Sl.nil [] []) vec_nil) 0 rfl (by simpa using hb) h0 (fun r w' sp' s => k r w' sp' s)
end WP
end Go.Proofs.Ytlkhijflgbobjaa.Lx
