/- The machine 'Lx', places: reading out of places that are not opened; a walk's entry; places that are said together. -/
import Derived.Test.YtlkhijflgbobjaaLxN
import Derived.Test.YtlkhijflgbobjaaLxY
import Derived.Deep.DeepAppendWide
set_option linter.unusedVariables false
set_option linter.unusedSimpArgs false
namespace Go.Proofs.Ytlkhijflgbobjaa.Lx
open Go Go.RowKit
def Holds (A : HP) (a : Addr) (L : List Value) : Prop := ∀ h, A h → a.spot = none ∧ ∀ i v, L[i]? = some v → ∃ q, h a.block (a.off + i) = some (q, .v v)
theorem Holds.pts {q : Bool} {a : Addr} {L : List Value} : Holds (Lx.pts q a L) a L := fun h ⟨sp, hp⟩ => ⟨sp, fun i v hv => ⟨q, hp i v hv⟩⟩
theorem Holds.at_ {A : HP} {a : Addr} {L m : List Value} {o : Nat} (r : Holds A a L) (e : At L o m) : Holds A (a.add o) m := fun h ha => by
  obtain ⟨sp, hp⟩ := r h ha
  rw [addr_add sp]
  refine ⟨rfl, fun i v hv => ?_⟩
  obtain ⟨p, s, rfl, rfl⟩ := e
  obtain ⟨q, hq⟩ := hp (p.length + i) v (by
    have hi := (List.getElem?_eq_some_iff.1 hv).1
    rw [List.append_assoc, List.getElem?_append_right (by omega), Nat.add_sub_cancel_left, List.getElem?_append_left hi]
    exact hv)
  exact ⟨q, by rw [← hq]; congr 1; simp only; omega⟩
theorem Holds.up {A : HP} {a : Addr} {L : List Value} {l : List HP} {i : Nat} (r : Holds A a L) (e : nth l i = some A) : Holds (seps l) a L := fun h hs => by
  obtain ⟨h1, a1, l1⟩ := seps_nth hs e
  obtain ⟨sp, hp⟩ := r h1 a1
  exact ⟨sp, fun i v hv => (hp i v hv).imp fun q hq => l1 _ _ _ hq⟩
theorem Holds.rdb {α : Type} {c : Cod α} {A : HP} {a : Addr} {xs : List α} {k : Nat} (r : Holds A a (xs.flatMap c.enc)) : Rdb A c ⟨some a, xs.length, k⟩ xs := fun h ha => by
  obtain ⟨sp, hp⟩ := r h ha
  refine ⟨rfl, fun _ => ⟨a, rfl⟩, fun i x a' hx ha' => ?_⟩
  cases ha'
  exact ⟨sp, fun j v hv => hp _ _ (flat_get hx hv)⟩
theorem rdF_holds {W w : World} {Hs : List HP} {i : Nat} {A : HP} {a : Addr} {L : List Value} (s : Ss W Hs w) (e : nth Hs i = some A) (r : Holds A a L) : rdF w a 0 L.length = some L := by
  obtain ⟨hb, h, hs, hw⟩ := s
  obtain ⟨h1, a1, l1⟩ := seps_nth hs e
  obtain ⟨sp, hp⟩ := r h1 a1
  refine rdF_of _ _ _ rfl fun j hj => ?_
  rw [Nat.zero_add, addr_add sp]
  obtain ⟨q, hq⟩ := hp j _ (List.getElem?_eq_getElem hj)
  rw [List.getElem?_eq_getElem hj]
  exact (hw _ _ _ (l1 _ _ _ hq)).cell
theorem Ss.merge {W w : World} {A B C : HP} {Hs : List HP} (s : Ss W (A :: B :: Hs) w) (f : ∀ h1 h2 h : PH, h1.le h → h2.le h → A h1 → B h2 → C h) : Ss W (C :: Hs) w := by
  have s1 : Ss W ([A, B] ++ Hs) w := s
  refine s1.group.first fun h hh => ?_
  obtain ⟨h1, h2, _, l1, l2, a, h3, h4, _, l3, _, b, _⟩ := hh
  exact f h1 h3 h l1 (l3.trans l2) a b
theorem PH.le_refl (h : PH) : h.le h := fun _ _ _ e => e
theorem pts_up {q : Bool} {a : Addr} {L : List Value} {h k : PH} (e : h.le k) (hp : pts q a L h) : pts q a L k := ⟨hp.1, fun i x hx => e _ _ _ (hp.2 i x hx)⟩
theorem rdS_up {α : Type} {c : Cod α} {q : Bool} {s : Sl} {xs : List α} {h k : PH} (e : h.le k) (hp : rdS c q s xs h) : rdS c q s xs k := ⟨hp.1, hp.2.1, hp.2.2.1, fun a ha hne => pts_up e (hp.2.2.2 a ha hne)⟩
theorem eqv_true {α : Type} {x y : α} : eqv x y = true ↔ x = y := by simp [eqv]
theorem eqv_of {α : Type} {x y : α} {b : Bool} (h : b = true ↔ x = y) : eqv x y = b := by
  cases b with
  | true => exact eqv_true.2 (h.1 rfl)
  | false =>
    cases h' : eqv x y with
    | false => rfl
    | true => exact absurd (h.2 (eqv_true.1 h')) (by simp)
theorem eqv_refl {α : Type} (x : α) : eqv x x = true := by simp [eqv]
theorem Rdb.drop {α : Type} {A : HP} {c : Cod α} {s : Sl} {xs : List α} (r : Rdb A c s xs) {k : Nat} (hk : k ≤ xs.length) (hc : s.len ≤ s.cap) : Rdb A c ⟨if s.cap = k then s.a else s.a.map (·.add (k * c.n)), s.len - k, s.cap - k⟩ (xs.drop k) := by
  intro h hA
  obtain ⟨h1, h2, h3⟩ := r h hA
  refine ⟨by simp only [List.length_drop]; omega, fun hne => ?_, fun i x a hx ha => ?_⟩
  · have hl : k < xs.length := by
      rcases Nat.lt_or_ge k xs.length with h | h
      · exact h
      · exact absurd (List.drop_eq_nil_of_le h) hne
    obtain ⟨a, ha⟩ := h2 (fun e => by rw [e] at hl; simp at hl)
    exact ⟨a.add (k * c.n), by simp only; rw [if_neg (by omega), ha]; rfl⟩
  · rw [List.getElem?_drop] at hx
    have hl := (List.getElem?_eq_some_iff.1 hx).1
    simp only at ha
    rw [if_neg (by omega)] at ha
    obtain ⟨a', ha', rfl⟩ := Option.map_eq_some_iff.1 ha
    obtain ⟨sp, h4⟩ := h3 _ x a' hx ha'
    rw [addr_add sp]
    refine ⟨rfl, fun j v hv => ?_⟩
    obtain ⟨q, hq⟩ := h4 j v hv
    exact ⟨q, by rw [← hq]; congr 1; simp only [Nat.add_mul]; omega⟩
namespace WP
variable {α β : Type} {w : World}
theorem ldh {W : World} {Hs : List HP} {A : HP} {a p : Addr} {c : Cod α} {x : α} {f : α → M β} {Q : β → World → Prop} (s : Ss W Hs w) (i : Nat) (e : nth Hs i = some A) (r : Holds A a (c.enc x)) (hp : p = a) (k : WP (f x) w Q) : WP (Lx.ld c p >>= f) w Q := by
  subst hp
  refine bind ⟨x, w, ?_, k⟩
  unfold Lx.ld
  have := rdF_holds s e r
  rw [c.len] at this
  rw [this]
  simp [c.de]
theorem mentry {κ ν : Type} {W : World} {Hs : List HP} {ck : Cod κ} {cv : Cod ν} {b it : Nat} {kvs done : List (κ × ν)} {k : κ} {x : ν} {f : κ × ν → M β} {Q : β → World → Prop} (s : Ss W Hs w) (i : Nat) (e : nth Hs i = some (itH ck cv b it kvs (done ++ [(k, x)]))) (g : WP (f (k, x)) w Q) : WP (Lx.mentry ck cv it >>= f) w Q := by
  obtain ⟨⟨⟨l, cl⟩, vis⟩, ⟨g1, g2, g3, g4, g5⟩, s2⟩ := s.openx i e
  simp only at g1 g2 g3 g4 g5 s2
  have s3 := (s2.perm (up_perm e)).split
  have hm : w.heap[b]? = some (.map (ents ck cv l) cl) := s3.mp_at (i := 0) rfl
  have hi : w.heap[it]? = some (.mapIter (some b) cl (vis.map (·.2.2)).toArray cl) := s3.mp_at (i := 1) rfl
  obtain ⟨vis', v, rfl, hv1, hv2⟩ : ∃ vis' v, vis = vis' ++ [v] ∧ vis'.map kv = done ∧ kv v = (k, x) := by
    obtain ⟨l1, l2, h1, h2, h3⟩ := List.map_eq_append_iff.1 g5
    cases l2 with
    | nil => simp at h3
    | cons v l2 =>
      simp only [List.map_cons, List.cons.injEq, List.map_eq_nil_iff] at h3
      obtain ⟨h3, rfl⟩ := h3
      exact ⟨l1, v, h1, h2, h3⟩
  obtain ⟨k', x', n⟩ := v
  obtain ⟨rfl, rfl⟩ : k' = k ∧ x' = x := by
    have : (k', x') = (k, x) := hv2
    cases this
    exact ⟨rfl, rfl⟩
  have hmem : (k', x', n) ∈ l := g3 _ (by simp)
  have hf : l.find? (fun e => e.2.2 == n) = some (k', x', n) := by
    have : ∃ y, l.find? (fun e => e.2.2 == n) = some y := by
      cases h : l.find? (fun e => e.2.2 == n) with
      | some y => exact ⟨y, rfl⟩
      | none =>
        rw [List.find?_eq_none] at h
        exact absurd (by simp) (h _ hmem)
    obtain ⟨y, hy⟩ := this
    rw [hy]
    have h1 := List.find?_some hy
    have h2 := List.mem_of_find?_eq_some hy
    simp only [beq_iff_eq] at h1
    rw [g1.same_born h2 hmem h1]
  refine bind ⟨(k', x'), w, ?_, g⟩
  unfold Lx.mentry
  have hb : ((vis' ++ [(k', x', n)]).map (·.2.2)).toArray.back? = some n := by simp
  simp only [hi, hb, hm, mtyp_ents, Option.bind_some, bne_self_eq_false, Bool.false_eq_true, if_false, hf, Option.map_some]
end WP
end Go.Proofs.Ytlkhijflgbobjaa.Lx
