/- The machine 'Lx', maps as places: what they hold, and rules for the words that make, ask, change and go through them. -/
import Derived.Test.YtlkhijflgbobjaaLxX
import Derived.Test.YtlkhijflgbobjaaLxM
set_option linter.unusedVariables false
set_option linter.unusedSimpArgs false
namespace Go.Proofs.Ytlkhijflgbobjaa.Lx
open Go Go.RowKit
theorem Ss.newm {W w : World} {l : List HP} (s : Ss W l w) (o : MO) : Ss W (mp true w.heap.size o :: l) (w.alloc o.obj) := by
  obtain ⟨b1, k, hs, hw⟩ := s.alloc o.obj
  obtain ⟨b0, k0, hs0, hw0⟩ := s
  let n : PH := fun b i => if b = w.heap.size ∧ i = 0 then some (true, .m o) else none
  have hok : n.ok k0 := fun b i x y hx hy => by
    have := (hw0 b i y hy).lt
    simp only [n] at hx
    rw [if_neg (by omega)] at hx
    cases hx
  refine ⟨b1, n.add k0, ⟨n, k0, hok, PH.le_add, PH.le_add' hok, by simp [mp, n], hs0⟩, fun b i x hx => ?_⟩
  rcases PH.add_some.1 hx with hx' | ⟨_, hx'⟩
  · simp only [n] at hx'
    split at hx'
    · rename_i hb
      obtain ⟨rfl, rfl⟩ := hb
      cases hx'
      exact ⟨b0.size, rfl, heap_alloc_new _ _⟩
    · cases hx'
  · have h1 := hw0 b i x hx'
    have e : (w.alloc o.obj).heap[b]? = w.heap[b]? := heap_alloc_old _ _ h1.lt
    rcases x with ⟨q, x | mo⟩ <;> cases q
    · show (w.alloc _).cell? _ = _
      have h2 : w.cell? ⟨b, i, none⟩ = some x := h1
      unfold World.cell? at h2 ⊢
      simp only [e]
      exact h2
    · obtain ⟨c1, cs, T', c2, c3⟩ := h1
      exact ⟨c1, cs, T', e.trans c2, c3⟩
    · exact ⟨h1.1, e.trans h1.2⟩
    · exact ⟨h1.1, h1.2.1, e.trans h1.2.2⟩
theorem Ss.mp_at {W w : World} {l : List HP} {i b : Nat} {q : Bool} {o : MO} (s : Ss W l w) (e : nth l i = some (mp q b o)) : w.heap[b]? = some o.obj := by
  obtain ⟨_, k, hs, hw⟩ := s
  obtain ⟨h1, a, l1⟩ := seps_nth hs e
  have := hw b 0 _ (l1 _ _ _ a)
  cases q
  · exact this.2
  · exact this.2.2
theorem Ss.setm {W w : World} {l : List HP} {b : Nat} {o : MO} (s : Ss W (mp true b o :: l) w) (o' : MO) : Ss W (mp true b o' :: l) (wput w b o'.obj) := by
  obtain ⟨b0, k, ⟨h1, h2, ok, l1, l2, hp, hr⟩, hw⟩ := s
  obtain ⟨hB, -, hh⟩ := hw _ _ _ (l1 _ _ _ hp)
  have hlt : b < w.heap.size := (Array.getElem?_eq_some_iff.1 hh).1
  have hsz : (wput w b o'.obj).heap.size = w.heap.size := by simp [wput]
  have hb' : (wput w b o'.obj).heap[b]? = some o'.obj := by rw [heap_wput, if_pos ⟨rfl, hlt⟩]
  have ho : ∀ c, c ≠ b → (wput w b o'.obj).heap[c]? = w.heap[c]? := fun c hc => by rw [heap_wput, if_neg (fun e => hc e.1.symm)]
  have n2 : h2 b 0 = none := by
    cases h : h2 b 0 with
    | none => rfl
    | some z => exact absurd (ok _ _ _ _ hp h).2 (by simp)
  let n1 : PH := fun c i => if c = b ∧ i = 0 then some (true, .m o') else none
  have hn2 : n1.ok h2 := fun c i x y hx hy => by
    simp only [n1] at hx
    split at hx
    · rename_i hc
      obtain ⟨rfl, rfl⟩ := hc
      rw [n2] at hy
      cases hy
    · cases hx
  refine ⟨⟨b0.os, b0.tape, b0.output, by rw [hsz]; exact b0.size, fun c hc => by rw [ho c (by omega)]; exact b0.block c hc⟩, n1.add h2, ⟨n1, h2, hn2, PH.le_add, PH.le_add' hn2, by simp [mp, n1], hr⟩, fun c i x hx => ?_⟩
  rcases PH.add_some.1 hx with hx' | ⟨_, hx'⟩
  · simp only [n1] at hx'
    split at hx'
    · rename_i hc
      obtain ⟨rfl, rfl⟩ := hc
      cases hx'
      exact ⟨hB, rfl, hb'⟩
    · cases hx'
  · have h3 := hw c i x (l2 _ _ _ hx')
    by_cases hc : c = b
    · subst hc
      rcases x with ⟨q, x | mo⟩ <;> cases q
      · have h4 : w.cell? ⟨c, i, none⟩ = some x := h3
        unfold World.cell? at h4
        simp only [hh] at h4
        cases o <;> cases h4
      · obtain ⟨_, cs, T, h5, _⟩ := h3
        rw [hh] at h5
        cases o <;> cases h5
      · obtain ⟨rfl, _⟩ := h3
        rw [n2] at hx'
        cases hx'
      · obtain ⟨_, rfl, _⟩ := h3
        rw [n2] at hx'
        cases hx'
    · have e := ho c hc
      rcases x with ⟨q, x | mo⟩ <;> cases q
      · show World.cell? _ _ = _
        have h4 : w.cell? ⟨c, i, none⟩ = some x := h3
        unfold World.cell? at h4 ⊢
        simp only [e]
        exact h4
      · obtain ⟨c1, cs, T', c2, c3⟩ := h3
        exact ⟨c1, cs, T', e.trans c2, c3⟩
      · exact ⟨h3.1, e.trans h3.2⟩
      · exact ⟨h3.1, h3.2.1, e.trans h3.2.2⟩
theorem Ss.setmi {W w : World} {l : List HP} {i b : Nat} {o : MO} (s : Ss W l w) (e : nth l i = some (mp true b o)) (o' : MO) : Ss W (up l i (mp true b o')) (wput w b o'.obj) := ((s.perm (nth_perm e)).setm o').perm (up_perm e).symm
variable {κ ν : Type}
structure Mw (l : List (κ × ν × Nat)) (cl : Nat) : Prop where
  keys : (l.map (·.1)).Nodup
  born : l.Pairwise fun a b => a.2.2 < b.2.2
  lt : ∀ e ∈ l, e.2.2 < cl
def kv (e : κ × ν × Nat) : κ × ν := (e.1, e.2.1)
theorem Mw.nil {cl : Nat} : Mw ([] : List (κ × ν × Nat)) cl := ⟨by simp, by simp, by simp⟩
theorem Mw.same {l : List (κ × ν × Nat)} {cl : Nat} (h : Mw l cl) {a b : κ × ν × Nat} (ha : a ∈ l) (hb : b ∈ l) (e : a.1 = b.1) : a = b := by
  have h1 := h.keys
  clear h
  induction l with
  | nil => cases ha
  | cons x l ih =>
    simp only [List.map_cons, List.nodup_cons, List.mem_map] at h1
    rcases List.mem_cons.1 ha with ea | ha' <;> rcases List.mem_cons.1 hb with eb | hb'
    · rw [ea, eb]
    · subst ea; exact absurd ⟨b, hb', e.symm⟩ h1.1
    · subst eb; exact absurd ⟨a, ha', e⟩ h1.1
    · exact ih ha' hb' h1.2
theorem Mw.same_born {l : List (κ × ν × Nat)} {cl : Nat} (h : Mw l cl) {a b : κ × ν × Nat} (ha : a ∈ l) (hb : b ∈ l) (e : a.2.2 = b.2.2) : a = b := by
  have h1 := h.born
  clear h
  induction l with
  | nil => cases ha
  | cons x l ih =>
    simp only [List.pairwise_cons] at h1
    rcases List.mem_cons.1 ha with ea | ha' <;> rcases List.mem_cons.1 hb with eb | hb'
    · rw [ea, eb]
    · subst ea; exact absurd (h1.1 b hb') (by omega)
    · subst eb; exact absurd (h1.1 a ha') (by omega)
    · exact ih ha' hb' h1.2
theorem mfind_some {l : List (κ × ν × Nat)} {cl : Nat} (h : Mw l cl) {e : κ × ν × Nat} (he : e ∈ l) : mfind l e.1 = some e := by
  unfold mfind
  cases hf : l.find? (fun x => eqv x.1 e.1) with
  | none =>
    rw [List.find?_eq_none] at hf
    exact absurd (eqv_iff.2 rfl) (hf e he)
  | some x =>
    have h1 := List.find?_some hf
    rw [eqv_iff] at h1
    exact congrArg some (h.same (List.mem_of_find?_eq_some hf) he h1)
theorem mfind_none {l : List (κ × ν × Nat)} {k : κ} (h : ∀ e ∈ l, e.1 ≠ k) : mfind l k = none := by
  unfold mfind
  rw [List.find?_eq_none]
  intro e he
  rw [eqv_iff]
  exact h e he
theorem mplace_none {l : List (κ × ν × Nat)} {k : κ} (h : ∀ e ∈ l, e.1 ≠ k) : mplace l k = none := by
  unfold mplace
  rw [List.findIdx?_eq_none_iff]
  intro e he
  cases hq : eqv e.1 k with
  | false => rfl
  | true => exact absurd (eqv_iff.1 hq) (h e he)
theorem mplace_some {l : List (κ × ν × Nat)} {cl : Nat} (h : Mw l cl) {e : κ × ν × Nat} (he : e ∈ l) : ∃ j, mplace l e.1 = some j ∧ l[j]? = some e := by
  have h1 := mfind_some h he
  rw [mfind_place] at h1
  cases hp : mplace l e.1 with
  | none => rw [hp] at h1; cases h1
  | some j =>
    rw [hp] at h1
    exact ⟨j, rfl, h1⟩
theorem Mw.push {l : List (κ × ν × Nat)} {cl : Nat} (h : Mw l cl) {k : κ} (x : ν) (hk : ∀ e ∈ l, e.1 ≠ k) : Mw (l ++ [(k, x, cl)]) (cl + 1) := by
  refine ⟨?_, ?_, ?_⟩
  · rw [List.map_append, List.nodup_append]
    refine ⟨h.keys, by simp, ?_⟩
    intro a ha b hb e
    obtain ⟨y, hy, rfl⟩ := List.mem_map.1 ha
    simp only [List.map_cons, List.map_nil, List.mem_singleton] at hb
    exact hk y hy (e.trans hb)
  · rw [List.pairwise_append]
    refine ⟨h.born, by simp, ?_⟩
    intro a ha b hb
    simp only [List.mem_singleton] at hb
    subst hb
    exact h.lt a ha
  · intro e he
    rcases List.mem_append.1 he with he | he
    · exact Nat.lt_succ_of_lt (h.lt e he)
    · simp only [List.mem_singleton] at he
      subst he
      exact Nat.lt_succ_self _
theorem Mw.sub {l m : List (κ × ν × Nat)} {cl : Nat} (h : Mw l cl) (s : m.Sublist l) : Mw m cl :=
  ⟨h.keys.sublist (s.map _), h.born.sublist s, fun e he => h.lt e (s.subset he)⟩
theorem erase_perm {α : Type} : ∀ {l : List α} {j : Nat} {e : α}, l[j]? = some e → l.Perm (e :: l.eraseIdx j)
  | [], _, _, h => by simp at h
  | a :: l, 0, e, h => by simp at h; subst h; exact List.Perm.refl _
  | a :: l, j + 1, e, h => by
    simp only [List.getElem?_cons_succ] at h
    exact ((erase_perm h).cons a).trans (List.Perm.swap _ _ _)
def mapH (ck : Cod κ) (cv : Cod ν) (b : Nat) (kvs : List (κ × ν)) : HP := ex (fun p : List (κ × ν × Nat) × Nat => Mw p.1 p.2 ∧ (p.1.map kv).Perm kvs) (fun p => mp true b (.map (ents ck cv p.1) p.2))
theorem mapH_perm {ck : Cod κ} {cv : Cod ν} {b : Nat} {kvs kvs' : List (κ × ν)} (p : kvs.Perm kvs') : ∀ h, mapH ck cv b kvs h → mapH ck cv b kvs' h := fun h ⟨x, ⟨h1, h2⟩, h3⟩ => ⟨x, ⟨h1, h2.trans p⟩, h3⟩
def itH (ck : Cod κ) (cv : Cod ν) (b it : Nat) (kvs done : List (κ × ν)) : HP := ex (fun p : (List (κ × ν × Nat) × Nat) × List (κ × ν × Nat) => Mw p.1.1 p.1.2 ∧ (p.1.1.map kv).Perm kvs ∧ (∀ e ∈ p.2, e ∈ p.1.1) ∧ p.2.Nodup ∧ p.2.map kv = done) (fun p => seps [mp true b (.map (ents ck cv p.1.1) p.1.2), mp true it (.iter (some b) p.1.2 (p.2.map (·.2.2)).toArray p.1.2)])
theorem kv_mem {l : List (κ × ν × Nat)} {kvs : List (κ × ν)} (p : (l.map kv).Perm kvs) {k : κ} {x : ν} : (k, x) ∈ kvs ↔ ∃ n, (k, x, n) ∈ l := by
  rw [← p.mem_iff, List.mem_map]
  constructor
  · rintro ⟨⟨a, b, c⟩, h, e⟩
    cases e
    exact ⟨c, h⟩
  · rintro ⟨n, h⟩
    exact ⟨_, h, rfl⟩
theorem ents_size {ck : Cod κ} {cv : Cod ν} (l : List (κ × ν × Nat)) : (ents ck cv l).size = l.length := by simp [ents]
section
variable {W w : World} {Hs : List HP} {ck : Cod κ} {cv : Cod ν}
end
theorem mapAt_of {ck : Cod κ} {cv : Cod ν} {r : Nat} {w : World} {l : List (κ × ν × Nat)} {cl : Nat} (h : w.heap[r]? = some (.map (ents ck cv l) cl)) : mapAt ck cv r w = some ((l, cl), w) := by
  unfold mapAt
  rw [h]
  simp only [mtyp_ents, Option.map_some]
namespace WP
variable {β : Type} {w W : World} {Hs : List HP} {ck : Cod κ} {cv : Cod ν}
theorem mkMap {f : Nat → M β} {Q : β → World → Prop} (s : Ss W Hs w) (k : ∀ b w', Ss W (mapH ck cv b [] :: Hs) w' → WP (f b) w' Q) : WP (Lx.mkMap >>= f) w Q :=
  bind ⟨_, _, rfl, k _ _ ((s.newm (.map (ents ck cv []) 0)).first fun h hp => ⟨([], 0), ⟨Mw.nil, by simp⟩, hp⟩)⟩
theorem mget {b : Nat} {kvs : List (κ × ν)} {z : ν} {k : κ} {f : ν × Bool → M β} {Q : β → World → Prop} (s : Ss W Hs w) (i : Nat) (e : nth Hs i = some (mapH ck cv b kvs))
    (h1 : ∀ x, (k, x) ∈ kvs → WP (f (x, true)) w Q) (h0 : (∀ x, (k, x) ∉ kvs) → WP (f (z, false)) w Q) : WP (Lx.mget ck cv z (some b) k >>= f) w Q := by
  obtain ⟨⟨l, cl⟩, ⟨g1, g2⟩, s2⟩ := s.openx i e
  have hm := mapAt_of (ck := ck) (cv := cv) (s2.mp_at (up_nth e))
  by_cases hk : ∃ e ∈ l, e.1 = k
  · obtain ⟨⟨k', x, n⟩, he, rfl⟩ := hk
    have hf := mfind_some g1 he
    refine bind ⟨(x, true), w, ?_, h1 x ((kv_mem g2).2 ⟨n, he⟩)⟩
    show (mapAt ck cv b >>= _) w = _
    rw [bind_def, hm]
    have hf : mfind l k' = some (k', x, n) := hf
    simp only [Option.bind_some, hf]
    rfl
  · have hk' : ∀ e ∈ l, e.1 ≠ k := fun e he h => hk ⟨e, he, h⟩
    have hf := mfind_none hk'
    refine bind ⟨(z, false), w, ?_, h0 fun x hx => ?_⟩
    · show (mapAt ck cv b >>= _) w = _
      rw [bind_def, hm]
      have hf : mfind l k = none := hf
      simp only [Option.bind_some, hf]
      rfl
    · obtain ⟨n, hn⟩ := (kv_mem g2).1 hx
      exact hk' _ hn rfl
theorem mlen {b : Nat} {kvs : List (κ × ν)} {f : Int → M β} {Q : β → World → Prop} (s : Ss W Hs w) (i : Nat) (e : nth Hs i = some (mapH ck cv b kvs)) (k : WP (f (kvs.length : Int)) w Q) : WP (Lx.mlen (some b) >>= f) w Q := by
  obtain ⟨⟨l, cl⟩, ⟨g1, g2⟩, s2⟩ := s.openx i e
  have hm := s2.mp_at (up_nth e)
  refine bind ⟨_, w, ?_, k⟩
  unfold Lx.mlen
  simp only [hm, MO.obj, ents_size]
  rw [← g2.length_eq, List.length_map]
theorem mset {b : Nat} {kvs : List (κ × ν)} {k : κ} {x : ν} {f : Unit → M β} {Q : β → World → Prop} (s : Ss W Hs w) (i : Nat) (e : nth Hs i = some (mapH ck cv b kvs)) (hk : ∀ y, (k, y) ∉ kvs)
    (g : ∀ w', Ss W (up Hs i (mapH ck cv b (kvs ++ [(k, x)]))) w' → WP (f ()) w' Q) : WP (Lx.mset ck cv (some b) k x >>= f) w Q := by
  obtain ⟨⟨l, cl⟩, ⟨g1, g2⟩, s2⟩ := s.openx i e
  have hm := s2.mp_at (up_nth e)
  have hk' : ∀ e ∈ l, e.1 ≠ k := fun e he h => hk e.2.1 ((kv_mem g2).2 ⟨e.2.2, by rw [← h]; exact he⟩)
  have s3 := s2.setmi (up_nth e) (.map (ents ck cv (l ++ [(k, x, cl)])) (cl + 1))
  rw [up_up] at s3
  have s4 := s3.closex (φ := fun p : List (κ × ν × Nat) × Nat => Mw p.1 p.2 ∧ (p.1.map kv).Perm (kvs ++ [(k, x)])) (P := fun p => mp true b (.map (ents ck cv p.1) p.2)) i (l ++ [(k, x, cl)], cl + 1) (up_nth e) ⟨g1.push x hk', by rw [List.map_append]; exact g2.append (List.Perm.refl _)⟩
  rw [up_up] at s4
  refine bind ⟨(), _, ?_, g _ s4⟩
  unfold Lx.mset
  simp only [mapAt_of (ck := ck) (cv := cv) hm, Option.map_some, mput, mplace_none hk']
  rfl
theorem mdel {b : Nat} {kvs kvs' : List (κ × ν)} {k : κ} {x : ν} {f : Unit → M β} {Q : β → World → Prop} (s : Ss W Hs w) (i : Nat) (e : nth Hs i = some (mapH ck cv b kvs)) (hk : kvs.Perm ((k, x) :: kvs'))
    (g : ∀ w', Ss W (up Hs i (mapH ck cv b kvs')) w' → WP (f ()) w' Q) : WP (Lx.mdel ck cv (some b) k >>= f) w Q := by
  obtain ⟨⟨l, cl⟩, ⟨g1, g2⟩, s2⟩ := s.openx i e
  have hm := s2.mp_at (up_nth e)
  obtain ⟨n, hn⟩ := (kv_mem (g2.trans hk)).1 (List.mem_cons_self ..)
  obtain ⟨j, hj1, hj2⟩ := mplace_some g1 hn
  have hj1 : mplace l k = some j := hj1
  have s3 := s2.setmi (up_nth e) (.map (ents ck cv (l.eraseIdx j)) cl)
  rw [up_up] at s3
  have hp : ((l.eraseIdx j).map kv).Perm kvs' := by
    have h1 := ((erase_perm hj2).map kv).symm.trans (g2.trans hk)
    exact (List.perm_cons _).1 h1
  have s4 := s3.closex (φ := fun p : List (κ × ν × Nat) × Nat => Mw p.1 p.2 ∧ (p.1.map kv).Perm kvs') (P := fun p => mp true b (.map (ents ck cv p.1) p.2)) i (l.eraseIdx j, cl) (up_nth e) ⟨g1.sub (List.eraseIdx_sublist _ _), hp⟩
  rw [up_up] at s4
  refine bind ⟨(), _, ?_, g _ s4⟩
  unfold Lx.mdel
  simp only [mapAt_of (ck := ck) (cv := cv) hm, Option.map_some, mcut, hj1]
  rfl
theorem mrange {b : Nat} {kvs : List (κ × ν)} {f : Nat → M β} {Q : β → World → Prop} (s : Ss W Hs w) (i : Nat) (e : nth Hs i = some (mapH ck cv b kvs))
    (g : ∀ it w', Ss W (up Hs i (itH ck cv b it kvs [])) w' → WP (f it) w' Q) : WP (Lx.mrange (some b) >>= f) w Q := by
  obtain ⟨⟨l, cl⟩, ⟨g1, g2⟩, s2⟩ := s.openx i e
  have hm := s2.mp_at (up_nth e)
  have s3 := s2.newm (.iter (some b) cl #[] cl)
  have s4 := (s3.use [i + 1, 0] (s := [mp true b (.map (ents ck cv l) cl), mp true w.heap.size (.iter (some b) cl #[] cl)]) (r := wo Hs i) (by
    have e1 : nth (mp true w.heap.size (.iter (some b) cl #[] cl) :: up Hs i (mp true b (.map (ents ck cv l) cl))) (i + 1) = some (mp true b (.map (ents ck cv l) cl)) := up_nth e
    have e2 : ∀ {l : List HP} {i : Nat} {A B : HP}, nth l i = some A → wo (up l i B) i = wo l i := by
      intro l
      induction l with
      | nil => intro i A B h; cases h
      | cons x l ih =>
        intro i A B h
        cases i with
        | zero => rfl
        | succ i => exact congrArg (x :: ·) (ih h)
    simp only [sel, e1]
    simp only [wo, nth, e2 e])).group
  have s5 := (s4.first (B := itH ck cv b w.heap.size kvs []) fun h hp => ⟨((l, cl), []), ⟨g1, g2, by simp, by simp, rfl⟩, hp⟩).perm (up_perm e).symm
  refine bind ⟨_, _, ?_, g _ _ s5⟩
  unfold Lx.mrange
  simp only [hm, MO.obj]
theorem which_lt {n : Nat} {w : World} (h : 0 < n) : ∃ j w1, Lx.which n w = some (j, w1) ∧ j < n ∧ (w1 = w ∨ w1 = w.drew) := by
  unfold Lx.which
  by_cases hn : n ≤ 1
  · rw [if_pos hn]
    exact ⟨0, w, rfl, h, .inl rfl⟩
  · rw [if_neg hn]
    exact ⟨_, _, rfl, Nat.mod_lt _ h, .inr rfl⟩
theorem seen_iff {l vis : List (κ × ν × Nat)} {cl : Nat} (g1 : Mw l cl) (g3 : ∀ e ∈ vis, e ∈ l) {e : κ × ν × Nat} (he : e ∈ l) : (vis.map (·.2.2)).toArray.contains e.2.2 = true ↔ e ∈ vis := by
  simp only [List.contains_toArray, List.contains_iff_mem, List.mem_map]
  constructor
  · rintro ⟨a, ha, h⟩
    rw [← g1.same_born (g3 a ha) he h]
    exact ha
  · exact fun h => ⟨e, h, rfl⟩
theorem cands_is {l vis : List (κ × ν × Nat)} {cl : Nat} (g1 : Mw l cl) (g3 : ∀ e ∈ vis, e ∈ l) :
    (∃ m : List (κ × ν × Nat), m ≠ [] ∧ (∀ e ∈ m, e ∈ l ∧ e ∉ vis) ∧ Lx.cands (ents ck cv l) cl (vis.map (·.2.2)).toArray = (m.map fun e => some (⟨ck.val e.1, cv.val e.2.1, e.2.2⟩ : MapEntry)).toArray) ∨ ((∀ e ∈ l, e ∈ vis) ∧ Lx.cands (ents ck cv l) cl (vis.map (·.2.2)).toArray = #[none]) := by
  classical
  let P : κ × ν × Nat → Bool := fun e => !(vis.map (·.2.2)).toArray.contains e.2.2
  have hf : ((ents ck cv l).filter fun e => !(vis.map (·.2.2)).toArray.contains e.born) = ents ck cv (l.filter P) := by
    apply Array.toList_inj.1
    unfold ents
    simp only [List.filter_toArray, List.filter_map]
    rfl
  have ha : ((ents ck cv (l.filter P)).filter (fun e => e.born < cl)) = ents ck cv (l.filter P) := by
    apply Array.toList_inj.1
    unfold ents
    simp only [List.filter_toArray, List.filter_map]
    congr 1
    rw [List.filter_eq_self]
    intro e he
    have := g1.lt e (List.mem_filter.1 he).1
    simpa using this
  have hb : ((ents ck cv (l.filter P)).filter (fun e => e.born ≥ cl)) = #[] := by
    apply Array.toList_inj.1
    unfold ents
    simp only [List.filter_toArray, List.filter_map]
    have : List.filter ((fun e : MapEntry => decide (e.born ≥ cl)) ∘ fun e : κ × ν × Nat => (⟨ck.val e.1, cv.val e.2.1, e.2.2⟩ : MapEntry)) (l.filter P) = [] := by
      rw [List.filter_eq_nil_iff]
      intro e he
      have := g1.lt e (List.mem_filter.1 he).1
      simp only [Function.comp_apply, decide_eq_true_eq]
      omega
    rw [this]
    rfl
  unfold Lx.cands
  rw [hf, ha, hb]
  by_cases hn : l.filter P = []
  · right
    refine ⟨fun e he => ?_, ?_⟩
    · have h1 := (List.filter_eq_nil_iff.1 hn) e he
      have h2 : (vis.map (·.2.2)).toArray.contains e.2.2 = true := by
        cases h : (vis.map (·.2.2)).toArray.contains e.2.2 with
        | true => rfl
        | false => exact absurd (by simp only [P, h]; rfl) h1
      exact (seen_iff g1 g3 he).1 h2
    · rw [hn]
      simp [ents]
  · left
    refine ⟨l.filter P, hn, fun e he => ?_, ?_⟩
    · obtain ⟨h1, h2⟩ := List.mem_filter.1 he
      refine ⟨h1, fun h => ?_⟩
      have h3 := (seen_iff g1 g3 h1).2 h
      simp only [P, h3, Bool.not_true] at h2
      cases h2
    · cases hm : l.filter P with
      | nil => exact absurd hm hn
      | cons a m => simp [ents]
theorem mnext {b it : Nat} {kvs done : List (κ × ν)} {f : Bool × List Value → M β} {Q : β → World → Prop} (s : Ss W Hs w) (i : Nat) (e : nth Hs i = some (itH ck cv b it kvs done))
    (h1 : ∀ k x w', (k, x) ∈ kvs → (k, x) ∉ done → (done ++ [(k, x)]).Nodup → Ss W (up Hs i (itH ck cv b it kvs (done ++ [(k, x)]))) w' → WP (f (true, [ck.val k, cv.val x])) w' Q)
    (h0 : ∀ w', done.Perm kvs → Ss W (up Hs i (mapH ck cv b kvs)) w' → WP (f (false, [])) w' Q) : WP (Lx.mnext it >>= f) w Q := by
  obtain ⟨⟨⟨l, cl⟩, vis⟩, ⟨g1, g2, g3, g4, g5⟩, s2⟩ := s.openx i e
  simp only at g1 g2 g3 g4 g5 s2
  have s3 := (s2.perm (up_perm e)).split
  have hm : w.heap[b]? = some (.map (ents ck cv l) cl) := s3.mp_at (i := 0) rfl
  have hi : w.heap[it]? = some (.mapIter (some b) cl (vis.map (·.2.2)).toArray cl) := s3.mp_at (i := 1) rfl
  have hlast : (!(vis.map (·.2.2)).toArray.isEmpty && !(ents ck cv l).isEmpty && (ents ck cv l).all (·.born ≥ cl)) = false := by
    cases l with
    | nil => simp [ents]
    | cons a l =>
      have := g1.lt a (by simp)
      have : (ents ck cv (a :: l)).all (·.born ≥ cl) = false := by
        unfold ents
        simp
        intro h
        omega
      rw [this, Bool.and_false]
  have nodup_kv : ∀ m : List (κ × ν × Nat), m.Nodup → (∀ e ∈ m, e ∈ l) → (m.map kv).Nodup := by
    intro m
    induction m with
    | nil => intro _ _; simp
    | cons a m ih =>
      intro hn hs
      simp only [List.map_cons, List.nodup_cons, List.mem_map] at hn ⊢
      refine ⟨?_, ih hn.2 fun e he => hs e (List.mem_cons_of_mem _ he)⟩
      rintro ⟨c, hc, h⟩
      have : c = a := g1.same (hs c (List.mem_cons_of_mem _ hc)) (hs a (List.mem_cons_self ..)) (congrArg (fun q : κ × ν => q.1) h)
      exact hn.1 (this ▸ hc)
  rcases cands_is (ck := ck) (cv := cv) g1 g3 with ⟨m, hm0, hm1, hm2⟩ | ⟨hall, hm2⟩
  · have hpos : 0 < m.length := List.length_pos_iff.2 hm0
    obtain ⟨j, w1, hw, hj, hw1⟩ := which_lt (w := w) hpos
    obtain ⟨a, ha⟩ : ∃ a, m[j]? = some a := ⟨_, List.getElem?_eq_getElem hj⟩
    obtain ⟨ha1, ha2⟩ := hm1 a (List.mem_of_getElem? ha)
    obtain ⟨k, x, n⟩ := a
    have s4 : Ss W ([mp true b (.map (ents ck cv l) cl), mp true it (.iter (some b) cl (vis.map (·.2.2)).toArray cl)] ++ wo Hs i) w1 := by
      rcases hw1 with rfl | rfl
      · exact s3
      · exact s3.drew
    have s5 := s4.setmi (i := 1) rfl (.iter (some b) cl ((vis ++ [(k, x, n)]).map (·.2.2)).toArray cl)
    have hnd : (vis ++ [(k, x, n)]).Nodup := by
      rw [List.nodup_append]
      refine ⟨g4, by simp, fun c hc d hd h => ?_⟩
      simp only [List.mem_singleton] at hd
      subst hd
      subst h
      exact ha2 hc
    have hsub : ∀ e ∈ vis ++ [(k, x, n)], e ∈ l := by
      intro c hc
      rcases List.mem_append.1 hc with h | h
      · exact g3 c h
      · simp only [List.mem_singleton] at h
        subst h
        exact ha1
    have hnk := nodup_kv _ hnd hsub
    rw [List.map_append, g5] at hnk
    have s6 : Ss W (seps [mp true b (.map (ents ck cv l) cl), mp true it (.iter (some b) cl ((vis ++ [(k, x, n)]).map (·.2.2)).toArray cl)] :: wo Hs i) _ := Ss.group (l := [_, _]) s5
    have s7 := (s6.first (B := itH ck cv b it kvs (done ++ [(k, x)])) fun h hp => ⟨((l, cl), vis ++ [(k, x, n)]), ⟨g1, g2, hsub, hnd, by rw [List.map_append, g5]; rfl⟩, hp⟩).perm (up_perm e).symm
    refine bind ⟨(true, [ck.val k, cv.val x]), _, ?_, h1 k x _ ((kv_mem g2).2 ⟨n, ha1⟩) ?_ hnk s7⟩
    · unfold Lx.mnext
      simp only [hi, hm, hlast, Bool.false_eq_true, if_false]
      have hc : (Lx.cands (ents ck cv l) cl (vis.map (·.2.2)).toArray)[j]? = some (some ⟨ck.val k, cv.val x, n⟩) := by
        rw [hm2]
        simp [ha]
      have hz : (Lx.cands (ents ck cv l) cl (vis.map (·.2.2)).toArray).size = m.length := by
        rw [hm2]
        simp
      rw [hz, hw]
      simp only [hc]
      congr 3
      simp [MO.obj]
    · intro h
      rw [List.nodup_append] at hnk
      exact hnk.2.2 _ h _ (List.mem_singleton.2 rfl) rfl
  · have hp : done.Perm kvs := by
      rw [← g5]
      refine List.Perm.trans (List.Perm.map _ ?_) g2
      refine (List.perm_ext_iff_of_nodup g4 ?_).2 fun a => ⟨g3 a, hall a⟩
      exact g1.born.imp fun h e => by rw [e] at h; omega
    have s4 : Ss W (mp true b (.map (ents ck cv l) cl) :: wo Hs i) w := s3.use [0] (s := [_]) (r := _ :: wo Hs i) rfl |>.use [1] (s := [_]) (r := _ :: wo Hs i) rfl |>.drop |> fun s => s
    have s7 := (s4.first (B := mapH ck cv b kvs) fun h hp => ⟨(l, cl), ⟨g1, g2⟩, hp⟩).perm (up_perm e).symm
    refine bind ⟨(false, []), w, ?_, h0 _ hp s7⟩
    unfold Lx.mnext
    simp only [hi, hm, hlast, Bool.false_eq_true, if_false]
    rw [hm2]
    simp [Lx.which]
end WP
end Go.Proofs.Ytlkhijflgbobjaa.Lx
