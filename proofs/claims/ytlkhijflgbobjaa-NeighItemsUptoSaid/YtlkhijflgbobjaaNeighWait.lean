/- What waits in a cache: what each call makes of it; what a tick loses, held against the caller's book. -/
import Derived.Test.YtlkhijflgbobjaaNeighAsk
set_option linter.unusedVariables false
set_option linter.unusedSimpArgs false
namespace Go.Proofs.Ytlkhijflgbobjaa.Lx
open Go Go.Proofs Go.RowKit
def Wt (m : NM) (k : neigh_key) (its : List Int) : Prop := its ≠ [] ∧ ∃ e ∈ m.l, e.k = k ∧ e.items = its
namespace NM
theorem wt_put {m : NM} (ok : m.Ok) {i : Nat} {e e' : NE} (he : m.l[i]? = some e) (hk : e'.k = e.k) (k : neigh_key) (its : List Int) : Wt (m.put i e') k its ↔ (k = e.k ∧ its ≠ [] ∧ e'.items = its) ∨ (k ≠ e.k ∧ Wt m k its) := by
  constructor
  · rintro ⟨h0, x, hx, rfl, h1⟩
    rcases (mem_put ok he).1 hx with rfl | ⟨hm, hne⟩
    · exact .inl ⟨hk, h0, h1⟩
    · exact .inr ⟨hne, h0, x, hm, rfl, h1⟩
  · rintro (⟨rfl, h0, h1⟩ | ⟨hne, h0, x, hx, rfl, h1⟩)
    · exact ⟨h0, e', (mem_put ok he).2 (.inl rfl), hk, h1⟩
    · exact ⟨h0, x, (mem_put ok he).2 (.inr ⟨hx, hne⟩), rfl, h1⟩
theorem wt_ins {m m' : NM} (ok : m.Ok) (h : m.room = some m') {e : NE} (hf : find m.l e.k = none) (k : neigh_key) (its : List Int) : Wt { m' with l := ins m'.l e } k its ↔ (k = e.k ∧ its ≠ [] ∧ e.items = its) ∨ (k ≠ e.k ∧ Wt m k its) := by
  obtain ⟨r1, r2⟩ := room_mem ok h
  constructor
  · rintro ⟨h0, x, hx, rfl, h1⟩
    rcases mem_ins.1 hx with hm | rfl
    · exact .inr ⟨find_none hf x (r1 x hm), h0, x, r1 x hm, rfl, h1⟩
    · exact .inl ⟨rfl, h0, h1⟩
  · rintro (⟨rfl, h0, h1⟩ | ⟨hne, h0, x, hx, rfl, h1⟩)
    · exact ⟨h0, e, mem_ins.2 (.inr rfl), rfl, h1⟩
    · refine ⟨h0, x, mem_ins.2 (.inl (r2 x hx ?_)), rfl, h1⟩
      have := (ok.e x hx).ie.2 (by rw [h1]; exact h0)
      omega
theorem no_wt {m : NM} {k : neigh_key} (hf : find m.l k = none) (its : List Int) : ¬ Wt m k its := fun ⟨_, x, hx, hk, _⟩ => find_none hf x hx hk
theorem wt_at {m : NM} (ok : m.Ok) {i : Nat} {e : NE} (he : m.l[i]? = some e) (its : List Int) : Wt m e.k its ↔ its ≠ [] ∧ e.items = its := by
  constructor
  · rintro ⟨h0, x, hx, hk, h⟩
    rw [inj' ok hx (List.mem_of_getElem? he) hk] at h
    exact ⟨h0, h⟩
  · exact fun h => ⟨h.1, e, List.mem_of_getElem? he, rfl, h.2⟩
theorem want_wt {m : NM} (ok : m.Ok) (port : Int) (ip : api_IP) (item : Int) :
    ((m.want port ip item).2.2.2 = 0 ∧ ((m.want port ip item).2.2.1 = 3 ∨ (m.want port ip item).2.2.1 = 4) ∧ ∃ old, (∀ its, Wt m ⟨port, ip⟩ its → its = old) ∧ (old ≠ [] → Wt m ⟨port, ip⟩ old) ∧ old.length ≤ 64 ∧ ∀ k its, Wt (m.want port ip item).1 k its ↔ (k = ⟨port, ip⟩ ∧ its = old ++ [item]) ∨ (k ≠ ⟨port, ip⟩ ∧ Wt m k its)) ∨
    (¬ ((m.want port ip item).2.2.2 = 0 ∧ ((m.want port ip item).2.2.1 = 3 ∨ (m.want port ip item).2.2.1 = 4)) ∧ ∀ k its, Wt (m.want port ip item).1 k its ↔ Wt m k its) := by
  unfold want
  split
  · exact .inr ⟨(fun h => by simp at h), fun _ _ => Iff.rfl⟩
  split
  · rename_i hf
    split
    · exact .inr ⟨(fun h => by simp at h), fun _ _ => Iff.rfl⟩
    · rename_i m' hr
      refine .inl ⟨rfl, .inl rfl, [], fun its h => absurd h (no_wt hf its), fun h => absurd rfl h, by simp, fun k its => ?_⟩
      rw [wt_ins ok hr (e := ⟨⟨port, ip⟩, zm, 1, 0, 1, [item]⟩) hf]
      constructor
      · rintro (⟨h1, _, h2⟩ | h)
        · exact .inl ⟨h1, h2.symm⟩
        · exact .inr h
      · rintro (⟨h1, h2⟩ | h)
        · exact .inl ⟨h1, by rw [h2]; simp, h2.symm⟩
        · exact .inr h
  · rename_i i hf
    obtain ⟨e, he, hk⟩ := find_some hf
    have ek := ok.e e (List.mem_of_getElem? he)
    simp only [he]
    split
    · rename_i h3
      have hni : e.items = [] := Classical.byContradiction fun h => by have := ek.ie.2 h; omega
      refine .inr ⟨(fun h => by simp at h), fun k its => ?_⟩
      rw [wt_put ok (e' := { e with st := 4, age := 0, tries := 1 }) he rfl]
      by_cases hke : k = e.k
      · subst hke
        rw [wt_at ok he]
        simp
      · simp [hke]
    · split
      · exact .inr ⟨(fun h => by simp at h), fun _ _ => Iff.rfl⟩
      · split
        · exact .inr ⟨(fun h => by simp at h), fun _ _ => Iff.rfl⟩
        · refine .inl ⟨rfl, .inr rfl, e.items, fun its h => ?_, fun h => ?_, ?_, fun k its => ?_⟩
          · rw [← hk] at h
            exact ((wt_at ok he its).1 h).2.symm
          · rw [← hk]
            exact (wt_at ok he _).2 ⟨h, rfl⟩
          · have h1 := ek.i
            have h2 := ok.c.l1
            omega
          · rw [wt_put ok (e' := { e with items := e.items ++ [item] }) he rfl, hk]
            constructor
            · rintro (⟨h1, _, h2⟩ | h)
              · exact .inl ⟨h1, h2.symm⟩
              · exact .inr h
            · rintro (⟨h1, h2⟩ | h)
              · exact .inl ⟨h1, by rw [h2]; simp, h2.symm⟩
              · exact .inr h
theorem learn_wt {m : NM} (ok : m.Ok) (port : Int) (ip : api_IP) (mac : Vec Int 6) (how : Int) :
    ((m.learn port ip mac how).2.2 ≠ 0 ∧ (m.learn port ip mac how).1 = m ∧ (m.learn port ip mac how).2.1 = []) ∨
    ((m.learn port ip mac how).2.2 = 0 ∧ ((m.learn port ip mac how).2.1 ≠ [] → Wt m ⟨port, ip⟩ (m.learn port ip mac how).2.1) ∧ (∀ its, Wt m ⟨port, ip⟩ its → its = (m.learn port ip mac how).2.1) ∧ ∀ k its, Wt (m.learn port ip mac how).1 k its ↔ k ≠ ⟨port, ip⟩ ∧ Wt m k its) := by
  unfold learn
  split
  · exact .inl ⟨by simp, rfl, rfl⟩
  split
  · rename_i hf
    have h0 : ∀ k its, Wt m k its ↔ k ≠ ⟨port, ip⟩ ∧ Wt m k its := fun k its => ⟨fun h => ⟨fun hk => by subst hk; exact no_wt hf its h, h⟩, fun h => h.2⟩
    split
    · exact .inr ⟨rfl, fun h => absurd rfl h, fun its h => absurd h (no_wt hf its), h0⟩
    split
    · exact .inl ⟨by simp, rfl, rfl⟩
    · rename_i m' hr
      refine .inr ⟨rfl, fun h => absurd rfl h, fun its h => absurd h (no_wt hf its), fun k its => ?_⟩
      rw [wt_ins ok hr (e := ⟨⟨port, ip⟩, mac, 3, 0, 0, []⟩) hf]
      constructor
      · rintro (⟨h1, h2, h3⟩ | h)
        · exact absurd h3.symm h2
        · exact h
      · exact .inr
  · rename_i i hf
    obtain ⟨e, he, hk⟩ := find_some hf
    have ek := ok.e e (List.mem_of_getElem? he)
    have hput : ∀ (e' : NE), e'.k = e.k → e'.items = [] → ∀ k its, Wt (m.put i e') k its ↔ k ≠ ⟨port, ip⟩ ∧ Wt m k its := by
      intro e' hke hie k its
      rw [wt_put ok he hke, hk]
      constructor
      · rintro (⟨h1, h2, h3⟩ | h)
        · exact absurd (hie.symm.trans h3).symm h2
        · exact h
      · exact .inr
    have hw1 : e.items ≠ [] → Wt m ⟨port, ip⟩ e.items := fun h => by
      rw [← hk]
      exact (wt_at ok he _).2 ⟨h, rfl⟩
    have hw2 : ∀ its, Wt m ⟨port, ip⟩ its → its = e.items := fun its h => by
      rw [← hk] at h
      exact ((wt_at ok he its).1 h).2.symm
    simp only [he]
    split
    · exact .inr ⟨rfl, hw1, hw2, hput _ rfl rfl⟩
    · split
      · exact .inr ⟨rfl, hw1, hw2, hput _ rfl rfl⟩
      · rename_i hn
        have hni : e.items = [] := Classical.byContradiction fun h => hn (.inl (ek.ie.2 h))
        rw [hni] at hw2
        refine .inr ⟨rfl, fun h => absurd rfl h, hw2, fun k its => ⟨fun h => ⟨fun hk => ?_, h⟩, fun h => h.2⟩⟩
        subst hk
        exact h.1 (hw2 its h)
theorem get_is {m : NM} (port : Int) (ip : api_IP) : (m.get port ip).2 = true ↔ ∃ e ∈ m.l, e.k = ⟨port, ip⟩ := by
  unfold get
  cases hf : find m.l ⟨port, ip⟩ with
  | none =>
    simp only [Option.bind_none]
    exact ⟨(fun h => by cases h), fun ⟨e, he, hk⟩ => absurd hk (find_none hf e he)⟩
  | some i =>
    obtain ⟨e, he, hk⟩ := find_some hf
    simp only [Option.bind_some, he]
    exact ⟨fun _ => ⟨e, List.mem_of_getElem? he, hk⟩, fun _ => by trivial⟩
theorem tick_is {m : NM} (ok : m.Ok) {e : NE} (he : e ∈ m.l) : (∃ x ∈ m.tick.1.l, x.k = e.k) ↔ (stepE m.c e).1.isSome := by
  constructor
  · rintro ⟨x, hx, hk⟩
    obtain ⟨y, hy, hs⟩ := List.mem_filterMap.1 hx
    have := (stepE_ok ok.c (ok.e y hy) hs).2
    rw [inj' ok hy he (this.symm.trans hk)] at hs
    rw [hs]
    rfl
  · intro h
    obtain ⟨x, hx⟩ := Option.isSome_iff_exists.1 h
    exact ⟨x, List.mem_filterMap.2 ⟨e, he, hx⟩, (stepE_ok ok.c (ok.e e he) hx).2⟩
theorem step_lost {m : NM} (ok : m.Ok) {e : NE} (he : e ∈ m.l) : (stepE m.c e).2.2 = if (stepE m.c e).1.isSome then [] else e.items := by
  by_cases ha : e.asked
  · rw [stepE_ask ha]
    split
    · split <;> rfl
    · rfl
  · rw [stepE_not ha]
    rfl
theorem tick_wt {m : NM} (ok : m.Ok) (k : neigh_key) (its : List Int) : Wt m.tick.1 k its ↔ Wt m k its ∧ ∃ x ∈ m.tick.1.l, x.k = k := by
  constructor
  · rintro ⟨h0, x, hx, rfl, rfl⟩
    obtain ⟨e, he, hs⟩ := List.mem_filterMap.1 hx
    refine ⟨⟨h0, e, he, (stepE_ok ok.c (ok.e e he) hs).2.symm, ?_⟩, x, hx, rfl⟩
    have ho := (older_spec ok.c (ok.e e he)).2.2.2.1
    by_cases ha : e.asked
    · rw [stepE_ask ha] at hs
      split at hs
      · split at hs
        · cases hs; rfl
        · cases hs
      · cases hs; rfl
    · rw [stepE_not ha] at hs
      cases hs
      exact ho.symm
  · rintro ⟨⟨h0, e, he, rfl, rfl⟩, x, hx, hk⟩
    have hs := (tick_is ok he).1 ⟨x, hx, hk⟩
    obtain ⟨y, hy⟩ := Option.isSome_iff_exists.1 hs
    refine ⟨h0, y, List.mem_filterMap.2 ⟨e, he, hy⟩, (stepE_ok ok.c (ok.e e he) hy).2, ?_⟩
    have ho := (older_spec ok.c (ok.e e he)).2.2.2.1
    by_cases ha : e.asked
    · rw [stepE_ask ha] at hy
      split at hy
      · split at hy
        · cases hy; rfl
        · cases hy
      · cases hy; rfl
    · rw [stepE_not ha] at hy
      cases hy
      exact ho
end NM
abbrev IRow := weirlaw15_Row × List Int
structure IBook (m : NM) (z : List IRow) : Prop where
  s : Rsort (z.map (·.1))
  r : ∀ x ∈ z, x.2 ≠ [] → Wt m (rkey x.1) x.2
  e : ∀ k its, Wt m k its → ∃ x ∈ z, rkey x.1 = k ∧ x.2 = its
def ne1 (m : NM) : List (neigh_key × List Int) := m.l.filterMap fun e => if e.items ≠ [] then some (e.k, e.items) else none
def ne2 (z : List IRow) : List (neigh_key × List Int) := z.filterMap fun x => if x.2 ≠ [] then some (rkey x.1, x.2) else none
theorem pair_ext {l m : List (neigh_key × List Int)} (hl : l.Pairwise fun a b => klt a.1 b.1 = true) (hm : m.Pairwise fun a b => klt a.1 b.1 = true) (h : ∀ x, x ∈ l ↔ x ∈ m) : l = m :=
  sorted_ext (R := fun a b : neigh_key × List Int => klt a.1 b.1 = true) (fun x h => by rw [klt_irrefl] at h; cases h) (fun x y h h' => by rw [klt_asymm h] at h'; cases h') hl hm h
theorem fst_pair2 {α : Type} {f : α → Option (neigh_key × List Int)} {key : α → neigh_key} {l : List α} (s : l.Pairwise fun a b => klt (key a) (key b) = true) (hf : ∀ x y, f x = some y → y.1 = key x) : (l.filterMap f).Pairwise fun a b => klt a.1 b.1 = true := by
  rw [List.pairwise_filterMap]
  refine s.imp ?_
  intro a b h x hx y hy
  rw [hf a x hx, hf b y hy]
  exact h
theorem z_sorted {z : List IRow} (s : Rsort (z.map (·.1))) : z.Pairwise fun a b => klt (rkey a.1) (rkey b.1) = true := List.pairwise_map.1 s
theorem ne_eq {m : NM} {z : List IRow} (ok : m.Ok) (B : IBook m z) : ne1 m = ne2 z := by
  unfold ne1 ne2
  refine pair_ext (fst_pair2 ok.s (fun x y h => ?_)) (fst_pair2 (key := fun x : IRow => rkey x.1) (z_sorted B.s) (fun x y h => ?_)) (fun p => ?_)
  · split at h
    · cases h; rfl
    · cases h
  · split at h
    · cases h; rfl
    · cases h
  · constructor
    · intro h
      obtain ⟨e, he, h⟩ := List.mem_filterMap.1 h
      split at h
      · rename_i hi
        cases h
        obtain ⟨x, hx, hk, hxi⟩ := B.e _ _ ⟨hi, e, he, rfl, rfl⟩
        exact List.mem_filterMap.2 ⟨x, hx, by rw [hxi, if_pos hi, hk]⟩
      · cases h
    · intro h
      obtain ⟨x, hx, h⟩ := List.mem_filterMap.1 h
      split at h
      · rename_i hi
        cases h
        obtain ⟨_, e, he, hk, hei⟩ := B.r x hx hi
        exact List.mem_filterMap.2 ⟨e, he, by rw [hei, if_pos hi, hk]⟩
      · cases h
theorem sum_ne {α : Type} {g : α → List Int} {key : α → neigh_key} : ∀ (l : List α), (l.map fun x => (g x).length).sum = ((l.filterMap fun x => if g x ≠ [] then some (key x, g x) else none).map fun p => p.2.length).sum
  | [] => rfl
  | a :: l => by
    rw [List.map_cons, List.sum_cons, List.filterMap_cons, sum_ne l]
    by_cases h : g a ≠ []
    · rw [if_pos h]
      rfl
    · have h' : g a = [] := by simpa using h
      rw [if_neg h, h']
      simp
theorem wait_eq {m : NM} {z : List IRow} (ok : m.Ok) (B : IBook m z) : m.waiting = (z.map fun x => x.2.length).sum := by
  unfold NM.waiting
  have h1 := sum_ne (g := fun e : NE => e.items) (key := fun e => e.k) m.l
  have h2 := sum_ne (g := fun x : IRow => x.2) (key := fun x => rkey x.1) z
  have h3 := ne_eq ok B
  unfold ne1 ne2 at h3
  rw [h1, h2, h3]
def gone (m' : NM) (x : IRow) : List Int := if x.2 ≠ [] ∧ (m'.get x.1.Port x.1.IP).2 = false then x.2 else []
theorem flat_ne {α : Type} {g : α → List Int} {key : α → neigh_key} : ∀ (l : List α), l.flatMap g = (l.filterMap fun x => if g x ≠ [] then some (key x, g x) else none).flatMap fun p => p.2
  | [] => rfl
  | a :: l => by
    rw [List.flatMap_cons, List.filterMap_cons, flat_ne l]
    by_cases h : g a ≠ []
    · rw [if_pos h]
      rfl
    · have h' : g a = [] := by simpa using h
      rw [if_neg h, h']
      rfl
theorem lost_are {m : NM} {z : List IRow} (ok : m.Ok) (B : IBook m z) : m.tick.2.2 = z.flatMap (gone m.tick.1) := by
  show (m.l.flatMap fun e => (NM.stepE m.c e).2.2) = _
  rw [flat_ne (key := fun e : NE => e.k), flat_ne (g := gone m.tick.1) (key := fun x : IRow => rkey x.1)]
  congr 1
  refine pair_ext (fst_pair2 ok.s (fun x y h => ?_)) (fst_pair2 (key := fun x : IRow => rkey x.1) (z_sorted B.s) (fun x y h => ?_)) (fun p => ?_)
  · split at h
    · cases h; rfl
    · cases h
  · split at h
    · cases h; rfl
    · cases h
  · have hgone : ∀ (e : NE) (x : IRow), e ∈ m.l → e.k = rkey x.1 → e.items = x.2 → x.2 ≠ [] → (NM.stepE m.c e).2.2 = gone m.tick.1 x := by
      intro e x he hk hi hne
      rw [NM.step_lost ok he]
      unfold gone
      have h1 := NM.tick_is ok he
      have h2 := NM.get_is (m := m.tick.1) x.1.Port x.1.IP
      rw [show (⟨x.1.Port, x.1.IP⟩ : neigh_key) = e.k from hk.symm] at h2
      rw [h1] at h2
      by_cases hs : (NM.stepE m.c e).1.isSome = true
      · rw [if_pos hs, if_neg (fun h => by rw [h2.2 hs] at h; cases h.2)]
      · rw [if_neg hs, if_pos ⟨hne, by
          cases hg : (m.tick.1.get x.1.Port x.1.IP).2 with
          | false => rfl
          | true => exact absurd (h2.1 hg) hs⟩, hi]
    constructor
    · intro h
      obtain ⟨e, he, h⟩ := List.mem_filterMap.1 h
      split at h
      · rename_i hi
        cases h
        have hin : e.items ≠ [] := by
          intro h0
          apply hi
          rw [NM.step_lost ok he, h0]
          split <;> rfl
        obtain ⟨x, hx, hk, hxi⟩ := B.e _ _ ⟨hin, e, he, rfl, rfl⟩
        refine List.mem_filterMap.2 ⟨x, hx, ?_⟩
        rw [← hgone e x he hk.symm hxi.symm (by rw [hxi]; exact hin), if_pos hi, hk]
      · cases h
    · intro h
      obtain ⟨x, hx, h⟩ := List.mem_filterMap.1 h
      split at h
      · rename_i hi
        cases h
        have hin : x.2 ≠ [] := by
          intro h0
          apply hi
          unfold gone
          rw [if_neg (fun h => h.1 h0)]
        obtain ⟨_, e, he, hk, hei⟩ := B.r x hx hin
        refine List.mem_filterMap.2 ⟨e, he, ?_⟩
        rw [hgone e x he hk hei hin, if_pos hi, hk]
      · cases h
def rowG (m' : NM) (x : IRow) : IRow := if x.2 ≠ [] ∧ (m'.get x.1.Port x.1.IP).2 = false then (⟨x.1.Port, x.1.IP, Sl.nil, x.1.Last, x.1.Count⟩, []) else x
theorem rowG_key {m' : NM} {x : IRow} : rkey (rowG m' x).1 = rkey x.1 := by
  unfold rowG
  split <;> rfl
theorem IBook.tick {m : NM} {z : List IRow} (ok : m.Ok) (B : IBook m z) : IBook m.tick.1 (z.map (rowG m.tick.1)) := by
  refine ⟨?_, fun x hx hi => ?_, fun k its h => ?_⟩
  · show ((z.map _).map _).Pairwise _
    rw [List.map_map, List.pairwise_map]
    exact (z_sorted B.s).imp (fun h => by
      simp only [Function.comp_apply]
      rw [rowG_key, rowG_key]
      exact h)
  · obtain ⟨y, hy, rfl⟩ := List.mem_map.1 hx
    rw [rowG_key]
    unfold rowG at hi ⊢
    split
    · rename_i hc
      rw [if_pos hc] at hi
      exact absurd rfl hi
    · rename_i hc
      rw [if_neg hc] at hi
      refine (NM.tick_wt ok _ _).2 ⟨B.r y hy hi, ?_⟩
      have hg : (m.tick.1.get y.1.Port y.1.IP).2 = true := by
        cases h : (m.tick.1.get y.1.Port y.1.IP).2 with
        | true => rfl
        | false => exact absurd ⟨hi, h⟩ hc
      exact (NM.get_is _ _).1 hg
  · obtain ⟨h1, h2⟩ := (NM.tick_wt ok _ _).1 h
    obtain ⟨x, hx, hk, hxi⟩ := B.e _ _ h1
    refine ⟨rowG m.tick.1 x, List.mem_map_of_mem hx, by rw [rowG_key]; exact hk, ?_⟩
    unfold rowG
    rw [if_neg (fun hc => by
      have := (NM.get_is (m := m.tick.1) x.1.Port x.1.IP).2 (by rw [show (⟨x.1.Port, x.1.IP⟩ : neigh_key) = k from hk]; exact h2)
      rw [this] at hc
      cases hc.2)]
    exact hxi
theorem IBook.same {m m' : NM} {z : List IRow} (B : IBook m z) (hv : ∀ k its, Wt m' k its ↔ Wt m k its) : IBook m' z :=
  ⟨B.s, fun x hx hi => (hv _ _).2 (B.r x hx hi), fun k its h => B.e k its ((hv _ _).1 h)⟩
theorem z_inj {z : List IRow} (s : Rsort (z.map (·.1))) {i j : Nat} {x y : IRow} (hx : z[i]? = some x) (hy : z[j]? = some y) (h : rkey x.1 = rkey y.1) : i = j :=
  (rsort_inj s (i := i) (j := j) (x := x.1) (y := y.1) (by rw [List.getElem?_map, hx]; rfl) (by rw [List.getElem?_map, hy]; rfl) h).1
theorem IBook.put {m m' : NM} {z : List IRow} {i : Nat} {x y : IRow} {k : neigh_key} (s : Rsort (z.map (·.1))) (hx : z[i]? = some x) (hk : rkey x.1 = k) (hy : rkey y.1 = k)
    (hr : ∀ u ∈ z, rkey u.1 ≠ k → u.2 ≠ [] → Wt m (rkey u.1) u.2) (he : ∀ k' its, k' ≠ k → Wt m k' its → ∃ u ∈ z, rkey u.1 = k' ∧ u.2 = its)
    (hv : ∀ k' its, k' ≠ k → (Wt m' k' its ↔ Wt m k' its)) (h1 : y.2 ≠ [] → Wt m' k y.2) (h2 : ∀ its, Wt m' k its → its = y.2) : IBook m' (z.set i y) := by
  have hlt := (List.getElem?_eq_some_iff.1 hx).1
  refine ⟨?_, fun u hu hi => ?_, fun k' its h => ?_⟩
  · rw [List.map_set]
    exact rset_sorted s (x := x.1) (by rw [List.getElem?_map, hx]; rfl) (hy.trans hk.symm)
  · obtain ⟨j, hj⟩ := List.getElem?_of_mem hu
    rw [List.getElem?_set] at hj
    split at hj
    · rename_i hij
      first
      | (cases hj; rw [hy]; exact h1 hi)
      | (split at hj
         · cases hj; rw [hy]; exact h1 hi
         · cases hj)
    · rename_i hne
      have hku : rkey u.1 ≠ k := fun h => hne (z_inj s hj hx (h.trans hk.symm)).symm
      exact (hv _ _ hku).2 (hr u (List.mem_of_getElem? hj) hku hi)
  · by_cases hkk : k' = k
    · subst hkk
      exact ⟨y, List.mem_iff_getElem?.2 ⟨i, List.getElem?_set_self hlt⟩, hy, (h2 its h).symm⟩
    · obtain ⟨u, hu, hku, hui⟩ := he k' its hkk ((hv _ _ hkk).1 h)
      obtain ⟨j, hj⟩ := List.getElem?_of_mem hu
      refine ⟨u, List.mem_iff_getElem?.2 ⟨j, ?_⟩, hku, hui⟩
      rw [List.getElem?_set_ne (fun hij => by
        subst hij
        rw [hx] at hj
        cases hj
        exact hkk (hku.symm.trans hk))]
      exact hj
end Go.Proofs.Ytlkhijflgbobjaa.Lx
