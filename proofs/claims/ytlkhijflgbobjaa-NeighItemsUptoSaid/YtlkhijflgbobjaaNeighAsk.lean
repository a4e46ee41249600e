/- Whom a cache asks for: what each call makes of it; the asks of a tick, held against the caller's book. -/
import Derived.Test.YtlkhijflgbobjaaNeighRow
set_option linter.unusedVariables false
set_option linter.unusedSimpArgs false
namespace Go.Proofs.Ytlkhijflgbobjaa.Lx
open Go Go.Proofs Go.RowKit
def NE.asked (e : NE) : Prop := e.st = 1 ∨ e.st = 4
def Ask (m : NM) (k : neigh_key) (t a : Int) : Prop := ∃ e ∈ m.l, e.k = k ∧ e.asked ∧ e.tries = t ∧ e.age = a
namespace NM
theorem inj {m : NM} (ok : m.Ok) {i j : Nat} {x y : NE} (hx : m.l[i]? = some x) (hy : m.l[j]? = some y) (h : x.k = y.k) : i = j ∧ x = y := by
  have h1 := find_at ok.s hx
  have h2 := find_at ok.s hy
  rw [h, h2] at h1
  cases h1
  rw [hx] at hy
  cases hy
  exact ⟨rfl, rfl⟩
theorem inj' {m : NM} (ok : m.Ok) {x y : NE} (hx : x ∈ m.l) (hy : y ∈ m.l) (h : x.k = y.k) : x = y := by
  obtain ⟨i, hi⟩ := List.getElem?_of_mem hx
  obtain ⟨j, hj⟩ := List.getElem?_of_mem hy
  exact (inj ok hi hj h).2
theorem mem_put {m : NM} (ok : m.Ok) {i : Nat} {e e' x : NE} (he : m.l[i]? = some e) : x ∈ (m.put i e').l ↔ x = e' ∨ (x ∈ m.l ∧ x.k ≠ e.k) := by
  show x ∈ m.l.set i e' ↔ _
  constructor
  · intro h
    obtain ⟨j, hj⟩ := List.getElem?_of_mem h
    rw [List.getElem?_set] at hj
    split at hj
    · split at hj
      · cases hj; exact .inl rfl
      · cases hj
    · rename_i hne
      exact .inr ⟨List.mem_of_getElem? hj, fun hk => hne (inj ok hj he hk).1.symm⟩
  · rintro (rfl | ⟨h, hk⟩)
    · exact List.mem_iff_getElem?.2 ⟨i, List.getElem?_set_self (List.getElem?_eq_some_iff.1 he).1⟩
    · obtain ⟨j, hj⟩ := List.getElem?_of_mem h
      refine List.mem_iff_getElem?.2 ⟨j, ?_⟩
      rw [List.getElem?_set_ne (fun hij => by
        subst hij
        rw [he] at hj
        cases hj
        exact hk rfl)]
      exact hj
theorem mem_ins {l : List NE} {e x : NE} : x ∈ ins l e ↔ x ∈ l ∨ x = e := by
  unfold ins
  conv => rhs; rw [← List.take_append_drop (insAt l e.k) l]
  simp only [List.mem_append, List.mem_cons]
  constructor
  · rintro (h | h | h)
    · exact .inl (.inl h)
    · exact .inr h
    · exact .inl (.inr h)
  · rintro ((h | h) | h)
    · exact .inl h
    · exact .inr (.inr h)
    · exact .inr (.inl h)
theorem room_mem {m m' : NM} (ok : m.Ok) (h : m.room = some m') : (∀ x ∈ m'.l, x ∈ m.l) ∧ ∀ x ∈ m.l, x.st ≠ 3 → x ∈ m'.l := by
  refine ⟨(room_spec ok h).2.2.2, fun x hx h3 => ?_⟩
  unfold room at h
  split at h
  · cases h; exact hx
  · obtain ⟨k, hk, rfl⟩ := Option.map_eq_some_iff.1 h
    obtain ⟨_, e, he, hs⟩ := old_spec (Nat.le_refl _) hk
    obtain ⟨j, hj⟩ := List.getElem?_of_mem hx
    refine List.mem_eraseIdx_iff_getElem?.2 ⟨j, fun hjk => ?_, hj⟩
    subst hjk
    rw [he] at hj
    cases hj
    exact h3 hs
theorem older_ask {c : api_NeighConfig} {e : NE} (h : e.asked) : older c e = { e with age := e.age + 1 } := by
  unfold older
  unfold NE.asked at h
  have h3 : e.st ≠ 3 ∨ e.age < 1048576 := by omega
  have h2 : ¬ (e.st = 2 ∧ e.age + 1 = c.Fresh) := by omega
  simp only [if_pos h3, if_neg h2]
theorem older_not {c : api_NeighConfig} {e : NE} (h : ¬ e.asked) : ¬ (older c e).asked := by
  unfold older
  unfold NE.asked at h ⊢
  simp only
  split
  · split
    · simp
    · exact h
  · split
    · simp
    · exact h
theorem stepE_ask {c : api_NeighConfig} {e : NE} (h : e.asked) : stepE c e = if e.age + 1 = c.Every then (if e.tries < c.Tries then (some { e with age := 0, tries := e.tries + 1 }, [({ e with age := 0, tries := e.tries + 1 } : NE).ask], []) else (none, [], e.items)) else (some { e with age := e.age + 1 }, [], []) := by
  unfold stepE
  rw [older_ask h]
  unfold NE.asked at h
  simp only [h, true_and]
theorem stepE_not {c : api_NeighConfig} {e : NE} (h : ¬ e.asked) : stepE c e = (some (older c e), [], []) := by
  unfold stepE
  have := older_not (c := c) h
  unfold NE.asked at this
  simp only [this, false_and, if_false]
theorem tick_view {m : NM} (ok : m.Ok) (k : neigh_key) (t a : Int) : Ask m.tick.1 k t a ↔ ∃ t0 a0, Ask m k t0 a0 ∧ ((a0 + 1 ≠ m.c.Every ∧ t = t0 ∧ a = a0 + 1) ∨ (a0 + 1 = m.c.Every ∧ t0 < m.c.Tries ∧ t = t0 + 1 ∧ a = 0)) := by
  constructor
  · rintro ⟨x, hx, rfl, h1, rfl, rfl⟩
    obtain ⟨e, he, hs⟩ := List.mem_filterMap.1 hx
    by_cases ha : e.asked
    · refine ⟨e.tries, e.age, ⟨e, he, ?_, ha, rfl, rfl⟩, ?_⟩
      · exact (stepE_ok ok.c (ok.e e he) hs).2.symm
      · rw [stepE_ask ha] at hs
        split at hs
        · rename_i hd
          split at hs
          · rename_i ht
            cases hs
            exact .inr ⟨hd, ht, rfl, rfl⟩
          · cases hs
        · rename_i hd
          cases hs
          exact .inl ⟨hd, rfl, rfl⟩
    · rw [stepE_not ha] at hs
      cases hs
      exact absurd h1 (older_not ha)
  · rintro ⟨t0, a0, ⟨e, he, rfl, ha, rfl, rfl⟩, h⟩
    rcases h with ⟨h1, rfl, rfl⟩ | ⟨h1, h2, rfl, rfl⟩
    · exact ⟨{ e with age := e.age + 1 }, List.mem_filterMap.2 ⟨e, he, by rw [stepE_ask ha, if_neg h1]⟩, rfl, ha, rfl, rfl⟩
    · exact ⟨{ e with age := 0, tries := e.tries + 1 }, List.mem_filterMap.2 ⟨e, he, by rw [stepE_ask ha, if_pos h1, if_pos h2]⟩, rfl, ha, rfl, rfl⟩
end NM
structure PBook (m : NM) (now : Int) (l : List weirlaw15_Row) : Prop where
  s : Rsort l
  r : ∀ x ∈ l, x.Count ≠ 0 → Ask m (rkey x) x.Count (now - x.Last) ∧ 1 ≤ x.Count ∧ 0 ≤ x.Last ∧ x.Last ≤ now
  e : ∀ k t a, Ask m k t a → ∃ x ∈ l, rkey x = k ∧ x.Count ≠ 0
def rowR (c : api_NeighConfig) (now : Int) (x : weirlaw15_Row) : weirlaw15_Row := if x.Count ≠ 0 ∧ now - x.Last = c.Every then (if x.Count < c.Tries then ⟨x.Port, x.IP, x.Items, now, x.Count + 1⟩ else ⟨x.Port, x.IP, x.Items, x.Last, 0⟩) else x
theorem rowR_key {c : api_NeighConfig} {now : Int} {x : weirlaw15_Row} : rkey (rowR c now x) = rkey x := by
  unfold rowR
  split
  · split <;> rfl
  · rfl
theorem ask_uniq {m : NM} (ok : m.Ok) {k : neigh_key} {t a t' a' : Int} (h : Ask m k t a) (h' : Ask m k t' a') : t = t' ∧ a = a' := by
  obtain ⟨x, hx, rfl, _, rfl, rfl⟩ := h
  obtain ⟨y, hy, hk, _, rfl, rfl⟩ := h'
  rw [NM.inj' ok hx hy hk.symm]
  exact ⟨rfl, rfl⟩
theorem PBook.tick {m : NM} {now : Int} {l : List weirlaw15_Row} (ok : m.Ok) (B : PBook m now l) : PBook m.tick.1 (now + 1) (l.map (rowR m.c (now + 1))) := by
  refine ⟨?_, fun x hx hc => ?_, fun k t a h => ?_⟩
  · show (l.map _).Pairwise _
    rw [List.pairwise_map]
    exact B.s.imp (fun h => by rw [rowR_key, rowR_key]; exact h)
  · obtain ⟨y, hy, rfl⟩ := List.mem_map.1 hx
    rw [rowR_key]
    unfold rowR at hc ⊢
    by_cases h1 : y.Count ≠ 0 ∧ now + 1 - y.Last = m.c.Every
    · simp only [if_pos h1] at hc ⊢
      by_cases h2 : y.Count < m.c.Tries
      · simp only [if_pos h2] at hc ⊢
        obtain ⟨ha, h3, h4, h5⟩ := B.r y hy h1.1
        refine ⟨(NM.tick_view ok _ _ _).2 ⟨_, _, ha, .inr ⟨by omega, h2, rfl, by omega⟩⟩, by omega, by omega, by omega⟩
      · simp only [if_neg h2] at hc
        exact absurd rfl hc
    · simp only [if_neg h1] at hc ⊢
      obtain ⟨ha, h3, h4, h5⟩ := B.r y hy hc
      refine ⟨(NM.tick_view ok _ _ _).2 ⟨_, _, ha, .inl ⟨fun h => h1 ⟨hc, by omega⟩, rfl, by omega⟩⟩, h3, h4, by omega⟩
  · obtain ⟨t0, a0, ha, h⟩ := (NM.tick_view ok _ _ _).1 h
    obtain ⟨x, hx, hk, hc⟩ := B.e _ _ _ ha
    obtain ⟨hb, h3, _⟩ := B.r x hx hc
    rw [hk] at hb
    obtain ⟨q1, q2⟩ := ask_uniq ok ha hb
    refine ⟨rowR m.c (now + 1) x, List.mem_map_of_mem hx, by rw [rowR_key]; exact hk, ?_⟩
    unfold rowR
    split
    · rename_i hd
      rcases h with ⟨h1, _⟩ | ⟨h1, h2, _⟩
      · omega
      · rw [if_pos (by omega)]
        simp only
        omega
    · exact hc
theorem PBook.want {m m' : NM} {now : Int} {l : List weirlaw15_Row} (B : PBook m now l) (h0 : 0 ≤ now) {k : neigh_key} (hv : ∀ k' t a, Ask m' k' t a ↔ (k' = k ∧ t = 1 ∧ a = 0) ∨ (k' ≠ k ∧ Ask m k' t a)) : ∃ x, (rows l k).1[(rows l k).2]? = some x ∧ PBook m' now ((rows l k).1.set (rows l k).2 ⟨x.Port, x.IP, x.Items, now, 1⟩) := by
  have key : ∀ (l' : List weirlaw15_Row) (i : Nat) (x : weirlaw15_Row), Rsort l' → l'[i]? = some x → rkey x = k → (∀ y ∈ l', rkey y ≠ k → y ∈ l) → (∀ y ∈ l, y ∈ l') → PBook m' now (l'.set i ⟨x.Port, x.IP, x.Items, now, 1⟩) := by
    intro l' i x hs hx hk hin hout
    have hset : ∀ y, y ∈ l'.set i ⟨x.Port, x.IP, x.Items, now, 1⟩ ↔ y = ⟨x.Port, x.IP, x.Items, now, 1⟩ ∨ (y ∈ l' ∧ rkey y ≠ k) := by
      intro y
      constructor
      · intro h
        obtain ⟨j, hj⟩ := List.getElem?_of_mem h
        rw [List.getElem?_set] at hj
        split at hj
        · split at hj
          · cases hj; exact .inl rfl
          · cases hj
        · rename_i hne
          exact .inr ⟨List.mem_of_getElem? hj, fun hky => hne (rsort_inj hs hj hx (hky.trans hk.symm)).1.symm⟩
      · rintro (rfl | ⟨h, hky⟩)
        · exact List.mem_iff_getElem?.2 ⟨i, List.getElem?_set_self (List.getElem?_eq_some_iff.1 hx).1⟩
        · obtain ⟨j, hj⟩ := List.getElem?_of_mem h
          refine List.mem_iff_getElem?.2 ⟨j, ?_⟩
          rw [List.getElem?_set_ne (fun hij => by
            subst hij
            rw [hx] at hj
            cases hj
            exact hky hk)]
          exact hj
    refine ⟨rset_sorted hs hx rfl, fun y hy hc => ?_, fun k' t a ha => ?_⟩
    · rcases (hset y).1 hy with rfl | ⟨hm, hne⟩
      · exact ⟨(hv _ _ _).2 (.inl ⟨hk, rfl, by simp only; omega⟩), by simp, h0, Int.le_refl _⟩
      · obtain ⟨h1, h2⟩ := B.r y (hin y hm hne) hc
        exact ⟨(hv _ _ _).2 (.inr ⟨hne, h1⟩), h2⟩
    · rcases (hv _ _ _).1 ha with ⟨rfl, _⟩ | ⟨hne, h⟩
      · exact ⟨_, (hset _).2 (.inl rfl), hk, by simp⟩
      · obtain ⟨y, hy, hky, hc⟩ := B.e _ _ _ h
        exact ⟨y, (hset y).2 (.inr ⟨hout y hy, by rw [hky]; exact hne⟩), hky, hc⟩
  unfold rows
  cases hf : rfind l k with
  | some i =>
    obtain ⟨x, hx, hk⟩ := rfind_some hf
    exact ⟨x, hx, key l i x B.s hx hk (fun y hy _ => hy) (fun y hy => hy)⟩
  | none =>
    refine ⟨rnew k, rins_at l k, key _ _ _ (rins_sorted B.s (rfind_none hf)) (rins_at l k) (by cases k; rfl) (fun y hy hne => ?_) (fun y hy => rins_mem.2 (.inl hy))⟩
    rcases rins_mem.1 hy with h | rfl
    · exact h
    · exact absurd (by cases k; rfl) hne
theorem PBook.same {m m' : NM} {now : Int} {l : List weirlaw15_Row} (B : PBook m now l) (hv : ∀ k t a, Ask m' k t a ↔ Ask m k t a) : PBook m' now l :=
  ⟨B.s, fun x hx hc => ⟨(hv _ _ _).2 (B.r x hx hc).1, (B.r x hx hc).2⟩, fun k t a h => B.e k t a ((hv _ _ _).1 h)⟩
end Go.Proofs.Ytlkhijflgbobjaa.Lx
