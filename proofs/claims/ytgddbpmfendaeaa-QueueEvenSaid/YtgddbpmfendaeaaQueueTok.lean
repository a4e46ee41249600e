/- What a step of a queue does to its classes' tokens, and to what waits. -/
import Derived.Test.YtgddbpmfendaeaaQueueBook
set_option linter.unusedVariables false
set_option linter.unusedSimpArgs false
namespace Go.Proofs.Ytgddbpmfendaeaa.Lx
open Go Go.Proofs Go.RowKit

def ct (k : Cl) : api_Class × Int := (k.c, k.tok)
theorem push_ct (m : QM) (a b c : Int) : (m.push a b c).1.cl.map ct = m.cl.map ct := by
  unfold QM.push
  split
  · rfl
  · split
    · rfl
    · simp only
      split
      · rfl
      · simp only [List.map_set]
        refine set_eq ?_
        rw [List.getElem?_map, getD_get (z := default) (by unfold QM.n at *; omega)]
        rfl
/-- what a Pop does to the class whose item comes -/
theorem Pops.what {m m2 : QM} {y d : Int} (h : Pops m (y, d, true) m2) (ok : m.Ok) : ∃ (i : Nat) (k : Cl) (x : queue_item) (q' : List queue_item), d = i ∧ y = x.id ∧ m.cl[i]? = some k ∧ k.q = x :: q' ∧ k.rdy = true ∧ m2.qs = m.qs.set i q' ∧ m2.cl.map ct = (m.cl.map ct).set i (k.c, if k.c.Rate > 0 then k.tok - x.size else k.tok) := by
  have hf := h.first ok
  cases h with
  | item h ht hx =>
    rename_i m' x2 q2
    obtain ⟨i, x, q', hdi, hi, hy, hq, hq2, h1, h2, h3, h4⟩ := hf
    have hdi' : i = m'.at_ := by omega
    subst hdi'
    obtain ⟨ok', hn, hr, hd⟩ := ht.ok ok
    have e := Turns.qs ht ok
    have e2 := Turns.map ct (fun _ _ => rfl) ht ok
    have e3 := Turns.map (fun k => (k.rdy, k.q, k.c, k.tok)) (fun _ _ => rfl) ht ok
    have hc := QM.cur_at ok'.n0
    have hi' : m.cl[m'.at_]? = some (m.cl.getD m'.at_ default) := getD_get (z := default) (by unfold QM.n at hi; exact hi)
    generalize m.cl.getD m'.at_ default = k at hi'
    have e4 := congrArg (fun l => l[m'.at_]?) e3
    simp only [List.getElem?_map, hc, hi', Option.map_some, Option.some.injEq, Prod.mk.injEq] at e4
    obtain ⟨f1, f2, f3, f4⟩ := e4
    refine ⟨m'.at_, k, x2, q2, rfl, rfl, hi', by rw [← f2]; exact hx, by rw [← f1]; exact hr, ?_, ?_⟩
    · unfold QM.take
      simp only
      rw [hx]
      show (m'.cl.set m'.at_ _).map Cl.q = _
      rw [List.map_set]
      show (m'.qs.set m'.at_ q2) = _
      rw [e]
    · unfold QM.take
      simp only
      show (m'.cl.set m'.at_ _).map ct = _
      rw [List.map_set, e2]
      congr 1
      show (m'.cur.c, if m'.cur.c.Rate > 0 then m'.cur.tok - m'.cur.hd else m'.cur.tok) = _
      rw [f3, f4]
      have : m'.cur.hd = x2.size := by unfold Cl.hd; rw [hx]
      rw [this]
theorem Pops.is {m m2 : QM} {y d : Int} {is : Bool} (h : Pops m (y, d, is) m2) : is = m.some_ := by
  cases h with
  | none h => exact h.symm
  | item h _ _ => exact h.symm
theorem rdy_tok {k : Cl} {x : queue_item} {q' : List queue_item} (h : k.rdy = true) (hx : k.q = x :: q') (hr : k.c.Rate > 0) : x.size ≤ k.tok := by
  unfold Cl.rdy at h
  rw [hx] at h
  simp only [rdy, Bool.or_eq_true, beq_iff_eq, decide_eq_true_eq] at h
  omega
/-- the tokens of the shaped classes, as the caller reckons -/
def PT (ts : List Int) (m : QM) : Prop := ts.length = m.n ∧ ∀ (i : Nat) (k : Cl), m.cl[i]? = some k → k.c.Rate > 0 → ts[i]? = some k.tok
theorem ct_get {m m' : QM} (h : m'.cl.map ct = m.cl.map ct) {i : Nat} {k' : Cl} (hk : m'.cl[i]? = some k') : ∃ k, m.cl[i]? = some k ∧ k.c = k'.c ∧ k.tok = k'.tok := by
  have := congrArg (fun l => l[i]?) h
  simp only [List.getElem?_map, hk, Option.map_some] at this
  cases hc : m.cl[i]? with
  | none => rw [hc] at this; cases this
  | some k =>
    rw [hc] at this
    simp only [Option.map_some, Option.some.injEq] at this
    exact ⟨k, rfl, (congrArg Prod.fst this).symm, (congrArg Prod.snd this).symm⟩
theorem ct_n {m m' : QM} (h : m'.cl.map ct = m.cl.map ct) : m'.n = m.n := by
  have := congrArg List.length h
  simpa [QM.n] using this
theorem PT.same {ts : List Int} {m m' : QM} (p : PT ts m) (h : m'.cl.map ct = m.cl.map ct) : PT ts m' := by
  refine ⟨by rw [ct_n h]; exact p.1, fun i k' hk hr => ?_⟩
  obtain ⟨k, hk2, e1, e2⟩ := ct_get h hk
  rw [← e2]
  exact p.2 i k hk2 (by rw [e1]; exact hr)
theorem PT.pop {ts : List Int} {m m2 : QM} (p : PT ts m) {i : Nat} {k : Cl} {t : Int} (hk : m.cl[i]? = some k) (h : m2.cl.map ct = (m.cl.map ct).set i (k.c, t)) {ts' : List Int} (h1 : k.c.Rate > 0 → ts' = ts.set i t) (h2 : ¬ k.c.Rate > 0 → ts' = ts) : PT ts' m2 := by
  have hn : m2.n = m.n := by
    have := congrArg List.length h
    simpa [QM.n] using this
  have hi := (List.getElem?_eq_some_iff.1 hk).1
  have hl : ts'.length = m.n := by
    by_cases hr : k.c.Rate > 0
    · rw [h1 hr, List.length_set]; exact p.1
    · rw [h2 hr]; exact p.1
  refine ⟨by rw [hn]; exact hl, fun j k' hj hr => ?_⟩
  have e := congrArg (fun l => l[j]?) h
  simp only [List.getElem?_map, hj, Option.map_some] at e
  by_cases hij : j = i
  · subst hij
    rw [List.getElem?_set_self (by simpa using hi)] at e
    simp only [Option.some.injEq] at e
    have e1 : k'.c = k.c := congrArg Prod.fst e
    have e2 : k'.tok = t := congrArg Prod.snd e
    rw [e1] at hr
    rw [h1 hr, List.getElem?_set_self (by rw [p.1]; exact hi), e2]
  · rw [List.getElem?_set_ne (fun h => hij h.symm), List.getElem?_map] at e
    cases hc : m.cl[j]? with
    | none => rw [hc] at e; cases e
    | some k2 =>
      rw [hc] at e
      simp only [Option.map_some, Option.some.injEq] at e
      have e1 : k'.c = k2.c := congrArg Prod.fst e
      have e2 : k'.tok = k2.tok := congrArg Prod.snd e
      have := p.2 j k2 hc (by rw [← e1]; exact hr)
      by_cases hr2 : k.c.Rate > 0
      · rw [h1 hr2, List.getElem?_set_ne (fun h => hij h.symm), this, e2]
      · rw [h2 hr2, this, e2]
def tk1 (c : api_Class) (t : Int) : Int := if IntKind.wrap .i64 (t + c.Rate) > c.Burst then c.Burst else IntKind.wrap .i64 (t + c.Rate)
theorem PT.tick {ts ts' : List Int} {m : QM} (p : PT ts m) (ok : m.Ok) (hl : ts'.length = ts.length) (h : ∀ (j : Nat) (k : Cl) (t : Int), m.cl[j]? = some k → ts[j]? = some t → ts'[j]? = some (tk1 k.c t)) : PT ts' m.tick := by
  refine ⟨by rw [hl, p.1]; unfold QM.tick QM.n; simp, fun j k' hj hr => ?_⟩
  unfold QM.tick at hj
  simp only [List.getElem?_map, Option.map_eq_some_iff] at hj
  obtain ⟨k, hk, rfl⟩ := hj
  have hr' : k.c.Rate > 0 := by
    split at hr
    · assumption
    · exact hr
  have okk := ok.cl k (List.mem_of_getElem? hk)
  have hcl := okClass_iff.1 okk.c
  have htk := okk.tok hr'
  rw [h j k _ hk (p.2 j k hk hr'), if_pos hr']
  unfold tk1
  rw [wrap_i64 (by omega) (by omega)]
  congr 1
  simp only
  split <;> omega
end Go.Proofs.Ytgddbpmfendaeaa.Lx
