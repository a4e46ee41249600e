/- Plain law: the bytes of what was read (version 6). -/
import Derived.Test.YtddmmgcfanpmmaaDoorAddrBack9
set_option linter.unusedVariables false
set_option linter.unusedSimpArgs false
namespace Go.Proofs.YtddmmgcfanpmmaaDoor.Lx
open Go Go.Proofs Go.RowKit
def wAt (gs : List Nat) (a z i j : Nat) : Nat := if j < a then (if j < i then gs.getD j 0 else 0) else if a + z ≤ j then (if j - z < i then gs.getD (j - z) 0 else 0) else 0
theorem words_at {st : S6} {a z : Nat} (ha : a ≤ st.gs.length) (hz : st.gs.length + z = 8) (hp : ∀ k, k < st.gs.length → st.pos k = if k < a then k else k + z) : ∀ i, i ≤ st.gs.length → st.words i = (List.range 8).map (wAt st.gs a z i)
  | 0, _ => by
    apply List.ext_getElem?
    intro j
    show (List.replicate 8 0)[j]? = _
    rw [List.getElem?_map]
    by_cases hj : j < 8
    · rw [List.getElem?_range hj, List.getElem?_replicate, if_pos hj]
      show some 0 = some _
      unfold wAt
      simp
    · rw [List.getElem?_eq_none (by simp; omega), List.getElem?_eq_none (by simp; omega)]
      rfl
  | i + 1, hi => by
    have ih := words_at ha hz hp i (by omega)
    have hpi := hp i (by omega)
    have hp8 : st.pos i < 8 := by
      rw [hpi]
      split <;> omega
    show (st.words i).set (st.pos i) (st.gs.getD i 0) = _
    rw [ih]
    apply List.ext_getElem?
    intro j
    by_cases ej : j = st.pos i
    · rw [ej, List.getElem?_set_self (by simp; omega), List.getElem?_map, List.getElem?_range hp8]
      show some _ = some _
      congr 1
      rw [hpi]
      unfold wAt
      by_cases h1 : i < a
      · rw [if_pos h1, if_pos h1, if_pos (by omega)]
      · rw [if_neg h1, if_neg (by omega), if_pos (by omega), if_pos (by omega), show i + z - z = i by omega]
    · rw [List.getElem?_set_ne (fun h => ej h.symm), List.getElem?_map, List.getElem?_map]
      by_cases hj : j < 8
      · rw [List.getElem?_range hj]
        show some _ = some _
        congr 1
        rw [hpi] at ej
        unfold wAt
        by_cases h1 : j < a
        · rw [if_pos h1, if_pos h1]
          by_cases h2 : j < i
          · rw [if_pos h2, if_pos (show j < i + 1 by omega)]
          · have h3 : j ≠ i := by
              intro h
              apply ej
              rw [if_pos (by omega)]
              exact h
            rw [if_neg h2, if_neg (show ¬ j < i + 1 by omega)]
        · rw [if_neg h1, if_neg h1]
          by_cases h2 : a + z ≤ j
          · rw [if_pos h2, if_pos h2]
            by_cases h3 : j - z < i
            · rw [if_pos h3, if_pos (show j - z < i + 1 by omega)]
            · have h4 : j - z ≠ i := by
                intro h
                apply ej
                rw [if_neg (by omega)]
                omega
              rw [if_neg h3, if_neg (show ¬ j - z < i + 1 by omega)]
          · rw [if_neg h2, if_neg h2]
      · rw [List.getElem?_eq_none (by simp; omega)]
        rfl
theorem words_full {st : S6} (hg : st.gap < 0) (h8 : st.gs.length = 8) : st.words st.gs.length = st.gs := by
  rw [words_at (a := 8) (z := 0) (by omega) (by omega) (fun k hk => by unfold S6.pos; rw [if_neg (by omega), if_pos (by omega)]) _ (Nat.le_refl _)]
  apply List.ext_getElem?
  intro j
  rw [List.getElem?_map]
  by_cases hj : j < 8
  · rw [List.getElem?_range hj, List.getElem?_eq_getElem (by omega)]
    show some _ = some _
    unfold wAt
    rw [if_pos hj, if_pos (by omega), List.getD, List.getElem?_eq_getElem (by omega)]
    rfl
  · rw [List.getElem?_eq_none (by simp; omega), List.getElem?_eq_none (by omega)]
    rfl
theorem words_gap {e : Nat} {ns qs : List Nat} (h7 : ns.length + qs.length ≤ 7) : (S6.mk e (ns ++ qs) (ns.length : Int)).words (ns ++ qs).length = ns ++ (List.replicate (8 - (ns.length + qs.length)) 0 ++ qs) := by
  have hl : (ns ++ qs).length = ns.length + qs.length := List.length_append
  rw [words_at (st := S6.mk e (ns ++ qs) (ns.length : Int)) (a := ns.length) (z := 8 - (ns.length + qs.length)) (by simp only; omega) (by simp only; omega) (fun k hk => by
    unfold S6.pos
    simp only
    by_cases h : k < ns.length
    · rw [if_pos h, if_neg (by omega)]
    · rw [if_neg h, if_pos (by omega), hl]) _ (Nat.le_refl _)]
  apply List.ext_getElem?
  intro j
  rw [List.getElem?_map]
  by_cases hj : j < 8
  · rw [List.getElem?_range hj]
    show some (wAt (ns ++ qs) _ _ (ns ++ qs).length j) = _
    unfold wAt
    by_cases h1 : j < ns.length
    · rw [if_pos h1, if_pos (by omega), List.getD, List.getElem?_append_left h1, List.getElem?_append_left h1, List.getElem?_eq_getElem h1]
      rfl
    · rw [if_neg h1, List.getElem?_append_right (by omega)]
      by_cases h2 : ns.length + (8 - (ns.length + qs.length)) ≤ j
      · rw [if_pos h2, if_pos (by omega), List.getD, List.getElem?_append_right (by omega), List.getElem?_append_right (by simp; omega)]
        have e1 : j - (8 - (ns.length + qs.length)) - ns.length = j - ns.length - (List.replicate (8 - (ns.length + qs.length)) 0).length := by
          rw [List.length_replicate]
          omega
        rw [e1, List.getElem?_eq_getElem (by simp; omega)]
        rfl
      · rw [if_neg h2, List.getElem?_append_left (by simp; omega), List.getElem?_replicate, if_pos (by omega)]
  · rw [List.getElem?_eq_none (by simp; omega), List.getElem?_eq_none (by simp; omega)]
    rfl
end Go.Proofs.YtddmmgcfanpmmaaDoor.Lx
