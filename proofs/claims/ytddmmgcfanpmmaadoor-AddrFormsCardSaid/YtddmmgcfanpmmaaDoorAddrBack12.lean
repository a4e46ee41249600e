/- Plain law: an address of version 6 with a dotted end is read. -/
import Derived.Test.YtddmmgcfanpmmaaDoorAddrBack11
set_option linter.unusedVariables false
set_option linter.unusedSimpArgs false
namespace Go.Proofs.YtddmmgcfanpmmaaDoor.Lx
open Go Go.Proofs Go.RowKit
theorem dig_hex {c : Int} (h : 48 ≤ c ∧ c ≤ 57) : isHex c = true := by
  unfold isHex hexV
  rw [if_pos h]
  exact decide_eq_true (by omega)
theorem read_four {pre : List Int} {a : Nat} {r : List Nat} {f : Nat} {op : Bool} {gs : List Nat} {gap : Int} (hr : r.length = 3) (ha : a ≤ 255) (hx : ∀ x ∈ r, x ≤ 255) (hgs : gs ≠ [] ∨ gap ≥ 0) (hroom : 2 ≤ (S6.mk pre.length gs gap).room) (hfin : ¬ (gap < 0 ∧ (gs ++ pairs (a :: r)).length ≠ 8)) :
    readF (pre ++ (dec3 a ++ dots r)) (f + 1) op ⟨pre.length, gs, gap⟩ = .ok ⟨pre.length, gs ++ pairs (a :: r), gap⟩ := by
  have h3 := dec3_tab ⟨a, by omega⟩
  have h4 : 0 < (dec3 a).length := h3.2.2.2.1
  obtain ⟨b, r', rfl⟩ : ∃ b r', r = b :: r' := by
    cases r with
    | nil => cases hr
    | cons b r' => exact ⟨b, r', rfl⟩
  have hru : runE isHex (pre ++ (dec3 a ++ dots (b :: r'))) pre.length = pre.length + (dec3 a).length := run_at (fun c hc => dig_hex (dec3_dig (by omega) hc)) (by
    intro c r h
    rw [dots_cons] at h
    cases h
    decide)
  have hlen : pre.length + (dec3 a).length < (pre ++ (dec3 a ++ dots (b :: r'))).length := by
    rw [dots_cons]
    simp only [List.length_append, List.length_cons]
    omega
  have hdot : (pre ++ (dec3 a ++ dots (b :: r'))).getD (pre.length + (dec3 a).length) 0 = 46 := by
    rw [List.getD, ← List.append_assoc, List.getElem?_append_right (by simp), show pre.length + (dec3 a).length - (pre ++ dec3 a).length = 0 by simp, dots_cons]
    rfl
  have hg : groupM (pre ++ (dec3 a ++ dots (b :: r'))) ⟨pre.length, gs, gap⟩ = .ok (true, ⟨pre.length, gs ++ pairs (a :: b :: r'), gap⟩) := by
    unfold groupM
    simp only
    rw [hru, if_neg (by omega), if_pos ⟨hlen, hdot, hgs⟩, if_neg (by omega), fourM_at hr ha hx]
  unfold readF
  rw [if_neg (fun h => by have := h.1; simp only at this; omega), hg]
  simp only
  rw [if_pos (.inl trivial), if_neg hfin]
theorem pre_mapped : Grp [102, 102, 102, 102] 65535 := ⟨by decide, by decide, by decide, by decide⟩
theorem readM_mapped {a : Nat} {r : List Nat} (hr : r.length = 3) (ha : a ≤ 255) (hx : ∀ x ∈ r, x ≤ 255) : ∃ e, readM ([58, 58, 102, 102, 102, 102, 58] ++ (dec3 a ++ dots r)) = .ok ⟨e, 65535 :: pairs (a :: r), 0⟩ := by
  refine ⟨7, ?_⟩
  have hd : doubleM ([58, 58, 102, 102, 102, 102, 58] ++ (dec3 a ++ dots r)) ⟨0, [], -1⟩ = .ok (true, ⟨2, [], 0⟩) := by
    unfold doubleM
    rw [if_neg (by unfold dblAt; simp), if_neg (by simp)]
    rfl
  have h1 : ∀ c s, dec3 a ++ dots r = c :: s → c ≠ 58 := by
    intro c s h
    have h3 := dec3_tab ⟨a, by omega⟩
    have h4 : 0 < (dec3 a).length := h3.2.2.2.1
    cases hd3 : dec3 a with
    | nil => rw [hd3] at h4; cases h4
    | cons x y =>
      rw [hd3] at h
      cases h
      have := dec3_dig (n := a) (by omega) (c := c) (by rw [hd3]; simp)
      omega
  have hp4 : (pairs (a :: r)).length = 2 := by
    match r, hr with
    | [b, c, d], _ => rfl
  unfold readM
  rw [hd]
  simp only
  have h2 := read_more (pre := [58, 58]) (post := dec3 a ++ dots r) (f := ([58, 58, 102, 102, 102, 102, 58] ++ (dec3 a ++ dots r)).length) (op := decide ((0 : Int) ≥ 0)) (gs := []) (gap := 0) pre_mapped (by decide) h1
  refine h2.trans ?_
  have h3 := read_four (pre := [58, 58, 102, 102, 102, 102, 58]) (f := (dec3 a ++ dots r).length + 6) (op := false) (gs := [65535]) (gap := 0) hr ha hx (.inr (by omega)) (by decide) (fun h => absurd h.1 (by omega))
  have e : ([58, 58, 102, 102, 102, 102, 58] ++ (dec3 a ++ dots r)).length = (dec3 a ++ dots r).length + 6 + 1 := by
    simp only [List.length_append, List.length_cons, List.length_nil]
    omega
  rw [e]
  exact h3
end Go.Proofs.YtddmmgcfanpmmaaDoor.Lx
