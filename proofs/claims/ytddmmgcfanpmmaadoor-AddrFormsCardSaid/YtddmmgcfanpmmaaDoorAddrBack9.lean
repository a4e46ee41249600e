/- Plain law: whole texts of version 6 are read. -/
import Derived.Test.YtddmmgcfanpmmaaDoorAddrBack8
set_option linter.unusedVariables false
set_option linter.unusedSimpArgs false
namespace Go.Proofs.YtddmmgcfanpmmaaDoor.Lx
open Go Go.Proofs Go.RowKit
theorem Grps.len {ms : List (List Int)} {ns : List Nat} (h : Grps ms ns) : ms.length = ns.length := by
  induction h with
  | nil => rfl
  | cons _ _ ih => simp [ih]
def wtext : List (List Int) → List Int
  | [] => []
  | m :: ms => m ++ wcols ms
theorem wcols_len {ms : List (List Int)} {ns : List Nat} (h : Grps ms ns) : 2 * ms.length ≤ (wcols ms).length := by
  induction h with
  | nil => simp
  | @cons m n ms ns g h ih =>
    have := g.p
    rw [wcols_cons]
    simp only [List.length_cons, List.length_append]
    omega
theorem double_no {l : List Int} (h : ∀ c r, l = c :: r → c ≠ 58) (gap : Int) : doubleM l ⟨0, [], gap⟩ = .ok (false, ⟨0, [], gap⟩) := by
  unfold doubleM
  rw [if_pos]
  unfold dblAt
  intro h'
  cases l with
  | nil => simp at h'
  | cons c r =>
    simp at h'
    exact h c r rfl h'.1
theorem readM_full {ms : List (List Int)} {ns : List Nat} (h : Grps ms ns) (h8 : ns.length = 8) : readM (wtext ms) = .ok ⟨(wtext ms).length, ns, -1⟩ := by
  cases h with
  | nil => cases h8
  | @cons m n ms ns g h =>
    have hl := wcols_len h
    have h0 := g.p
    simp only [List.length_cons] at h8
    show readM (m ++ wcols ms) = _
    unfold readM
    rw [double_no (hex_ne g)]
    simp only
    exact read_end ms ns m n _ _ [] [] (-1) g h (by simp only [List.length_append]; omega) (fun _ => by simp; omega) (fun h => absurd h (by omega))
theorem readM_gap {ms ks : List (List Int)} {ns qs : List Nat} (h : Grps ms ns) (h' : Grps ks qs) (h7 : ns.length + qs.length ≤ 7) : ∃ e, readM (wtext ms ++ 58 :: 58 :: wtext ks) = .ok ⟨e, ns ++ qs, (ns.length : Int)⟩ := by
  -- behind the gap
  have tail : ∀ (pre : List Int) (f : Nat), ks.length < f → readF (pre ++ wtext ks) f true ⟨pre.length, ns, (ns.length : Int)⟩ = .ok ⟨(pre ++ wtext ks).length, ns ++ qs, (ns.length : Int)⟩ := by
    intro pre f hf
    cases h' with
    | nil =>
      obtain ⟨f, rfl⟩ : ∃ k, f = k + 1 := ⟨f - 1, by simp at hf; omega⟩
      unfold readF
      rw [if_pos (by simp [wtext])]
      simp [wtext]
    | @cons k q ks qs g h' =>
      simp only [List.length_cons] at hf h7
      exact read_end ks qs k q f true pre ns _ g h' (by omega) (fun h => absurd h (by omega)) (fun _ => by omega)
  have hk : 2 * ks.length ≤ (wtext ks).length + 1 := by
    cases h' with
    | nil => simp
    | @cons k q ks qs g h' =>
      have := wcols_len h'
      have := g.p
      show 2 * (ks.length + 1) ≤ (k ++ wcols ks).length + 1
      rw [List.length_append]
      omega
  cases h with
  | nil =>
    refine ⟨(58 :: 58 :: wtext ks).length, ?_⟩
    show readM (58 :: 58 :: wtext ks) = _
    have hd : doubleM (58 :: 58 :: wtext ks) ⟨0, [], -1⟩ = .ok (true, ⟨2, [], 0⟩) := by
      unfold doubleM
      rw [if_neg (by unfold dblAt; simp), if_neg (by simp)]
      rfl
    unfold readM
    rw [hd]
    exact tail [58, 58] _ (by simp only [List.length_cons]; omega)
  | @cons m n ms ns g h =>
    have hl := wcols_len h
    have h0 := g.p
    simp only [List.length_cons] at h7
    have e1 : wtext (m :: ms) ++ 58 :: 58 :: wtext ks = m ++ (wcols ms ++ 58 :: 58 :: wtext ks) := by simp [wtext]
    have e2 : m ++ (wcols ms ++ 58 :: 58 :: wtext ks) = (m ++ (wcols ms ++ [58, 58])) ++ wtext ks := by simp
    refine ⟨((m ++ (wcols ms ++ [58, 58])) ++ wtext ks).length, ?_⟩
    rw [e1]
    unfold readM
    rw [double_no (hex_ne g)]
    simp only
    have h1 := read_upto ms ns m n ((m ++ (wcols ms ++ 58 :: 58 :: wtext ks)).length + 1) (decide ((-1 : Int) ≥ 0)) [] (wtext ks) [] (-1) g h (by simp only [List.length_append]; omega) (by omega) (by simp; omega)
    refine h1.trans ?_
    have e3 : (([] : List Nat).length + 1 + ns.length) = (n :: ns).length := by simp; omega
    rw [e3]
    simp only [List.nil_append]
    rw [e2]
    exact tail _ _ (by simp only [List.length_append, List.length_cons, List.length_nil]; omega)
end Go.Proofs.YtddmmgcfanpmmaaDoor.Lx
