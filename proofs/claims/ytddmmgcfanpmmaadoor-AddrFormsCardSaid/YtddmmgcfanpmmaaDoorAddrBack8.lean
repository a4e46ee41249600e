/- Plain law: runs of groups are read. -/
import Derived.Test.YtddmmgcfanpmmaaDoorAddrBack7
set_option linter.unusedVariables false
set_option linter.unusedSimpArgs false
namespace Go.Proofs.YtddmmgcfanpmmaaDoor.Lx
open Go Go.Proofs Go.RowKit
def wcols (ms : List (List Int)) : List Int := ms.flatMap fun m => 58 :: m
theorem wcols_cons (m : List Int) (ms : List (List Int)) : wcols (m :: ms) = 58 :: (m ++ wcols ms) := by simp [wcols]
theorem hex_ne {mid : List Int} {n : Nat} (g : Grp mid n) {post : List Int} : ∀ c r, mid ++ post = c :: r → c ≠ 58 := by
  intro c r h hc
  have h0 := g.p
  cases mid with
  | nil => simp at h0
  | cons d ds =>
    cases h
    have := g.x c (by simp)
    rw [hc] at this
    exact absurd this (by decide)
inductive Grps : List (List Int) → List Nat → Prop
  | nil : Grps [] []
  | cons {m : List Int} {n : Nat} {ms : List (List Int)} {ns : List Nat} (g : Grp m n) (h : Grps ms ns) : Grps (m :: ms) (n :: ns)
theorem read_end : ∀ (ms : List (List Int)) (ns : List Nat) (m : List Int) (n f : Nat) (op : Bool) (pre : List Int) (gs : List Nat) (gap : Int), Grp m n → Grps ms ns → ms.length < f → (gap < 0 → gs.length + 1 + ns.length = 8) → (0 ≤ gap → gs.length + 1 + ns.length ≤ 7) →
    readF (pre ++ (m ++ wcols ms)) f op ⟨pre.length, gs, gap⟩ = .ok ⟨(pre ++ (m ++ wcols ms)).length, gs ++ n :: ns, gap⟩
  | [], ns, m, n, f, op, pre, gs, gap, g, h, hf, h8, h7 => by
    cases h
    obtain ⟨f, rfl⟩ : ∃ k, f = k + 1 := ⟨f - 1, by simp at hf; omega⟩
    have e : m ++ wcols [] = m := by simp [wcols]
    rw [e]
    simp only [List.length_nil] at h8 h7
    refine read_last g ?_ (fun h => h.2 (h8 h.1))
    unfold S6.room
    simp only
    split <;> omega
  | m2 :: ms, _, m, n, f, op, pre, gs, gap, g, h, hf, h8, h7 => by
    cases h with
    | cons g2 h =>
      rename_i n2 ns
      simp only [List.length_cons] at hf h8 h7
      obtain ⟨f, rfl⟩ : ∃ k, f = k + 1 := ⟨f - 1, by omega⟩
      rw [wcols_cons]
      rw [read_more g (by unfold S6.room; simp only; split <;> omega) (hex_ne g2)]
      have e1 : pre ++ (m ++ 58 :: (m2 ++ wcols ms)) = (pre ++ (m ++ [58])) ++ (m2 ++ wcols ms) := by simp
      rw [e1, read_end ms ns m2 n2 f false _ (gs ++ [n]) gap g2 h (by omega) (by intro h; have := h8 h; simp only [List.length_append, List.length_cons, List.length_nil]; omega) (by intro h; have := h7 h; simp only [List.length_append, List.length_cons, List.length_nil]; omega)]
      simp
theorem read_upto : ∀ (ms : List (List Int)) (ns : List Nat) (m : List Int) (n f : Nat) (op : Bool) (pre post : List Int) (gs : List Nat) (gap : Int), Grp m n → Grps ms ns → ms.length < f → gap < 0 → gs.length + 1 + ns.length ≤ 7 →
    readF (pre ++ (m ++ (wcols ms ++ 58 :: 58 :: post))) f op ⟨pre.length, gs, gap⟩ = readF (pre ++ (m ++ (wcols ms ++ 58 :: 58 :: post))) (f - (ms.length + 1)) true ⟨(pre ++ (m ++ (wcols ms ++ [58, 58]))).length, gs ++ n :: ns, ((gs.length + 1 + ns.length : Nat) : Int)⟩
  | [], ns, m, n, f, op, pre, post, gs, gap, g, h, hf, h0, h7 => by
    cases h
    obtain ⟨f, rfl⟩ : ∃ k, f = k + 1 := ⟨f - 1, by simp at hf; omega⟩
    simp only [List.length_nil] at h7
    show readF (pre ++ (m ++ 58 :: 58 :: post)) (f + 1) op ⟨pre.length, gs, gap⟩ = _
    rw [read_gap g (by unfold S6.room; simp only; split <;> omega) h0 (by omega)]
    rfl
  | m2 :: ms, _, m, n, f, op, pre, post, gs, gap, g, h, hf, h0, h7 => by
    cases h with
    | cons g2 h =>
      rename_i n2 ns
      simp only [List.length_cons] at hf h7
      obtain ⟨f, rfl⟩ : ∃ k, f = k + 1 := ⟨f - 1, by omega⟩
      have e0 : wcols (m2 :: ms) ++ 58 :: 58 :: post = 58 :: (m2 ++ (wcols ms ++ 58 :: 58 :: post)) := by
        rw [wcols_cons]
        simp
      rw [e0, read_more g (by unfold S6.room; simp only; split <;> omega) (hex_ne g2)]
      have e1 : pre ++ (m ++ 58 :: (m2 ++ (wcols ms ++ 58 :: 58 :: post))) = (pre ++ (m ++ [58])) ++ (m2 ++ (wcols ms ++ 58 :: 58 :: post)) := by simp
      rw [e1, read_upto ms ns m2 n2 f false _ post (gs ++ [n]) gap g2 h (by omega) h0 (by simp only [List.length_append, List.length_cons, List.length_nil]; omega)]
      have e2 : (pre ++ (m ++ [58]) ++ (m2 ++ (wcols ms ++ [58, 58]))).length = (pre ++ (m ++ (wcols (m2 :: ms) ++ [58, 58]))).length := by
        rw [wcols_cons]
        simp
      have e3 : (gs ++ [n]).length + 1 + ns.length = gs.length + 1 + (n2 :: ns).length := by
        simp only [List.length_append, List.length_cons, List.length_nil]
        omega
      rw [e2, e3]
      simp
end Go.Proofs.YtddmmgcfanpmmaaDoor.Lx
