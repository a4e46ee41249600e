/- Plain law: the reading steps of an address of version 6. -/
import Derived.Test.YtddmmgcfanpmmaaDoorAddrBack6
set_option linter.unusedVariables false
set_option linter.unusedSimpArgs false
namespace Go.Proofs.YtddmmgcfanpmmaaDoor.Lx
open Go Go.Proofs Go.RowKit
structure Grp (mid : List Int) (n : Nat) : Prop where
  x : ∀ c ∈ mid, isHex c = true
  p : 0 < mid.length
  q : mid.length ≤ 4
  v : hexN mid = n
theorem hex4_grp {n : Nat} (h : n < 65536) : Grp (hex4 n) n := ⟨(hex4_ok h).1, (hex4_ok h).2.2.1, (hex4_ok h).2.2.2, (hex4_ok h).2.1⟩
theorem read_last {pre mid : List Int} {n f : Nat} {op : Bool} {gs : List Nat} {gap : Int} (g : Grp mid n) (hr : 1 ≤ (S6.mk pre.length gs gap).room) (hg : ¬ (gap < 0 ∧ gs.length + 1 ≠ 8)) :
    readF (pre ++ mid) (f + 1) op ⟨pre.length, gs, gap⟩ = .ok ⟨(pre ++ mid).length, gs ++ [n], gap⟩ := by
  have h := groupM_at (pre := pre) (post := []) (gs := gs) (gap := gap) g.x g.p g.q g.v (by intro c r h; cases h) hr
  rw [List.append_nil] at h
  have hp := g.p
  unfold readF
  rw [if_neg (fun h' => by have := h'.1; simp only [List.length_append] at this; omega), h]
  simp only
  rw [if_pos (by simp), if_neg (by simpa using hg)]
  simp
theorem read_more {pre mid post : List Int} {n f : Nat} {op : Bool} {gs : List Nat} {gap : Int} (g : Grp mid n) (hr : 1 ≤ (S6.mk pre.length gs gap).room) (hp : ∀ c r, post = c :: r → c ≠ 58) :
    readF (pre ++ (mid ++ 58 :: post)) (f + 1) op ⟨pre.length, gs, gap⟩ = readF (pre ++ (mid ++ 58 :: post)) f false ⟨(pre ++ (mid ++ [58])).length, gs ++ [n], gap⟩ := by
  have h := groupM_at (pre := pre) (post := 58 :: post) (gs := gs) (gap := gap) g.x g.p g.q g.v colon_hex hr
  have h0 := g.p
  have e1 : (pre ++ (mid ++ 58 :: post)).drop (pre.length + mid.length) = 58 :: post := by
    rw [← List.append_assoc, ← List.length_append, List.drop_left]
  have hd : doubleM (pre ++ (mid ++ 58 :: post)) ⟨pre.length + mid.length, gs ++ [n], gap⟩ = .ok (false, ⟨pre.length + mid.length, gs ++ [n], gap⟩) := by
    unfold doubleM
    rw [if_pos]
    unfold dblAt
    simp only
    rw [e1]
    intro h'
    cases post with
    | nil => simp at h'
    | cons c r =>
      simp at h'
      exact hp c r rfl h'
  rw [readF_next (by simp) h (by simp) hd, if_neg (by simp), if_neg]
  · simp only [List.length_append, List.length_cons, List.length_nil]
    rw [show pre.length + mid.length + 1 = pre.length + (mid.length + (0 + 1)) by omega]
  · intro h'
    refine h' ?_
    rw [List.getD, ← List.append_assoc, List.getElem?_append_right (by simp), show pre.length + mid.length - (pre ++ mid).length = 0 by simp]
    rfl
theorem read_gap {pre mid post : List Int} {n f : Nat} {op : Bool} {gs : List Nat} {gap : Int} (g : Grp mid n) (hr : 1 ≤ (S6.mk pre.length gs gap).room) (h0 : gap < 0) (h8 : gs.length + 1 ≠ 8) :
    readF (pre ++ (mid ++ 58 :: 58 :: post)) (f + 1) op ⟨pre.length, gs, gap⟩ = readF (pre ++ (mid ++ 58 :: 58 :: post)) f true ⟨(pre ++ (mid ++ [58, 58])).length, gs ++ [n], ((gs.length + 1 : Nat) : Int)⟩ := by
  have h := groupM_at (pre := pre) (post := 58 :: 58 :: post) (gs := gs) (gap := gap) g.x g.p g.q g.v colon_hex hr
  have hm := g.p
  have e1 : (pre ++ (mid ++ 58 :: 58 :: post)).drop (pre.length + mid.length) = 58 :: 58 :: post := by
    rw [← List.append_assoc, ← List.length_append, List.drop_left]
  have hd : doubleM (pre ++ (mid ++ 58 :: 58 :: post)) ⟨pre.length + mid.length, gs ++ [n], gap⟩ = .ok (true, ⟨pre.length + mid.length + 2, gs ++ [n], ((gs.length + 1 : Nat) : Int)⟩) := by
    unfold doubleM
    rw [if_neg, if_neg]
    · simp
    · simp only [List.length_append, List.length_cons, List.length_nil]
      omega
    · unfold dblAt
      simp only
      rw [e1]
      simp
  rw [readF_next (by simp) h (by simp) hd, if_pos rfl]
  simp only [List.length_append, List.length_cons, List.length_nil]
  rw [show pre.length + mid.length + 2 = pre.length + (mid.length + (0 + 1 + 1)) by omega]
end Go.Proofs.YtddmmgcfanpmmaaDoor.Lx
