/- weirlaw4.AddrBack: what is written is read back. -/
import Derived.Test.YtddmmgcfanpmmaaDoorAddrStart
set_option linter.unusedVariables false
set_option linter.unusedSimpArgs false
namespace Go.Proofs.YtddmmgcfanpmmaaDoor.Lx
open Go Go.Proofs Go.RowKit
theorem isHex_byt {c : Int} (h : isHex c = true) : 0 ≤ c ∧ c ≤ 255 := by
  have h := of_decide_eq_true h
  unfold hexV at h
  split at h
  · omega
  · split at h
    · omega
    · split at h <;> omega
theorem wcols_byt {ms : List (List Int)} {ns : List Nat} (h : Grps ms ns) : Byt (wcols ms) := by
  induction h with
  | nil => intro c hc; cases hc
  | @cons m n ms ns g h ih =>
    intro c hc
    rw [wcols_cons] at hc
    rcases List.mem_cons.1 hc with rfl | hc
    · omega
    · rcases List.mem_append.1 hc with hc | hc
      · exact isHex_byt (g.x c hc)
      · exact ih c hc
theorem wtext_byt {ms : List (List Int)} {ns : List Nat} (h : Grps ms ns) : Byt (wtext ms) := by
  cases h with
  | nil => intro c hc; cases hc
  | @cons m n ms ns g h =>
    intro c hc
    rcases List.mem_append.1 (show c ∈ m ++ wcols ms from hc) with hc | hc
    · exact isHex_byt (g.x c hc)
    · exact wcols_byt h c hc
end Go.Proofs.YtddmmgcfanpmmaaDoor.Lx
