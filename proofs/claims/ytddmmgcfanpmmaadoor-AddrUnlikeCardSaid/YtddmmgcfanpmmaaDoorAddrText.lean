/- Texts compared byte by byte. -/
import Derived.Test.YtddmmgcfanpmmaaDoorAddrBuild
set_option linter.unusedVariables false
set_option linter.unusedSimpArgs false
namespace Go.Proofs.YtddmmgcfanpmmaaDoor.Lx
open Go Go.Proofs Go.RowKit
theorem ba_loop (a : ByteArray) (n : Nat) : ∀ (i : Nat) (r : List UInt8), n + i = a.data.size → ByteArray.toList.loop a i r = r.reverse ++ a.data.toList.drop i := by
  induction n with
  | zero =>
    intro i r h
    unfold ByteArray.toList.loop
    rw [if_neg (show ¬ i < a.size from by show ¬ i < a.data.size; omega), List.drop_of_length_le (by rw [Array.length_toList]; omega), List.append_nil]
  | succ n ih =>
    intro i r h
    have hi : i < a.data.size := by omega
    unfold ByteArray.toList.loop
    rw [if_pos (show i < a.size from hi), ih (i + 1) _ (by omega), List.reverse_cons, List.append_assoc]
    congr 1
    rw [List.drop_eq_getElem_cons (i := i) (by rw [Array.length_toList]; exact hi), Array.getElem_toList]
    show [a.data[i]!] ++ _ = _
    rw [getElem!_pos a.data i hi]
    rfl
theorem ba_toList (a : ByteArray) : a.toList = a.data.toList := by
  unfold ByteArray.toList
  rw [ba_loop a a.data.size 0 [] rfl]
  rfl
theorem ba_eq {a b : ByteArray} : (a.toList == b.toList) = true ↔ a = b := by
  rw [beq_iff_eq, ba_toList, ba_toList]
  exact ⟨fun h => Go.WideShapes.bytes_inj h, fun h => by rw [h]⟩
theorem same_text {α : Type} {a b : ByteArray} {x y : α} (h : a = b ↔ x = y) : (!((a.toList == b.toList) == (eqv x y))) = false := by
  have : (a.toList == b.toList) = eqv x y := by rw [Bool.eq_iff_iff, ba_eq, eqv_iff]; exact h
  rw [this]
  simp
theorem same_text' {α : Type} {a b : ByteArray} {x y : α} (h : a = b ↔ x = y) : ((a.toList == b.toList) == (eqv x y)) = true := by
  have : (a.toList == b.toList) = eqv x y := by rw [Bool.eq_iff_iff, ba_eq, eqv_iff]; exact h
  rw [this]
  simp
end Go.Proofs.YtddmmgcfanpmmaaDoor.Lx
