/- Plain law: groups of an address of version 6 are read back. -/
import Derived.Test.YtddmmgcfanpmmaaDoorAddrBack4
set_option linter.unusedVariables false
set_option linter.unusedSimpArgs false
namespace Go.Proofs.YtddmmgcfanpmmaaDoor.Lx
open Go Go.Proofs Go.RowKit
theorem hexL_ok : ∀ (f n : Nat), n < 16 ^ (f + 1) → n < 65536 → (∀ c ∈ hexL f n, isHex c = true) ∧ hexN (hexL f n) = n ∧ 0 < (hexL f n).length ∧ (hexL f n).length ≤ f + 1
  | 0, n, h, _ => by
    have h : n < 16 := by simpa using h
    have e : hexL 0 n = [hexd n] := by
      unfold hexL
      rw [Nat.mod_eq_of_lt h]
    rw [e]
    refine ⟨fun c hc => ?_, ?_, by simp, by simp⟩
    · rw [List.mem_singleton] at hc
      subst hc
      exact isHex_hexd h
    · show 0 * 16 % 1048576 + (hexV (hexd n)).toNat = n
      rw [hexV_hexd h]
      simp
  | f + 1, n, h, h5 => by
    unfold hexL
    split
    · rename_i h
      refine ⟨fun c hc => ?_, ?_, by simp, by simp⟩
      · rw [List.mem_singleton] at hc
        subst hc
        exact isHex_hexd h
      · show 0 * 16 % 1048576 + (hexV (hexd n)).toNat = n
        rw [hexV_hexd h]
        simp
    · obtain ⟨i1, i2, i3, i4⟩ := hexL_ok f (n / 16) (by rw [Nat.pow_succ] at h; omega) (by omega)
      refine ⟨fun c hc => ?_, ?_, by simp, by simp; omega⟩
      · rcases List.mem_append.1 hc with hc | hc
        · exact i1 c hc
        · rw [List.mem_singleton] at hc
          subst hc
          exact isHex_hexd (by omega)
      · rw [hexN_snoc, i2, hexV_hexd (by omega)]
        omega
theorem hex4_ok {n : Nat} (h : n < 65536) : (∀ c ∈ hex4 n, isHex c = true) ∧ hexN (hex4 n) = n ∧ 0 < (hex4 n).length ∧ (hex4 n).length ≤ 4 := hexL_ok 3 n (by simpa using h) h
theorem groupM_at {pre mid post : List Int} {n : Nat} {gs : List Nat} {gap : Int} (hx : ∀ c ∈ mid, isHex c = true) (h0 : 0 < mid.length) (h4 : mid.length ≤ 4) (hn : hexN mid = n) (hp : ∀ c r, post = c :: r → isHex c = false ∧ c ≠ 46) (hr : 1 ≤ (S6.mk pre.length gs gap).room) :
    groupM (pre ++ (mid ++ post)) ⟨pre.length, gs, gap⟩ = .ok (false, ⟨pre.length + mid.length, gs ++ [n], gap⟩) := by
  have hru : runE isHex (pre ++ (mid ++ post)) pre.length = pre.length + mid.length := run_at hx (fun c r h => (hp c r h).1)
  have ht : ((pre ++ (mid ++ post)).drop pre.length).take (pre.length + mid.length - pre.length) = mid := by
    rw [List.drop_left, Nat.add_sub_cancel_left, List.take_left]
  unfold groupM
  simp only
  rw [hru, if_neg (by omega), if_neg ?_, if_neg (by omega), if_neg (by omega), ht, hn]
  rintro ⟨h1, h2, -⟩
  cases post with
  | nil => simp at h1
  | cons c r =>
    refine (hp c r rfl).2 ?_
    rw [List.getD, ← List.append_assoc, List.getElem?_append_right (by simp), show pre.length + mid.length - (pre ++ mid).length = 0 by simp] at h2
    exact h2
def cols (gs : List Nat) : List Int := gs.flatMap fun g => 58 :: hex4 g
theorem colM_cons (g : Nat) (r : List Nat) : colM (g :: r) = hex4 g ++ cols r := by simp [colM, joinL, cols, List.flatMap_map]
theorem colon_hex {r' : List Int} : ∀ c r, 58 :: r' = c :: r → isHex c = false ∧ c ≠ 46 := by
  intro c r h
  cases h
  decide
end Go.Proofs.YtddmmgcfanpmmaaDoor.Lx
