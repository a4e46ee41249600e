
import Derived.Test.YtpmhinidiplhiaaGreatDoorRulesModel
set_option linter.unusedVariables false
set_option linter.unusedSimpArgs false
namespace Go.Proofs.YtpmhinidiplhiaaGreatDoor.Lx
open Go Go.Proofs Go.RowKit
theorem Zh1 (a : Nat) : BitVec.ofInt 64 (a : Int) = BitVec.ofNat 64 a := by
 apply BitVec.eq_of_toNat_eq
 simp [BitVec.toNat_ofInt, BitVec.toNat_ofNat]
theorem ZqP {a b : Nat} (ha : a < 256) (hb : b < 256) : bor .i64 (a : Int) (b : Int) = ((a ||| b : Nat) : Int) := by
 have h : a ||| b < 2 ^ 8 := Nat.or_lt_two_pow ha hb
 unfold bor
 rw [show IntKind.i64.bits = 64 from rfl, Zh1, Zh1, BitVec.toNat_or, BitVec.toNat_ofNat, BitVec.toNat_ofNat, Nat.mod_eq_of_lt (by omega), Nat.mod_eq_of_lt (by omega), Zah (by omega) (by omega)]
theorem ZrW {a b : Nat} (ha : a < 256) (hb : b < 256) : band .i64 (a : Int) (b : Int) = ((a &&& b : Nat) : Int) := by
 have h : a &&& b ≤ a := Nat.and_le_left
 unfold band
 rw [show IntKind.i64.bits = 64 from rfl, Zh1, Zh1, BitVec.toNat_and, BitVec.toNat_ofNat, BitVec.toNat_ofNat, Nat.mod_eq_of_lt (by omega), Nat.mod_eq_of_lt (by omega), Zah (by omega) (by omega)]
theorem ZrV : ∀ n : _root_.Fin 256, band .i64 (n.val : Int) 1 = ((n.val % 2 : Nat) : Int) := by decide +kernel
theorem ZeZ (a k : Nat) : hasB (a : Int) k = a.testBit k := by
 unfold hasB
 rw [Bool.eq_iff_iff, decide_eq_true_iff, Nat.testBit_eq_decide_div_mod_eq, decide_eq_true_iff]
 have : ((2 : Int) ^ k) = ((2 ^ k : Nat) : Int) := by push_cast; rfl
 rw [this, ← Int.natCast_ediv]
 omega
theorem Zsk {a : Nat} (ha : a < 256) {k : Nat} (hk : k < 8) : (band .i64 (Int.fdiv (a : Int) (2 ^ min (Int.toNat (IntKind.wrap .u64 (k : Int))) 64)) 1 = 1) ↔ hasB (a : Int) k = true := by
 have hw : IntKind.wrap .u64 (k : Int) = (k : Int) := Zfh (by omega) (by omega)
 rw [hw, Int.toNat_natCast, show min k 64 = k by omega]
 have e : Int.fdiv (a : Int) (2 ^ k) = ((a / 2 ^ k : Nat) : Int) := by
  have : ((2 : Int) ^ k) = ((2 ^ k : Nat) : Int) := by push_cast; rfl
  rw [this, Int.fdiv_eq_ediv_of_nonneg _ (Int.natCast_nonneg _), Int.natCast_ediv]
 have hlt : a / 2 ^ k < 256 := Nat.lt_of_le_of_lt (Nat.div_le_self ..) ha
 have hb := ZrV ⟨a / 2 ^ k, hlt⟩
 simp only at hb
 rw [e, hb, ZeZ, Nat.testBit_eq_decide_div_mod_eq, decide_eq_true_iff]
 omega
theorem Zsj {s c : Int} (hs : 0 ≤ s ∧ s ≤ 255) (hc : 0 ≤ c ∧ c ≤ 255) {k : Nat} (hk : k < 8) : (band .i64 (Int.fdiv (bor .i64 s c) (2 ^ min (Int.toNat (IntKind.wrap .u64 (k : Int))) 64)) 1 = 1) ↔ (hasB s k || hasB c k) = true := by
 obtain ⟨a, rfl⟩ : ∃ a : Nat, s = a := ⟨s.toNat, by omega⟩
 obtain ⟨b, rfl⟩ : ∃ b : Nat, c = b := ⟨c.toNat, by omega⟩
 rw [ZqP (by omega) (by omega), Zsk (Nat.or_lt_two_pow (n := 8) (by omega) (by omega)) hk, ZeZ, ZeZ, ZeZ, Nat.testBit_or]
theorem ZlY {s : Int} (hs : 0 ≤ s ∧ s ≤ 255) {k : Nat} (hk : k < 8) : (band .i64 (Int.fdiv s (2 ^ min (Int.toNat (IntKind.wrap .u64 (k : Int))) 64)) 1 = 1) ↔ hasB s k = true := by
 obtain ⟨a, rfl⟩ : ∃ a : Nat, s = a := ⟨s.toNat, by omega⟩
 exact Zsk (by omega) hk
theorem Ztf : ∀ a : _root_.Fin 256, ∀ k : _root_.Fin 8, hasB (a.val : Int) k.val = false → bor .i64 (a.val : Int) (IntKind.wrap .i64 (1 * 2 ^ min (Int.toNat (IntKind.wrap .u64 (k.val : Int))) 64)) = (a.val : Int) + 2 ^ k.val ∧ (a.val : Int) + 2 ^ k.val ≤ 255 := by decide +kernel
theorem Zl0 {s : Int} (hs : 0 ≤ s ∧ s ≤ 255) {k : Nat} (hk : k < 8) (h : hasB s k = false) : bor .i64 s (IntKind.wrap .i64 (1 * 2 ^ min (Int.toNat (IntKind.wrap .u64 (k : Int))) 64)) = s + 2 ^ k ∧ 0 ≤ s + 2 ^ k ∧ s + 2 ^ k ≤ 255 := by
 obtain ⟨a, rfl⟩ : ∃ a : Nat, s = a := ⟨s.toNat, by omega⟩
 obtain ⟨h1, h2⟩ := Ztf ⟨a, by omega⟩ ⟨k, hk⟩ h
 simp only at h1 h2
 have : (0 : Int) < 2 ^ k := Int.pow_pos (by omega)
 exact ⟨h1, by omega, h2⟩
theorem ZrS {s c : Int} (hs : 0 ≤ s ∧ s ≤ 255) (hc : 0 ≤ c ∧ c ≤ 255) : bor .i64 s c ≠ 0 ↔ (s ≠ 0 ∨ c ≠ 0) := by
 obtain ⟨a, rfl⟩ : ∃ a : Nat, s = a := ⟨s.toNat, by omega⟩
 obtain ⟨b, rfl⟩ : ∃ b : Nat, c = b := ⟨c.toNat, by omega⟩
 rw [ZqP (by omega) (by omega)]
 have : a ||| b = 0 ↔ a = 0 ∧ b = 0 := Nat.or_eq_zero_iff
 omega
theorem Zpn {s c : Int} (hs : 0 ≤ s ∧ s ≤ 255) (hc : 0 ≤ c ∧ c ≤ 255) : band .i64 s c = 0 ↔ Zgu s c = false := by
 obtain ⟨a, rfl⟩ : ∃ a : Nat, s = a := ⟨s.toNat, by omega⟩
 obtain ⟨b, rfl⟩ : ∃ b : Nat, c = b := ⟨c.toNat, by omega⟩
 rw [ZrW (by omega) (by omega)]
 unfold Zgu
 rw [List.any_eq_false]
 constructor
 ·intro h k _
  have h0 : a &&& b = 0 := by omega
  rw [ZeZ, ZeZ, ← Nat.testBit_and, h0]
  simp
 ·intro h
  have : a &&& b = 0 := by
   refine Nat.eq_of_testBit_eq fun k => ?_
   rw [Nat.zero_testBit]
   by_cases hk : k < 8
   ·have := h k (List.mem_range.2 hk)
    rw [ZeZ, ZeZ, ← Nat.testBit_and] at this
    simpa using this
   ·have hle : a &&& b ≤ a := Nat.and_le_left
    refine Nat.testBit_lt_two_pow (Nat.lt_of_lt_of_le (show a &&& b < 2 ^ 8 by omega) (Nat.pow_le_pow_right (by omega) (by omega)))
  rw [this]
  rfl
end Go.Proofs.YtpmhinidiplhiaaGreatDoor.Lx
