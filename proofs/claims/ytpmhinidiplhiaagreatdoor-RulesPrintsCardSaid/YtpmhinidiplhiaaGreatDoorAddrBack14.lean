/- Plain words, put together. -/
import Derived.Test.YtpmhinidiplhiaaGreatDoorAddrParse4
import Derived.Test.YtpmhinidiplhiaaGreatDoorAddrPrint3
set_option linter.unusedVariables false
set_option linter.unusedSimpArgs false
namespace Go.Proofs.YtpmhinidiplhiaaGreatDoor.Lx
open Go Go.Proofs Go.RowKit
theorem ZlL : ∀ k : _root_.Fin 16, hexV (hexd k.val) = (k.val : Int) := by decide +kernel
theorem Zh4 {k : Nat} (h : k < 16) : hexV (hexd k) = (k : Int) := ZlL ⟨k, h⟩
theorem ZiE {k : Nat} (h : k < 16) : ZfQ (hexd k) = true := by
 unfold ZfQ
 rw [Zh4 h]
 exact decide_eq_true (by omega)
def dots (xs : List Nat) : List Int := xs.flatMap fun x => 46 :: dec3 x
end Go.Proofs.YtpmhinidiplhiaaGreatDoor.Lx
set_option linter.unusedVariables false
set_option linter.unusedSimpArgs false
namespace Go.Proofs.YtpmhinidiplhiaaGreatDoor.Lx
open Go Go.Proofs Go.RowKit
end Go.Proofs.YtpmhinidiplhiaaGreatDoor.Lx
set_option linter.unusedVariables false
set_option linter.unusedSimpArgs false
namespace Go.Proofs.YtpmhinidiplhiaaGreatDoor.Lx
open Go Go.Proofs Go.RowKit
theorem Zqn : ∀ (f n : Nat), n < 16 ^ (f + 1) → n < 65536 → (∀ c ∈ hexL f n, ZfQ c = true) ∧ hexN (hexL f n) = n ∧ 0 < (hexL f n).length ∧ (hexL f n).length ≤ f + 1
 | 0, n, h, _ => by
  have h : n < 16 := by simpa using h
  have e : hexL 0 n = [hexd n] := by
   unfold hexL
   rw [Nat.mod_eq_of_lt h]
  rw [e]
  refine ⟨fun c hc => ?_, ?_, by simp, by simp⟩
  ·rw [List.mem_singleton] at hc
   subst hc
   exact ZiE h
  ·show 0 * 16 % 1048576 + (hexV (hexd n)).toNat = n
   rw [Zh4 h]
   simp
 | f + 1, n, h, h5 => by
  unfold hexL
  split
  ·rename_i h
   refine ⟨fun c hc => ?_, ?_, by simp, by simp⟩
   ·rw [List.mem_singleton] at hc
    subst hc
    exact ZiE h
   ·show 0 * 16 % 1048576 + (hexV (hexd n)).toNat = n
    rw [Zh4 h]
    simp
  ·obtain ⟨i1, i2, i3, i4⟩ := Zqn f (n / 16) (by rw [Nat.pow_succ] at h; omega) (by omega)
   refine ⟨fun c hc => ?_, ?_, by simp, by simp; omega⟩
   ·rcases List.mem_append.1 hc with hc | hc
    ·exact i1 c hc
    ·rw [List.mem_singleton] at hc
     subst hc
     exact ZiE (by omega)
   ·rw [Zh5, i2, Zh4 (by omega)]
    omega
theorem Zs2 {n : Nat} (h : n < 65536) : (∀ c ∈ hex4 n, ZfQ c = true) ∧ hexN (hex4 n) = n ∧ 0 < (hex4 n).length ∧ (hex4 n).length ≤ 4 := Zqn 3 n (by simpa using h) h
structure Grp (mid : List Int) (n : Nat) : Prop where
 x : ∀ c ∈ mid, ZfQ c = true
 p : 0 < mid.length
 q : mid.length ≤ 4
 v : hexN mid = n
inductive Grps : List (List Int) → List Nat → Prop
 | nil : Grps [] []
 | cons {m : List Int} {n : Nat} {ms : List (List Int)} {ns : List Nat} (g : Grp m n) (h : Grps ms ns) : Grps (m :: ms) (n :: ns)
theorem Grps.len {ms : List (List Int)} {ns : List Nat} (h : Grps ms ns) : ms.length = ns.length := by
 induction h with
 | nil => rfl
 | cons _ _ ih => simp [ih]
end Go.Proofs.YtpmhinidiplhiaaGreatDoor.Lx
set_option linter.unusedVariables false
set_option linter.unusedSimpArgs false
namespace Go.Proofs.YtpmhinidiplhiaaGreatDoor.Lx
open Go Go.Proofs Go.RowKit
end Go.Proofs.YtpmhinidiplhiaaGreatDoor.Lx
set_option linter.unusedVariables false
set_option linter.unusedSimpArgs false
namespace Go.Proofs.YtpmhinidiplhiaaGreatDoor.Lx
open Go Go.Proofs Go.RowKit
end Go.Proofs.YtpmhinidiplhiaaGreatDoor.Lx
set_option linter.unusedVariables false
set_option linter.unusedSimpArgs false
namespace Go.Proofs.YtpmhinidiplhiaaGreatDoor.Lx
open Go Go.Proofs Go.RowKit
end Go.Proofs.YtpmhinidiplhiaaGreatDoor.Lx
set_option linter.unusedVariables false
set_option linter.unusedSimpArgs false
namespace Go.Proofs.YtpmhinidiplhiaaGreatDoor.Lx
open Go Go.Proofs Go.RowKit
end Go.Proofs.YtpmhinidiplhiaaGreatDoor.Lx
set_option linter.unusedVariables false
set_option linter.unusedSimpArgs false
namespace Go.Proofs.YtpmhinidiplhiaaGreatDoor.Lx
open Go Go.Proofs Go.RowKit
end Go.Proofs.YtpmhinidiplhiaaGreatDoor.Lx
set_option linter.unusedVariables false
set_option linter.unusedSimpArgs false
namespace Go.Proofs.YtpmhinidiplhiaaGreatDoor.Lx
open Go Go.Proofs Go.RowKit
end Go.Proofs.YtpmhinidiplhiaaGreatDoor.Lx
