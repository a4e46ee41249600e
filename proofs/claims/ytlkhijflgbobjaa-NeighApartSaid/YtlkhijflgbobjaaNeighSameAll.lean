/- Lists alike, of the program that compares them: All. -/
import Derived.Test.YtlkhijflgbobjaaNeighRefN
set_option linter.unusedVariables false
set_option linter.unusedSimpArgs false
namespace Go.Proofs.Ytlkhijflgbobjaa.Lx
open Go Go.Proofs Go.RowKit
section
variable {W w : World} {R Hs : List HP}
theorem sameAll_wp {A B : HP} {a b : Sl} {xs ys : List api_Neighbour} (s : Ss W Hs w) (i : Nat) (e : nth Hs i = some A) (r : Rdb A cN a xs) (j : Nat) (e2 : nth Hs j = some B) (r2 : Rdb B cN b ys) (hb : xs.length ≤ 4611686018427387904) : WP (weirlaw15_sameAll a b) w (fun r w' => r = decide (xs = ys) ∧ Ss W Hs w') := by
  unfold weirlaw15_sameAll
  have h1 := (s.rd_len e r).1
  have h2 := (s.rd_len e2 r2).1
  refine WP.ite (fun h => WP.ret ⟨(decide_eq_false (fun he => h (by rw [h1, h2, he]))).symm, s⟩) (fun h => ?_)
  have hl : xs.length = ys.length := by omega
  refine WP.loopG (γ := Nat) (fun i x w => x = (i : Int) ∧ i ≤ xs.length ∧ (∀ j, j < i → xs[j]? = ys[j]?) ∧ Ss W Hs w) (fun i _ => xs.length - i) 0 ⟨rfl, by omega, fun j hj => absurd hj (by omega), s⟩ ?_
  clear s
  rintro k _ w ⟨rfl, hk, he, s⟩
  show WP (weirlaw15_sameAll.L1 a b (k : Int)) w _
  unfold weirlaw15_sameAll.L1
  refine WP.ite (fun h => WP.draw' s (fun w s => ?_)) (fun h => WP.done ⟨?_, s⟩)
  · have hk2 : k < xs.length := by omega
    have hx := List.getElem?_eq_getElem hk2
    have hy := List.getElem?_eq_getElem (show k < ys.length by omega)
    generalize xs[k] = x at hx
    generalize ys[k]'(by omega) = y at hy
    refine WP.rdx s i e r (by omega) (x := x) (by rw [Int.toNat_natCast]; exact hx) rfl (WP.rdx s j e2 r2 (by omega) (x := y) (by rw [Int.toNat_natCast]; exact hy) rfl ?_)
    refine WP.ite (fun hne => WP.done ⟨(decide_eq_false (fun hxy => hne ?_)).symm, s⟩) (fun heq => WP.next ?_)
    · subst hxy
      rw [hx] at hy
      exact Option.some.inj hy
    · refine ⟨k + 1, ⟨by rw [wrap_i64 (by omega) (by omega)]; simp, by omega, fun j' hj' => ?_, s⟩, by omega⟩
      by_cases ej : j' = k
      · subst ej
        rw [hx, hy, show x = y from Decidable.not_not.1 heq]
      · exact he j' (by omega)
  · refine (decide_eq_true (List.ext_getElem? fun j' => ?_)).symm
    by_cases hj : j' < k
    · exact he j' hj
    · rw [List.getElem?_eq_none (by omega), List.getElem?_eq_none (by omega)]
end
end Go.Proofs.Ytlkhijflgbobjaa.Lx
