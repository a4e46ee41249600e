
import Derived.Test.YtfgcobigollfjaaDoorRouteFind
set_option linter.unusedVariables false
set_option linter.unusedSimpArgs false
namespace Go.Proofs.YtfgcobigollfjaaDoor.Lx
open Go Go.Proofs Go.RowKit
section
variable {W w : World} {Hs : List HP}
theorem Zi1 {A B : HP} {x y : Sl} {xs ys : List Zab} (s : Ss W Hs w) (i : Nat) (ei : nth Hs i = some A) (rx : Rdb A cRt x xs) (j : Nat) (ej : nth Hs j = some B) (ry : Rdb B cRt y ys) (hl : xs.length < 9223372036854775807) :
  WP (ZaZ x y) w (fun r w' => r = decide (xs = ys) ∧ Ss W Hs w') := by
 have hx := (s.rd_len ei rx).1
 have hy := (s.rd_len ej ry).1
 unfold ZaZ
 refine WP.ite (fun h => WP.ret ⟨(decide_eq_false fun e => h (by rw [hx, hy, e])).symm, s⟩) (fun h => ?_)
 have hxy : xs.length = ys.length := by omega
 refine WP.loopG (γ := Nat) (fun k (z : Int) w => z = (k : Int) ∧ k ≤ xs.length ∧ xs.take k = ys.take k ∧ Ss W Hs w) (fun k _ => xs.length - k) 0 ⟨rfl, Nat.zero_le _, rfl, s⟩ ?_
 clear s
 rintro k _ w ⟨rfl, hk, he, s⟩
 show WP (ZaZ.L1 x y (k : Int)) w _
 unfold ZaZ.L1
 refine WP.ite (fun h => WP.draw' s (fun w s => ?_)) (fun h => WP.done ⟨?_, s⟩)
 ·have h1 : k < xs.length := by omega
  have h2 : k < ys.length := by omega
  refine WP.rdx s i ei rx (by omega) (x := xs[k]) (by rw [Int.toNat_natCast, List.getElem?_eq_getElem h1]) rfl (WP.rdx s j ej ry (by omega) (x := ys[k]) (by rw [Int.toNat_natCast, List.getElem?_eq_getElem h2]) rfl ?_)
  refine WP.ite (fun h3 => WP.done ⟨(decide_eq_false fun e => h3 (by simp [e])).symm, s⟩) (fun h3 => WP.next ⟨k + 1, ⟨?_, h1, ?_, s⟩, by omega⟩)
  ·rw [ZaP (by omega) (by omega)]
   omega
  ·rw [List.take_add_one, List.take_add_one, he, List.getElem?_eq_getElem h1, List.getElem?_eq_getElem h2, Decidable.not_not.1 h3]
 ·have : k = xs.length := by omega
  subst this
  rw [List.take_length, hxy, List.take_length] at he
  exact (decide_eq_true he).symm
end
end Go.Proofs.YtfgcobigollfjaaDoor.Lx
