/- Bytes alike, of its program in the M-world: it tells whether they are the same. -/
import Derived.Test.YtoddkagehbcfjaaRingSaid
set_option linter.unusedVariables false
set_option linter.unusedSimpArgs false
namespace Go.Proofs.Ytoddkagehbcfjaa.Lx
open Go Go.Proofs Go.RowKit

section
variable {W w : World} {R Hs : List HP} {p : Option Addr} {ad : List (Option Addr)} {m : RM}
theorem alike_wp {A B : HP} {a b : Sl} {xs ys : List Int} (s : Ss W Hs w) (i : Nat) (e : nth Hs i = some A) (r : Rdb A (cI .u8) a xs) (j : Nat) (e2 : nth Hs j = some B) (r2 : Rdb B (cI .u8) b ys) (hx : Bytes xs) (hy : Bytes ys) : WP (weirlaw3_alike a b) w (fun r w' => r = decide (xs = ys) ∧ Ss W Hs w') := by
  unfold weirlaw3_alike
  refine WP.toStr s i e r (WP.toStr s j e2 r2 (WP.ret ⟨?_, s⟩))
  rw [Bool.eq_iff_iff, beq_iff_eq, decide_eq_true_iff]
  exact bstr_eq hx hy
end
end Go.Proofs.Ytoddkagehbcfjaa.Lx
