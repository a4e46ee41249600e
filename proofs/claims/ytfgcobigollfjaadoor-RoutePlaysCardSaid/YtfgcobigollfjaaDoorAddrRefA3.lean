
import Derived.Test.YtfgcobigollfjaaDoorAddrRefA
set_option linter.unusedVariables false
set_option linter.unusedSimpArgs false
namespace Go.Proofs.YtfgcobigollfjaaDoor.Lx
open Go Go.Proofs Go.RowKit
section
variable {W w : World} {Hs : List HP}
def Zjf (a b : List Int) : Nat → Nat → Bool
 | 0, _ => false
 | f + 1, i => if a.getD i 0 ≠ b.getD i 0 then decide (a.getD i 0 < b.getD i 0) else Zjf a b f (i + 1)
def Zk4 (a b : ZaH) : Bool := if a.V ≠ b.V then decide (a.V < b.V) else Zjf a.A.l b.A.l 16 0
theorem ZlV (s : Ss W Hs w) (a b : ZaH) : WP (Zbc a b) w (fun r w' => r = Zk4 a b ∧ Ss W Hs w') := by
 unfold Zbc Zk4
 refine WP.slot' s (fun _ w s => WP.slot' s (fun _ w s => WP.ite (fun h => WP.ret ⟨by rw [if_pos h], s⟩) (fun h => ?_)))
 rw [if_neg h]
 generalize hX : Zjf a.A.l b.A.l 16 0 = X
 refine WP.loopG (γ := Nat) (fun i (x : Int) w => x = (i : Int) ∧ i ≤ 16 ∧ Zjf a.A.l b.A.l (16 - i) i = X ∧ Ss W Hs w) (fun i _ => 16 - i) 0 ⟨rfl, by omega, hX, s⟩ ?_
 clear s hX
 rintro i _ w ⟨rfl, hi, hl, s⟩
 show WP (Zbc.L1 a b (i : Int)) w _
 unfold Zbc.L1
 rw [vecg, vecg]
 refine WP.ite (fun h1 => WP.draw' s (fun w s => WP.chk ⟨by omega, by omega⟩ (WP.chk ⟨by omega, by omega⟩ ?_))) (fun h1 => ?_)
 ·rw [show 16 - i = (15 - i) + 1 by omega] at hl
  unfold Zjf at hl
  refine WP.ite (fun h2 => WP.draw' s (fun w s => WP.chk ⟨by omega, by omega⟩ (WP.chk ⟨by omega, by omega⟩ (WP.done ⟨?_, s⟩)))) (fun h2 => ?_)
  ·rw [← hl, if_pos h2]
  ·rw [if_neg h2] at hl
   rw [ZaP (by omega) (by omega)]
   exact WP.next ⟨i + 1, ⟨by omega, by omega, by rw [show 16 - (i + 1) = 15 - i by omega]; exact hl, s⟩, by omega⟩
 ·rw [show 16 - i = 0 by omega] at hl
  exact WP.done ⟨by rw [← hl]; rfl, s⟩
end
end Go.Proofs.YtfgcobigollfjaaDoor.Lx
