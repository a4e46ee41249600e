
import Derived.Test.YtpmhinidiplhiaaGreatDoorRulesTabs
import Derived.Test.YtpmhinidiplhiaaGreatDoorRulesLaid
set_option linter.unusedVariables false
set_option linter.unusedSimpArgs false
namespace Go.Proofs.YtpmhinidiplhiaaGreatDoor.Lx
open Go Go.Proofs Go.RowKit
theorem ZoK {W w : World} {Hs : List HP} {u : Zae} (s : Ss W Hs w) (g : G26 W u) : ∃ (m : ZcT) (A B : HP), Ss W (A :: B :: Hs) w ∧ RdSd (A :: B :: Hs) u m ∧ Bnd m := by
 obtain ⟨xs, hx, b1, s⟩ := s.args g.2.1 (by decide)
 obtain ⟨ys, hy, b2, s⟩ := s.args g.2.2 (by decide)
 rw [show Tryz.prog.bytesOf 117 = 32 by kernel_rfl] at b1
 rw [show Tryz.prog.bytesOf 147 = 16 by kernel_rfl] at b2
 exact ⟨⟨u.Not, xs, ys⟩, _, _, s, ⟨rfl, fun p hp => Zt3 (hx p hp).1.2, ⟨1, _, rfl, ZdQ⟩, ⟨0, _, rfl, ZdQ⟩⟩, b1, b2⟩
theorem ZrX {W w : World} {Hs : List HP} {u : Zag} (s : Ss W Hs w) (g : G28 W u) : ∃ (m : Za9) (A B C D : HP), Ss W (A :: B :: C :: D :: Hs) w ∧ RdR (A :: B :: C :: D :: Hs) u m ∧ BndR m := by
 obtain ⟨m1, A, B, s, r1, b1⟩ := ZoK s g.2.2.2.2.2.2.1
 obtain ⟨m2, C, D, s, r2, b2⟩ := ZoK s g.2.2.2.2.2.2.2.1
 exact ⟨⟨u.Act, u.Class, u.Kind, u.Proto, u.In, u.Vid, m1, m2, u.Set, u.Clear, u.Type_, u.Pieces⟩, _, _, _, _, s, ⟨⟨rfl, rfl, rfl, rfl, rfl, rfl, rfl, rfl, rfl, rfl⟩, r1.push.push, r2⟩, b1, b2⟩
end Go.Proofs.YtpmhinidiplhiaaGreatDoor.Lx
