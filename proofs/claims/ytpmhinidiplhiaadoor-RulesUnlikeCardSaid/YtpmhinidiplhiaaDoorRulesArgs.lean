
import Derived.Test.YtpmhinidiplhiaaDoorRulesTabs
set_option linter.unusedVariables false
set_option linter.unusedSimpArgs false
namespace Go.Proofs.YtpmhinidiplhiaaDoor.Lx
open Go Go.Proofs Go.RowKit
theorem Zqu {W w : World} {Hs : List HP} {u : Zan} (s : Ss W Hs w) (g : G25 W u) : ∃ (m : Zc6) (A B : HP), Ss W (A :: B :: Hs) w ∧ RdSd (A :: B :: Hs) u m := by
 obtain ⟨xs, hx, -, s⟩ := s.args g.2.1 (by decide)
 obtain ⟨ys, hy, -, s⟩ := s.args g.2.2 (by decide)
 exact ⟨⟨u.Not, xs, ys⟩, _, _, s, rfl, fun p hp => Ztn (hx p hp).1.2, ⟨1, _, rfl, ZeE⟩, ⟨0, _, rfl, ZeE⟩⟩
theorem Zqv {W w : World} {Hs : List HP} {u : Zap} (s : Ss W Hs w) (g : G27 W u) : ∃ (m : ZaO) (A B C D : HP), Ss W (A :: B :: C :: D :: Hs) w ∧ RdR (A :: B :: C :: D :: Hs) u m := by
 obtain ⟨m1, A, B, s, r1⟩ := Zqu s g.2.2.2.2.2.2.1
 obtain ⟨m2, C, D, s, r2⟩ := Zqu s g.2.2.2.2.2.2.2.1
 exact ⟨⟨u.Act, u.Class, u.Kind, u.Proto, u.In, u.Vid, m1, m2, u.Set, u.Clear, u.Type_, u.Pieces⟩, _, _, _, _, s, ⟨rfl, rfl, rfl, rfl, rfl, rfl, rfl, rfl, rfl, rfl⟩, r1.push.push, r2⟩
end Go.Proofs.YtpmhinidiplhiaaDoor.Lx
