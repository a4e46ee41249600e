
/- The law RulesNot, of its program in the M-world: it answers true, and nothing that was there is turned. -/
import Derived.Test.YtjceipelgkdoaaaGreatDoorRulesPkt
set_option linter.unusedVariables false
set_option linter.unusedSimpArgs false
namespace Go.Proofs.YtjceipelgkdoaaaGreatDoor.Lx
open Go Go.Proofs Go.RowKit

theorem ZlH : ∀ (W : World) (u0 : Sl) (u1 : Int) (u2 : Zas) (u3 : Bool), Laid W → (GSl Zay (Tryz.prog.bytesOf 91) (fun W u => G91 W u) W u0) → ((Lit.int .i64 u1).wf = true) → (G47 W u2) → (True) → ∃ W', ZaO u0 u1 u2 u3 W = some (true, W') ∧ Below W.heap.size W W' := by
 intro W u0 u1 u2 u3 hL g0 g1 g2 g3
 obtain ⟨Hs, s, T⟩ := ZsX hL
 obtain ⟨xs, hx, b, s⟩ := s.args g0 (by decide)
 obtain ⟨vid, A, s, vr, pb⟩ := Zs4 s g2
 obtain ⟨_, W', h, rfl, L, s'⟩ := Znm (port := u1) (to := u3) s T.push.push 1 rfl (fun p hp => Zke (hx p hp).1.2) vr pb
 exact ⟨W', h, s'.below⟩
end Go.Proofs.YtjceipelgkdoaaaGreatDoor.Lx
