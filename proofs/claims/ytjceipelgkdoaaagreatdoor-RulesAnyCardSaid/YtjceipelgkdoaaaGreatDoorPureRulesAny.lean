
/- The law RulesAny, of its program in the M-world: it answers true, and nothing that was there is turned. -/
import Derived.Test.YtjceipelgkdoaaaGreatDoorRulesLaws6
set_option linter.unusedVariables false
set_option linter.unusedSimpArgs false
namespace Go.Proofs.YtjceipelgkdoaaaGreatDoor.Lx
open Go Go.Proofs Go.RowKit

theorem ZlL : ∀ (W : World) (u0 : Zaf) (u1 : Int) (u2 : Zas), Laid W → (G63 W u0) → ((Lit.int .i64 u1).wf = true) → (G47 W u2) → ∃ W', ZaO u0 u1 u2 W = some (true, W') ∧ Below W.heap.size W W' := by
 intro W u0 u1 u2 hL g0 g1 g2
 obtain ⟨Hs, s, T⟩ := Zs5 hL
 obtain ⟨m, A, B, C, D, s, rr, bd⟩ := Zri s g0
 obtain ⟨vid, E, s, vr, pb⟩ := Ztc s g2
 obtain ⟨_, W', h, rfl, L, s'⟩ := Znu (port := u1) s T.push.push.push.push.push rr.push ⟨rr.from_.byts, rr.to_.byts⟩ vr pb
 exact ⟨W', h, s'.below⟩
end Go.Proofs.YtjceipelgkdoaaaGreatDoor.Lx
