
/- The law RulesUnlike, of its program in the M-world: it answers true, and nothing that was there is turned. -/
import Derived.Test.YtpmhinidiplhiaaDoorRulesArgs
import Derived.Test.YtpmhinidiplhiaaDoorRulesLaws
set_option linter.unusedVariables false
set_option linter.unusedSimpArgs false
namespace Go.Proofs.YtpmhinidiplhiaaDoor.Lx
open Go Go.Proofs Go.RowKit

theorem Ziz : ∀ (W : World) (u0 : Zap) (u1 : Zap), Laid W → (G27 W u0) → (G27 W u1) → ∃ W', Zbx u0 u1 W = some (true, W') ∧ Below W.heap.size W W' := by
 intro W u0 u1 hL g0 g1
 obtain ⟨Hs, s, T⟩ := ZtA hL
 obtain ⟨m, A, B, C, D, s, r⟩ := Zqv s g0
 obtain ⟨n, A', B', C', D', s, q⟩ := Zqv s g1
 obtain ⟨_, W', h, rfl, L, s'⟩ := ZjW s (T.push.push.push.push.push.push.push.push) r.push.push.push.push q
 exact ⟨W', h, s'.below⟩
end Go.Proofs.YtpmhinidiplhiaaDoor.Lx
