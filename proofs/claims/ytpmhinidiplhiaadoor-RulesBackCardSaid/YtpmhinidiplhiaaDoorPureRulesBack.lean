
/- The law RulesBack, of its program in the M-world: it answers true, and nothing that was there is turned. -/
import Derived.Test.YtpmhinidiplhiaaDoorRulesTabs
import Derived.Test.YtpmhinidiplhiaaDoorRulesLaws
set_option linter.unusedVariables false
set_option linter.unusedSimpArgs false
namespace Go.Proofs.YtpmhinidiplhiaaDoor.Lx
open Go Go.Proofs Go.RowKit

theorem ZjW : ∀ (W : World) (u0 : Zaq), Laid W → (G27 W u0) → ∃ W', ZbN u0 W = some (true, W') ∧ Below W.heap.size W W' := by
 intro W u0 hL g0
 obtain ⟨Hs, s, T⟩ := ZtA hL
 obtain ⟨m, A, B, C, D, s, r⟩ := ZsD s g0
 obtain ⟨_, W', h, rfl, L, s'⟩ := ZmB s (T.push.push.push.push) r
 exact ⟨W', h, s'.below⟩
end Go.Proofs.YtpmhinidiplhiaaDoor.Lx
