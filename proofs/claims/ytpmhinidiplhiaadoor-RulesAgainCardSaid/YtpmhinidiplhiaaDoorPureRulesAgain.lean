
/- The law RulesAgain, of its program in the M-world: it answers true, and nothing that was there is turned. -/
import Derived.Test.YtpmhinidiplhiaaDoorRulesTabs
import Derived.Test.YtpmhinidiplhiaaDoorRulesLaws2
set_option linter.unusedVariables false
set_option linter.unusedSimpArgs false
namespace Go.Proofs.YtpmhinidiplhiaaDoor.Lx
open Go Go.Proofs Go.RowKit

theorem Zj2 : ∀ (W : World) (u0 : ByteArray), Laid W → u0.size ≤ reachBytes → ∃ W', ZbH u0 W = some (true, W') ∧ Below W.heap.size W W' := by
 intro W u0 hL _
 obtain ⟨Hs, s, T⟩ := ZtX hL
 obtain ⟨_, W', h, rfl, L, s'⟩ := ZlL s T u0
 exact ⟨W', h, s'.below⟩
end Go.Proofs.YtpmhinidiplhiaaDoor.Lx
