/- What the claim's reader tells of the arguments of laws. Printed by lawgen.py. -/
import Derived.Test.YtgddbpmfendaeaaLxR
import Derived.Test.YtgddbpmfendaeaaLxTA
set_option linter.unusedVariables false
namespace Go.Proofs.Ytgddbpmfendaeaa.Lx
open Go Go.Proofs
def G24 (W : World) (u : api_IP) : Prop := ((Lit.int .i64 u.V).wf = true) ∧ (∀ x ∈ u.A.l, (Lit.int .u8 x).wf = true)
theorem Op24 : Opens Try.prog 24 c_api_IP G24 := Opens.mono (Opens.iso (Opens.struct Try.underlying24 (by kernel_rfl) (OpensF.cons (Opens.int Try.underlying3) rfl (by kernel_rfl) (OpensF.one (Opens.arr Try.underlying22 (by kernel_rfl) (by kernel_rfl) (Opens.int Try.underlying5)) rfl (by kernel_rfl)))) _ _ _ _) (fun W u g => g)
end Go.Proofs.Ytgddbpmfendaeaa.Lx
