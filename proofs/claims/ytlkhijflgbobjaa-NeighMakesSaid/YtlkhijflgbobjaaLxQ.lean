/- What the claim's reader tells of the arguments of laws. Printed by lawgen.py. -/
import Derived.Test.YtlkhijflgbobjaaLxR
import Derived.Test.YtlkhijflgbobjaaLxT
set_option linter.unusedVariables false
namespace Go.Proofs.Ytlkhijflgbobjaa.Lx
open Go Go.Proofs
def G23 (W : World) (u : api_NeighConfig) : Prop := ((Lit.int .i64 u.Max).wf = true) ∧ ((Lit.int .i64 u.Line).wf = true) ∧ ((Lit.int .i64 u.Every).wf = true) ∧ ((Lit.int .i64 u.Tries).wf = true) ∧ ((Lit.int .i64 u.Fresh).wf = true)
theorem Op23 : Opens Try.prog 23 c_api_NeighConfig G23 := Opens.mono (Opens.iso (Opens.struct Try.underlying23 (by kernel_rfl) (OpensF.cons (Opens.int Try.underlying3) rfl (by kernel_rfl) (OpensF.cons (Opens.int Try.underlying3) rfl (by kernel_rfl) (OpensF.cons (Opens.int Try.underlying3) rfl (by kernel_rfl) (OpensF.cons (Opens.int Try.underlying3) rfl (by kernel_rfl) (OpensF.one (Opens.int Try.underlying3) rfl (by kernel_rfl))))))) _ _ _ _) (fun W u g => g)
end Go.Proofs.Ytlkhijflgbobjaa.Lx
