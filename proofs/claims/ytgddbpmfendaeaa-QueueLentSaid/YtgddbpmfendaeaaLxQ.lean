/- What the claim's reader tells of the arguments of laws. Printed by lawgen.py. -/
import Derived.Test.YtgddbpmfendaeaaLxR
import Derived.Test.YtgddbpmfendaeaaLxT
set_option linter.unusedVariables false
namespace Go.Proofs.Ytgddbpmfendaeaa.Lx
open Go Go.Proofs
def G41 (W : World) (u : api_Class) : Prop := ((Lit.int .i64 u.Quantum).wf = true) ∧ ((Lit.int .i64 u.Items).wf = true) ∧ ((Lit.int .i64 u.Bytes).wf = true) ∧ ((Lit.int .i64 u.Rate).wf = true) ∧ ((Lit.int .i64 u.Burst).wf = true)
theorem Op41 : Opens Try.prog 41 c_api_Class G41 := Opens.mono (Opens.iso (Opens.struct Try.underlying41 (by kernel_rfl) (OpensF.cons (Opens.int Try.underlying3) rfl (by kernel_rfl) (OpensF.cons (Opens.int Try.underlying3) rfl (by kernel_rfl) (OpensF.cons (Opens.int Try.underlying3) rfl (by kernel_rfl) (OpensF.cons (Opens.int Try.underlying3) rfl (by kernel_rfl) (OpensF.one (Opens.int Try.underlying3) rfl (by kernel_rfl))))))) _ _ _ _) (fun W u g => g)
def G48 (W : World) (u : weirlaw18_Op) : Prop := ((Lit.int .i64 u.Kind).wf = true) ∧ (True) ∧ ((Lit.int .i64 u.Class).wf = true) ∧ ((Lit.int .i64 u.Size).wf = true) ∧ ((Lit.int .i64 u.Item).wf = true)
theorem Op48 : Opens Try.prog 48 c_weirlaw18_Op G48 := Opens.mono (Opens.iso (Opens.struct Try.underlying48 (by kernel_rfl) (OpensF.cons (Opens.int Try.underlying3) rfl (by kernel_rfl) (OpensF.cons (Opens.bool Try.underlying4) rfl (by kernel_rfl) (OpensF.cons (Opens.int Try.underlying3) rfl (by kernel_rfl) (OpensF.cons (Opens.int Try.underlying3) rfl (by kernel_rfl) (OpensF.one (Opens.int Try.underlying3) rfl (by kernel_rfl))))))) _ _ _ _) (fun W u g => g)
end Go.Proofs.Ytgddbpmfendaeaa.Lx
