/- What the claim's reader tells of the arguments of laws. Printed by lawgen.py. -/
import Derived.Test.YtlkhijflgbobjaaLxR
import Derived.Test.YtlkhijflgbobjaaLxT
set_option linter.unusedVariables false
namespace Go.Proofs.Ytlkhijflgbobjaa.Lx
open Go Go.Proofs
def G23 (W : World) (u : api_NeighConfig) : Prop := ((Lit.int .i64 u.Max).wf = true) ∧ ((Lit.int .i64 u.Line).wf = true) ∧ ((Lit.int .i64 u.Every).wf = true) ∧ ((Lit.int .i64 u.Tries).wf = true) ∧ ((Lit.int .i64 u.Fresh).wf = true)
theorem Op23 : Opens Try.prog 23 c_api_NeighConfig G23 := Opens.mono (Opens.iso (Opens.struct Try.underlying23 (by kernel_rfl) (OpensF.cons (Opens.int Try.underlying3) rfl (by kernel_rfl) (OpensF.cons (Opens.int Try.underlying3) rfl (by kernel_rfl) (OpensF.cons (Opens.int Try.underlying3) rfl (by kernel_rfl) (OpensF.cons (Opens.int Try.underlying3) rfl (by kernel_rfl) (OpensF.one (Opens.int Try.underlying3) rfl (by kernel_rfl))))))) _ _ _ _) (fun W u g => g)
def G32 (W : World) (u : api_IP) : Prop := ((Lit.int .i64 u.V).wf = true) ∧ (∀ x ∈ u.A.l, (Lit.int .u8 x).wf = true)
theorem Op32 : Opens Try.prog 32 c_api_IP G32 := Opens.mono (Opens.iso (Opens.struct Try.underlying32 (by kernel_rfl) (OpensF.cons (Opens.int Try.underlying3) rfl (by kernel_rfl) (OpensF.one (Opens.arr Try.underlying30 (by kernel_rfl) (by kernel_rfl) (Opens.int Try.underlying5)) rfl (by kernel_rfl)))) _ _ _ _) (fun W u g => g)
def G36 (W : World) (u : weirlaw15_Op) : Prop := ((Lit.int .i64 u.Kind).wf = true) ∧ (True) ∧ ((Lit.int .i64 u.Port).wf = true) ∧ (G32 W u.IP) ∧ (∀ x ∈ u.Mac.l, (Lit.int .u8 x).wf = true) ∧ ((Lit.int .i64 u.N).wf = true)
theorem Op36 : Opens Try.prog 36 c_weirlaw15_Op G36 := Opens.mono (Opens.iso (Opens.struct Try.underlying36 (by kernel_rfl) (OpensF.cons (Opens.int Try.underlying3) rfl (by kernel_rfl) (OpensF.cons (Opens.bool Try.underlying4) rfl (by kernel_rfl) (OpensF.cons (Opens.int Try.underlying3) rfl (by kernel_rfl) (OpensF.cons Op32 rfl (by kernel_rfl) (OpensF.cons (Opens.arr Try.underlying34 (by kernel_rfl) (by kernel_rfl) (Opens.int Try.underlying5)) rfl (by kernel_rfl) (OpensF.one (Opens.int Try.underlying3) rfl (by kernel_rfl)))))))) _ _ _ _) (fun W u g => g)
end Go.Proofs.Ytlkhijflgbobjaa.Lx
