/- What the claim's reader tells of the arguments of laws. Printed by lawgen.py. -/
import Derived.Test.YtoddkagehbcfjaaLxR
import Derived.Test.YtoddkagehbcfjaaLxT
set_option linter.unusedVariables false
namespace Go.Proofs.Ytoddkagehbcfjaa.Lx
open Go Go.Proofs
def G45 (W : World) (u : weirlaw3_Op) : Prop := ((Lit.int .i64 u.Kind).wf = true) ∧ (True) ∧ ((Lit.int .i64 u.I).wf = true) ∧ ((Lit.int .i64 u.N).wf = true) ∧ (GSl (cI .u8) (Try.prog.bytesOf 5) (fun W u => (Lit.int .u8 u).wf = true) W u.B)
theorem Op45 : Opens Try.prog 45 c_weirlaw3_Op G45 := Opens.mono (Opens.iso (Opens.struct Try.underlying45 (by kernel_rfl) (OpensF.cons (Opens.int Try.underlying3) rfl (by kernel_rfl) (OpensF.cons (Opens.bool Try.underlying4) rfl (by kernel_rfl) (OpensF.cons (Opens.int Try.underlying3) rfl (by kernel_rfl) (OpensF.cons (Opens.int Try.underlying3) rfl (by kernel_rfl) (OpensF.one (Opens.slice Try.underlying22 (by kernel_rfl) (Opens.int Try.underlying5)) rfl (by kernel_rfl))))))) _ _ _ _) (fun W u g => g)
end Go.Proofs.Ytoddkagehbcfjaa.Lx
