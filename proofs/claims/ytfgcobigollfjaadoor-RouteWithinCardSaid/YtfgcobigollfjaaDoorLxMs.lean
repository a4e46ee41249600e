/- The machine 'Lx', part Ms: texts put together; places compared; a Builder's words (a pointer seen as bytes and back, bytes handed on as a text); what cannot happen. -/
import Derived.Test.YtfgcobigollfjaaDoorLxM
import Derived.Laws.Externs
import Derived.Laws.NewFold
import Derived.Lib.UnsafeStr
import Derived.Lib.AppendStr
set_option linter.unusedVariables false
set_option linter.unusedSimpArgs false
set_option linter.unusedSectionVars false
namespace Go.Proofs.YtfgcobigollfjaaDoor.Lx
open Go
variable [Loops]
def strI (b : ByteArray) : List Int := b.data.toList.map fun x => (x.toNat : Int)
theorem strI_len (b : ByteArray) : (strI b).length = b.size := by
 unfold strI
 rw [List.length_map, Array.length_toList]
 rfl
section
variable {β : Type} {c : Cx} {pend : List Pd} {is : List Nat} {m : Env} {h : Loc} {x : M β} {R : List Pd → Env → Loc → M β → Prop}
theorem SJ.fail {c : Fx} {k : List Item} {F : β → Reach} : SJ c k m h (Lx.fail : M β) F := fun v r v' e => by cases e
theorem OJ.fail : OJ c pend is m h (Lx.fail : M β) R := fun v r v' e => by cases e
end
end Go.Proofs.YtfgcobigollfjaaDoor.Lx
