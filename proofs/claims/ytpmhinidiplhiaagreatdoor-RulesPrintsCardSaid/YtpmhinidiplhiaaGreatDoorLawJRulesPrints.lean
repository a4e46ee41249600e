/- The closed facts on the program that the law RulesPrints's statement asks for, one by one (each wants two gigabytes). Printed by lawgen.py. -/
import Derived.ProofKit
import Derived.LaidMore
import Derived.OpenShut
import Derived.Stop.Joined
import Derived.SevenTiedAt
import Derived.Test.YtpmhinidiplhiaaGreatDoorRows
import Derived.Test.YtpmhinidiplhiaaGreatDoorChecked
namespace Go.Proofs.YtpmhinidiplhiaaGreatDoor.rulesPrints
open Go.ChangeShapes Go.WideShapes Go.ChangeAt Go.RowKit
theorem j0 : (Rows.rulesPrintsRow.inPlace == Tryz.pinned.checked.prog.inPlace 4) = true := by kernel_rfl
theorem j1 : (Rows.rulesPrintsRow.named == Tryz.pinned.checked.prog.varsNamed 4) = true := by kernel_rfl
theorem j2 : (Rows.rulesPrintsRow.unfollowed == Tryz.pinned.checked.prog.unfollowed 4) = true := by kernel_rfl
theorem j3 : (Rows.rulesPrintsRow.recurses == Tryz.pinned.checked.prog.recurses 4) = true := by kernel_rfl
theorem joined : joinedFacts Tryz.pinned.checked.prog 4 Tryz.f4 Rows.rulesPrintsSpec Rows.rulesPrintsRow = true := by
 unfold joinedFacts
 rw [j0, j1, j2, j3]
 kernel_rfl
end Go.Proofs.YtpmhinidiplhiaaGreatDoor.rulesPrints
