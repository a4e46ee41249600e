/- The closed facts on the program that the law RulesAny's statement asks for, one by one (each wants two gigabytes). Printed by lawgen.py. -/
import Derived.ProofKit
import Derived.LaidMore
import Derived.OpenShut
import Derived.Stop.Joined
import Derived.SevenTiedAt
import Derived.Test.YtjceipelgkdoaaaGreatDoorRows
import Derived.Test.YtjceipelgkdoaaaGreatDoorChecked
namespace Go.Proofs.YtjceipelgkdoaaaGreatDoor.rulesAny
open Go.ChangeShapes Go.WideShapes Go.ChangeAt Go.RowKit
theorem j0 : (Rows.rulesAnyRow.inPlace == Tryz.pinned.checked.prog.inPlace 4) = true := by kernel_rfl
theorem j1 : (Rows.rulesAnyRow.named == Tryz.pinned.checked.prog.varsNamed 4) = true := by kernel_rfl
theorem j2 : (Rows.rulesAnyRow.unfollowed == Tryz.pinned.checked.prog.unfollowed 4) = true := by kernel_rfl
theorem j3 : (Rows.rulesAnyRow.recurses == Tryz.pinned.checked.prog.recurses 4) = true := by kernel_rfl
theorem joined : joinedFacts Tryz.pinned.checked.prog 4 Tryz.f4 Rows.rulesAnySpec Rows.rulesAnyRow = true := by
 unfold joinedFacts
 rw [j0, j1, j2, j3]
 kernel_rfl
end Go.Proofs.YtjceipelgkdoaaaGreatDoor.rulesAny
