/- The closed facts on the program that the law RulesNot's statement asks for, one by one (each wants two gigabytes). Printed by lawgen.py. -/
import Derived.ProofKit
import Derived.LaidMore
import Derived.OpenShut
import Derived.Stop.Joined
import Derived.SevenTiedAt
import Derived.Test.YtjceipelgkdoaaaGreatDoorRows
import Derived.Test.YtjceipelgkdoaaaGreatDoorChecked
namespace Go.Proofs.YtjceipelgkdoaaaGreatDoor.rulesNot
open Go.ChangeShapes Go.WideShapes Go.ChangeAt Go.RowKit
theorem j0 : (Rows.rulesNotRow.inPlace == Tryz.pinned.checked.prog.inPlace 5) = true := by kernel_rfl
theorem j1 : (Rows.rulesNotRow.named == Tryz.pinned.checked.prog.varsNamed 5) = true := by kernel_rfl
theorem j2 : (Rows.rulesNotRow.unfollowed == Tryz.pinned.checked.prog.unfollowed 5) = true := by kernel_rfl
theorem j3 : (Rows.rulesNotRow.recurses == Tryz.pinned.checked.prog.recurses 5) = true := by kernel_rfl
theorem joined : joinedFacts Tryz.pinned.checked.prog 5 Tryz.f5 Rows.rulesNotSpec Rows.rulesNotRow = true := by
 unfold joinedFacts
 rw [j0, j1, j2, j3]
 kernel_rfl
end Go.Proofs.YtjceipelgkdoaaaGreatDoor.rulesNot
