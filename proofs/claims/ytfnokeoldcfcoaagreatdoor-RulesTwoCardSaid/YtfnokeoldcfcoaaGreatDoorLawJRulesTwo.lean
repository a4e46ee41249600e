/- The closed facts on the program that the law RulesTwo's statement asks for, one by one (each wants two gigabytes). Printed by lawgen.py. -/
import Derived.ProofKit
import Derived.LaidMore
import Derived.OpenShut
import Derived.Stop.Joined
import Derived.SevenTiedAt
import Derived.Test.YtfnokeoldcfcoaaGreatDoorRows
import Derived.Test.YtfnokeoldcfcoaaGreatDoorChecked
namespace Go.Proofs.YtfnokeoldcfcoaaGreatDoor.rulesTwo
open Go.ChangeShapes Go.WideShapes Go.ChangeAt Go.RowKit
theorem j0 : (Rows.rulesTwoRow.inPlace == Tryz.pinned.checked.prog.inPlace 3) = true := by kernel_rfl
theorem j1 : (Rows.rulesTwoRow.named == Tryz.pinned.checked.prog.varsNamed 3) = true := by kernel_rfl
theorem j2 : (Rows.rulesTwoRow.unfollowed == Tryz.pinned.checked.prog.unfollowed 3) = true := by kernel_rfl
theorem j3 : (Rows.rulesTwoRow.recurses == Tryz.pinned.checked.prog.recurses 3) = true := by kernel_rfl
theorem joined : joinedFacts Tryz.pinned.checked.prog 3 Tryz.f3 Rows.rulesTwoSpec Rows.rulesTwoRow = true := by
 unfold joinedFacts
 rw [j0, j1, j2, j3]
 kernel_rfl
end Go.Proofs.YtfnokeoldcfcoaaGreatDoor.rulesTwo
