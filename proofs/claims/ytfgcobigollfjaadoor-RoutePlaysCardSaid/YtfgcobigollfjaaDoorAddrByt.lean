
import Derived.Test.YtfgcobigollfjaaDoorLxMs
import Derived.Test.YtfgcobigollfjaaDoorLxSh
import Derived.Test.YtfgcobigollfjaaDoorLxP
set_option linter.unusedVariables false
set_option linter.unusedSimpArgs false
namespace Go.Proofs.YtfgcobigollfjaaDoor.Lx
open Go Go.Proofs Go.RowKit
def Byt (l : List Int) : Prop := ∀ x ∈ l, 0 ≤ x ∧ x ≤ 255
theorem Byt.strI (s : ByteArray) : Byt (strI s) := fun x hx => by
 obtain ⟨y, _, rfl⟩ := List.mem_map.1 hx
 have := y.toNat_lt
 constructor <;> omega
theorem Byt.app {a b : List Int} (ha : Byt a) (hb : Byt b) : Byt (a ++ b) := fun x hx => (List.mem_append.1 hx).elim (ha x) (hb x)
theorem ZlJ {n : Int} (h : 0 ≤ n) (h' : n ≤ 18446744073709551615) : IntKind.wrap .u64 n = n := by
 simp [IntKind.wrap, IntKind.bits, IntKind.signed]
 omega
end Go.Proofs.YtfgcobigollfjaaDoor.Lx
