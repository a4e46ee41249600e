/- Bytes and texts. -/
import Derived.Test.YtddmmgcfanpmmaaGreatDoorLxMs
import Derived.Test.YtddmmgcfanpmmaaGreatDoorLxSh
import Derived.Test.YtddmmgcfanpmmaaGreatDoorLxP
set_option linter.unusedVariables false
set_option linter.unusedSimpArgs false
namespace Go.Proofs.YtddmmgcfanpmmaaGreatDoor.Lx
open Go Go.Proofs Go.RowKit
def Byt (l : List Int) : Prop := ∀ x ∈ l, 0 ≤ x ∧ x ≤ 255
theorem Byt.strI (s : ByteArray) : Byt (strI s) := fun x hx => by
  obtain ⟨y, _, rfl⟩ := List.mem_map.1 hx
  have := y.toNat_lt
  constructor <;> omega
theorem Byt.app {a b : List Int} (ha : Byt a) (hb : Byt b) : Byt (a ++ b) := fun x hx => (List.mem_append.1 hx).elim (ha x) (hb x)
theorem strI_bstr {l : List Int} (h : Byt l) : strI (bstr l) = l := by
  unfold strI bstr
  rw [List.map_map]
  conv => rhs; rw [← List.map_id l]
  apply List.map_congr_left
  intro x hx
  have := h x hx
  show ((UInt8.ofNat x.toNat).toNat : Int) = x
  rw [UInt8.toNat_ofNat']
  omega
theorem bstr_strI (s : ByteArray) : bstr (strI s) = s := by
  obtain ⟨⟨l⟩⟩ := s
  unfold strI bstr
  rw [List.map_map]
  have : ((fun n : Int => UInt8.ofNat n.toNat) ∘ fun x : UInt8 => (x.toNat : Int)) = id := by
    funext x
    show UInt8.ofNat ((x.toNat : Int).toNat) = x
    rw [Int.toNat_natCast, UInt8.ofNat_toNat]
  rw [this, List.map_id]
end Go.Proofs.YtddmmgcfanpmmaaGreatDoor.Lx
