/- Plain law: a hardware address that is written is read back. -/
import Derived.Test.YtddmmgcfanpmmaaDoorAddrParse4
import Derived.Test.YtddmmgcfanpmmaaDoorAddrPrint3
set_option linter.unusedVariables false
set_option linter.unusedSimpArgs false
namespace Go.Proofs.YtddmmgcfanpmmaaDoor.Lx
open Go Go.Proofs Go.RowKit
theorem hexV_hexd_tab : ∀ k : _root_.Fin 16, hexV (hexd k.val) = (k.val : Int) := by decide +kernel
theorem hexV_hexd {k : Nat} (h : k < 16) : hexV (hexd k) = (k : Int) := hexV_hexd_tab ⟨k, h⟩
theorem isHex_hexd {k : Nat} (h : k < 16) : isHex (hexd k) = true := by
  unfold isHex
  rw [hexV_hexd h]
  exact decide_eq_true (by omega)
end Go.Proofs.YtddmmgcfanpmmaaDoor.Lx
