/- The types of the translation that the programs use. -/
import Derived.Test.YtgddbpmfendaeaaProg
import Derived.Test.YtgddbpmfendaeaaLxI
set_option linter.unusedVariables false
set_option linter.unusedSimpArgs false
namespace Go.Proofs.Ytgddbpmfendaeaa.Lx
open Go Go.Proofs
/-! api_IP -/
structure api_IP where
  V : Int
  A : (Vec Int 16)
  deriving DecidableEq
def z_api_IP : api_IP := ⟨0, (Vec.rep 16 0)⟩
instance : Inhabited api_IP := ⟨z_api_IP⟩
def c_api_IP : Cod api_IP := ((cI .i64).pair ((cI .u8).arr 16)).iso (fun x => (x.V, x.A)) (fun p => ⟨p.1, p.2⟩) (fun _ => rfl) (fun _ => rfl)
theorem At_api_IP_V (x : api_IP) : At (c_api_IP.enc x) 0 ((cI .i64).enc x.V) := At.fst
theorem Up_api_IP_V (x : api_IP) (y : Int) : Upd (c_api_IP.enc x) 0 ((cI .i64).enc y) (c_api_IP.enc (⟨y, x.A⟩ : api_IP)) := Upd.fst
theorem At_api_IP_A (x : api_IP) : At (c_api_IP.enc x) 1 (((cI .u8).arr 16).enc x.A) := At.last
theorem Up_api_IP_A (x : api_IP) (y : (Vec Int 16)) : Upd (c_api_IP.enc x) 1 (((cI .u8).arr 16).enc y) (c_api_IP.enc (⟨x.V, y⟩ : api_IP)) := Upd.last
theorem Ty3 : Ty Try.prog 3 (cI .i64) 0 := ⟨by kernel_rfl, by kernel_rfl⟩
theorem Ty5 : Ty Try.prog 5 (cI .u8) 0 := ⟨by kernel_rfl, by kernel_rfl⟩
theorem Ty22 : Ty Try.prog 22 ((cI .u8).arr 16) (Vec.rep 16 0) := ⟨by kernel_rfl, by kernel_rfl⟩
theorem Ty24 : Ty Try.prog 24 c_api_IP z_api_IP := ⟨by kernel_rfl, by kernel_rfl⟩
theorem F14 : Fun Try.prog 14 Try.f14 := ⟨Try.func14, by kernel_rfl, by kernel_rfl⟩
theorem Eq3 : EqT Try.prog 3 1 (cI .i64) := EqT.int Try.underlying3
theorem Eq5 : EqT Try.prog 5 1 (cI .u8) := EqT.int Try.underlying5
theorem Eq22 : EqT Try.prog 22 2 ((cI .u8).arr 16) := EqT.arr Try.underlying22 Ty5 Eq5
theorem Eq24 : EqT Try.prog 24 3 c_api_IP := EqT.struct (D := 2) Try.underlying24 (by kernel_rfl) rfl (fun d hd x y w => EqFs.congr (EqFs.cons rfl Ty3 (At_api_IP_V x) (At_api_IP_V y) Eq3 (by omega) (EqFs.cons rfl Ty22 (At_api_IP_A x) (At_api_IP_A y) Eq22 (by omega) EqFs.nil)) (by obtain ⟨⟩ := x; obtain ⟨⟩ := y; simp))
theorem mixed : Try.prog.follows .mixedOrders = true := by kernel_rfl
end Go.Proofs.Ytgddbpmfendaeaa.Lx
