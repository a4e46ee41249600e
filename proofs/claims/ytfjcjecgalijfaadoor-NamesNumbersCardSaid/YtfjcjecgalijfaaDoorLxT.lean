/- The types of the translation that the programs use. -/
import Derived.Test.YtfjcjecgalijfaaDoorProg
import Derived.Test.YtfjcjecgalijfaaDoorLxMs
set_option maxRecDepth 100000
set_option linter.unusedVariables false
set_option linter.unusedSimpArgs false
namespace Go.Proofs.YtfjcjecgalijfaaDoor.Lx
open Go Go.Proofs
structure weirlaw0_pair where
  is : Int
  want : Int
  deriving DecidableEq
def z_weirlaw0_pair : weirlaw0_pair := ⟨0, 0⟩
instance : Inhabited weirlaw0_pair := ⟨z_weirlaw0_pair⟩
def c_weirlaw0_pair : Cod weirlaw0_pair := ((cI .i64).pair (cI .i64)).iso (fun x => (x.is, x.want)) (fun p => ⟨p.1, p.2⟩) (fun _ => rfl) (fun _ => rfl)
theorem At_weirlaw0_pair_is (x : weirlaw0_pair) : At (c_weirlaw0_pair.enc x) 0 ((cI .i64).enc x.is) := At.fst
theorem Up_weirlaw0_pair_is (x : weirlaw0_pair) (y : Int) : Upd (c_weirlaw0_pair.enc x) 0 ((cI .i64).enc y) (c_weirlaw0_pair.enc (⟨y, x.want⟩ : weirlaw0_pair)) := Upd.fst
theorem At_weirlaw0_pair_want (x : weirlaw0_pair) : At (c_weirlaw0_pair.enc x) 1 ((cI .i64).enc x.want) := At.last
theorem Up_weirlaw0_pair_want (x : weirlaw0_pair) (y : Int) : Upd (c_weirlaw0_pair.enc x) 1 ((cI .i64).enc y) (c_weirlaw0_pair.enc (⟨x.is, y⟩ : weirlaw0_pair)) := Upd.last
theorem Ty3 : Ty Tryd.prog 3 (cI .i64) 0 := ⟨by kernel_rfl, by kernel_rfl⟩
theorem Ty5 : Ty Tryd.prog 5 (cI .u8) 0 := ⟨by kernel_rfl, by kernel_rfl⟩
theorem Ty25 : Ty Tryd.prog 25 c_weirlaw0_pair z_weirlaw0_pair := ⟨by kernel_rfl, by kernel_rfl⟩
theorem Ty32 : Ty Tryd.prog 32 ((cI .u8).arr 24) (Vec.rep 24 0) := ⟨by kernel_rfl, by kernel_rfl⟩
theorem Ty33 : Ty Tryd.prog 33 (cI .u64) 0 := ⟨by kernel_rfl, by kernel_rfl⟩
theorem Ty43 : Ty Tryd.prog 43 ((cI .u8).arr 65) (Vec.rep 65 0) := ⟨by kernel_rfl, by kernel_rfl⟩
theorem F4 : Fun Tryd.prog 4 Tryd.f4 := ⟨Tryd.func4, by kernel_rfl, by kernel_rfl⟩
theorem F5 : Fun Tryd.prog 5 Tryd.f5 := ⟨Tryd.func5, by kernel_rfl, by kernel_rfl⟩
theorem F6 : Fun Tryd.prog 6 Tryd.f6 := ⟨Tryd.func6, by kernel_rfl, by kernel_rfl⟩
theorem F7 : Fun Tryd.prog 7 Tryd.f7 := ⟨Tryd.func7, by kernel_rfl, by kernel_rfl⟩
theorem F8 : Fun Tryd.prog 8 Tryd.f8 := ⟨Tryd.func8, by kernel_rfl, by kernel_rfl⟩
theorem F9 : Fun Tryd.prog 9 Tryd.f9 := ⟨Tryd.func9, by kernel_rfl, by kernel_rfl⟩
theorem F10 : Fun Tryd.prog 10 Tryd.f10 := ⟨Tryd.func10, by kernel_rfl, by kernel_rfl⟩
theorem F11 : Fun Tryd.prog 11 Tryd.f11 := ⟨Tryd.func11, by kernel_rfl, by kernel_rfl⟩
theorem F12 : Fun Tryd.prog 12 Tryd.f12 := ⟨Tryd.func12, by kernel_rfl, by kernel_rfl⟩
theorem F13 : Fun Tryd.prog 13 Tryd.f13 := ⟨Tryd.func13, by kernel_rfl, by kernel_rfl⟩
theorem F14 : Fun Tryd.prog 14 Tryd.f14 := ⟨Tryd.func14, by kernel_rfl, by kernel_rfl⟩
theorem F15 : Fun Tryd.prog 15 Tryd.f15 := ⟨Tryd.func15, by kernel_rfl, by kernel_rfl⟩
theorem F16 : Fun Tryd.prog 16 Tryd.f16 := ⟨Tryd.func16, by kernel_rfl, by kernel_rfl⟩
theorem F17 : Fun Tryd.prog 17 Tryd.f17 := ⟨Tryd.func17, by kernel_rfl, by kernel_rfl⟩
theorem F18 : Fun Tryd.prog 18 Tryd.f18 := ⟨Tryd.func18, by kernel_rfl, by kernel_rfl⟩
theorem F19 : Fun Tryd.prog 19 Tryd.f19 := ⟨Tryd.func19, by kernel_rfl, by kernel_rfl⟩
theorem F21 : Fun Tryd.prog 21 Tryd.f21 := ⟨Tryd.func21, by kernel_rfl, by kernel_rfl⟩
def str0 : ByteArray := ⟨#[48, 49, 50, 51, 52, 53, 54, 55, 56, 57, 97, 98, 99, 100, 101, 102, 103, 104, 105, 106, 107, 108, 109, 110, 111, 112, 113, 114, 115, 116, 117, 118, 119, 120, 121, 122]⟩
def str1 : ByteArray := ⟨#[48, 48, 48, 49, 48, 50, 48, 51, 48, 52, 48, 53, 48, 54, 48, 55, 48, 56, 48, 57, 49, 48, 49, 49, 49, 50, 49, 51, 49, 52, 49, 53, 49, 54, 49, 55, 49, 56, 49, 57, 50, 48, 50, 49, 50, 50, 50, 51, 50, 52, 50, 53, 50, 54, 50, 55, 50, 56, 50, 57, 51, 48, 51, 49, 51, 50, 51, 51, 51, 52, 51, 53, 51, 54, 51, 55, 51, 56, 51, 57, 52, 48, 52, 49, 52, 50, 52, 51, 52, 52, 52, 53, 52, 54, 52, 55, 52, 56, 52, 57, 53, 48, 53, 49, 53, 50, 53, 51, 53, 52, 53, 53, 53, 54, 53, 55, 53, 56, 53, 57, 54, 48, 54, 49, 54, 50, 54, 51, 54, 52, 54, 53, 54, 54, 54, 55, 54, 56, 54, 57, 55, 48, 55, 49, 55, 50, 55, 51, 55, 52, 55, 53, 55, 54, 55, 55, 55, 56, 55, 57, 56, 48, 56, 49, 56, 50, 56, 51, 56, 52, 56, 53, 56, 54, 56, 55, 56, 56, 56, 57, 57, 48, 57, 49, 57, 50, 57, 51, 57, 52, 57, 53, 57, 54, 57, 55, 57, 56, 57, 57]⟩
def str2 : ByteArray := ⟨#[0, 1, 2, 2, 3, 3, 3, 3, 4, 4, 4, 4, 4, 4, 4, 4, 5, 5, 5, 5, 5, 5, 5, 5, 5, 5, 5, 5, 5, 5, 5, 5, 6, 6, 6, 6, 6, 6, 6, 6, 6, 6, 6, 6, 6, 6, 6, 6, 6, 6, 6, 6, 6, 6, 6, 6, 6, 6, 6, 6, 6, 6, 6, 6, 7, 7, 7, 7, 7, 7, 7, 7, 7, 7, 7, 7, 7, 7, 7, 7, 7, 7, 7, 7, 7, 7, 7, 7, 7, 7, 7, 7, 7, 7, 7, 7, 7, 7, 7, 7, 7, 7, 7, 7, 7, 7, 7, 7, 7, 7, 7, 7, 7, 7, 7, 7, 7, 7, 7, 7, 7, 7, 7, 7, 7, 7, 7, 7, 8, 8, 8, 8, 8, 8, 8, 8, 8, 8, 8, 8, 8, 8, 8, 8, 8, 8, 8, 8, 8, 8, 8, 8, 8, 8, 8, 8, 8, 8, 8, 8, 8, 8, 8, 8, 8, 8, 8, 8, 8, 8, 8, 8, 8, 8, 8, 8, 8, 8, 8, 8, 8, 8, 8, 8, 8, 8, 8, 8, 8, 8, 8, 8, 8, 8, 8, 8, 8, 8, 8, 8, 8, 8, 8, 8, 8, 8, 8, 8, 8, 8, 8, 8, 8, 8, 8, 8, 8, 8, 8, 8, 8, 8, 8, 8, 8, 8, 8, 8, 8, 8, 8, 8, 8, 8, 8, 8, 8, 8, 8, 8, 8, 8, 8, 8, 8, 8, 8, 8, 8, 8, 8, 8, 8, 8, 8, 8]⟩
def str3 : ByteArray := ⟨#[115, 116, 114, 99, 111, 110, 118, 58, 32, 105, 108, 108, 101, 103, 97, 108, 32, 65, 112, 112, 101, 110, 100, 73, 110, 116, 47, 70, 111, 114, 109, 97, 116, 73, 110, 116, 32, 98, 97, 115, 101]⟩
def str4 : ByteArray := ⟨#[101, 114, 114, 111, 114, 32]⟩
def str5 : ByteArray := ⟨#[101, 114, 114, 111, 114, 32, 51, 51]⟩
def str6 : ByteArray := ⟨#[101, 114, 114, 111, 114, 32, 45, 53]⟩
theorem mixed : Tryd.prog.follows .mixedOrders = true := by kernel_rfl
end Go.Proofs.YtfjcjecgalijfaaDoor.Lx
