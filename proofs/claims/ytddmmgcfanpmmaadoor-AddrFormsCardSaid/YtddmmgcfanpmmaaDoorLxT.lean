/- The types of the translation that the programs use. -/
import Derived.Test.YtddmmgcfanpmmaaDoorProg
import Derived.Test.YtddmmgcfanpmmaaDoorLxMs
set_option linter.unusedVariables false
set_option linter.unusedSimpArgs false
namespace Go.Proofs.YtddmmgcfanpmmaaDoor.Lx
open Go Go.Proofs
structure addr_fault where
  why : Int
  at_ : Int
  deriving DecidableEq
def z_addr_fault : addr_fault := ⟨0, 0⟩
instance : Inhabited addr_fault := ⟨z_addr_fault⟩
def c_addr_fault : Cod addr_fault := ((cI .i64).pair (cI .i64)).iso (fun x => (x.why, x.at_)) (fun p => ⟨p.1, p.2⟩) (fun _ => rfl) (fun _ => rfl)
theorem At_addr_fault_why (x : addr_fault) : At (c_addr_fault.enc x) 0 ((cI .i64).enc x.why) := At.fst
theorem Up_addr_fault_why (x : addr_fault) (y : Int) : Upd (c_addr_fault.enc x) 0 ((cI .i64).enc y) (c_addr_fault.enc (⟨y, x.at_⟩ : addr_fault)) := Upd.fst
theorem At_addr_fault_at_ (x : addr_fault) : At (c_addr_fault.enc x) 1 ((cI .i64).enc x.at_) := At.last
theorem Up_addr_fault_at_ (x : addr_fault) (y : Int) : Upd (c_addr_fault.enc x) 1 ((cI .i64).enc y) (c_addr_fault.enc (⟨x.why, y⟩ : addr_fault)) := Upd.last
structure api_IP where
  V : Int
  A : (Vec Int 16)
  deriving DecidableEq
def z_api_IP : api_IP := ⟨0, (Vec.rep 16 0)⟩
instance : Inhabited api_IP := ⟨z_api_IP⟩
def c_api_IP : Cod api_IP := ((cI .i64).pair ((cI .u8).arr 16)).iso (fun x => (x.V, x.A)) (fun p => ⟨p.1, p.2⟩) (fun _ => rfl) (fun _ => rfl)
theorem At_api_IP_V (x : api_IP) : At (c_api_IP.enc x) 0 ((cI .i64).enc x.V) := At.fst
theorem Up_api_IP_V (x : api_IP) (y : Int) : Upd (c_api_IP.enc x) 0 ((cI .i64).enc y) (c_api_IP.enc (⟨y, x.A⟩ : api_IP)) := Upd.fst
theorem At_api_IP_A (x : api_IP) : At (c_api_IP.enc x) 1 (((cI .u8).arr 16).enc x.A) := At.last
theorem Up_api_IP_A (x : api_IP) (y : (Vec Int 16)) : Upd (c_api_IP.enc x) 1 (((cI .u8).arr 16).enc y) (c_api_IP.enc (⟨x.V, y⟩ : api_IP)) := Upd.last
structure addr_six where
  s : ByteArray
  at_ : Int
  groups : Sl
  gap : Int
  deriving DecidableEq
def z_addr_six : addr_six := ⟨ByteArray.empty, 0, Sl.nil, 0⟩
instance : Inhabited addr_six := ⟨z_addr_six⟩
def c_addr_six : Cod addr_six := (cS.pair ((cI .i64).pair (cL.pair (cI .i64)))).iso (fun x => (x.s, x.at_, x.groups, x.gap)) (fun p => ⟨p.1, p.2.1, p.2.2.1, p.2.2.2⟩) (fun _ => rfl) (fun _ => rfl)
theorem At_addr_six_s (x : addr_six) : At (c_addr_six.enc x) 0 (cS.enc x.s) := At.fst
theorem Up_addr_six_s (x : addr_six) (y : ByteArray) : Upd (c_addr_six.enc x) 0 (cS.enc y) (c_addr_six.enc (⟨y, x.at_, x.groups, x.gap⟩ : addr_six)) := Upd.fst
theorem At_addr_six_at_ (x : addr_six) : At (c_addr_six.enc x) 1 ((cI .i64).enc x.at_) := At.snd (At.fst)
theorem Up_addr_six_at_ (x : addr_six) (y : Int) : Upd (c_addr_six.enc x) 1 ((cI .i64).enc y) (c_addr_six.enc (⟨x.s, y, x.groups, x.gap⟩ : addr_six)) := Upd.snd (Upd.fst)
theorem At_addr_six_groups (x : addr_six) : At (c_addr_six.enc x) 2 (cL.enc x.groups) := At.snd (At.snd (At.fst))
theorem Up_addr_six_groups (x : addr_six) (y : Sl) : Upd (c_addr_six.enc x) 2 (cL.enc y) (c_addr_six.enc (⟨x.s, x.at_, y, x.gap⟩ : addr_six)) := Upd.snd (Upd.snd (Upd.fst))
theorem At_addr_six_gap (x : addr_six) : At (c_addr_six.enc x) 3 ((cI .i64).enc x.gap) := At.snd (At.snd (At.last))
theorem Up_addr_six_gap (x : addr_six) (y : Int) : Upd (c_addr_six.enc x) 3 ((cI .i64).enc y) (c_addr_six.enc (⟨x.s, x.at_, x.groups, y⟩ : addr_six)) := Upd.snd (Upd.snd (Upd.last))
structure strings_Builder where
  addr : (Option Addr)
  buf : Sl
  deriving DecidableEq
def z_strings_Builder : strings_Builder := ⟨none, Sl.nil⟩
instance : Inhabited strings_Builder := ⟨z_strings_Builder⟩
def c_strings_Builder : Cod strings_Builder := (cP.pair cL).iso (fun x => (x.addr, x.buf)) (fun p => ⟨p.1, p.2⟩) (fun _ => rfl) (fun _ => rfl)
theorem At_strings_Builder_addr (x : strings_Builder) : At (c_strings_Builder.enc x) 0 (cP.enc x.addr) := At.fst
theorem Up_strings_Builder_addr (x : strings_Builder) (y : (Option Addr)) : Upd (c_strings_Builder.enc x) 0 (cP.enc y) (c_strings_Builder.enc (⟨y, x.buf⟩ : strings_Builder)) := Upd.fst
theorem At_strings_Builder_buf (x : strings_Builder) : At (c_strings_Builder.enc x) 1 (cL.enc x.buf) := At.last
theorem Up_strings_Builder_buf (x : strings_Builder) (y : Sl) : Upd (c_strings_Builder.enc x) 1 (cL.enc y) (c_strings_Builder.enc (⟨x.addr, y⟩ : strings_Builder)) := Upd.last
structure addr_net where
  v : Int
  a : (Vec Int 16)
  bits : Int
  class_ : Int
  deriving DecidableEq
def z_addr_net : addr_net := ⟨0, (Vec.rep 16 0), 0, 0⟩
instance : Inhabited addr_net := ⟨z_addr_net⟩
def c_addr_net : Cod addr_net := ((cI .i64).pair (((cI .u8).arr 16).pair ((cI .i64).pair (cI .i64)))).iso (fun x => (x.v, x.a, x.bits, x.class_)) (fun p => ⟨p.1, p.2.1, p.2.2.1, p.2.2.2⟩) (fun _ => rfl) (fun _ => rfl)
theorem At_addr_net_v (x : addr_net) : At (c_addr_net.enc x) 0 ((cI .i64).enc x.v) := At.fst
theorem At_addr_net_a (x : addr_net) : At (c_addr_net.enc x) 1 (((cI .u8).arr 16).enc x.a) := At.snd (At.fst)
theorem At_addr_net_bits (x : addr_net) : At (c_addr_net.enc x) 17 ((cI .i64).enc x.bits) := At.snd (At.snd (At.fst))
theorem At_addr_net_class_ (x : addr_net) : At (c_addr_net.enc x) 18 ((cI .i64).enc x.class_) := At.snd (At.snd (At.last))
structure api_Prefix where
  IP : api_IP
  Len : Int
  deriving DecidableEq
def z_api_Prefix : api_Prefix := ⟨z_api_IP, 0⟩
instance : Inhabited api_Prefix := ⟨z_api_Prefix⟩
def c_api_Prefix : Cod api_Prefix := (c_api_IP.pair (cI .i64)).iso (fun x => (x.IP, x.Len)) (fun p => ⟨p.1, p.2⟩) (fun _ => rfl) (fun _ => rfl)
theorem At_api_Prefix_IP (x : api_Prefix) : At (c_api_Prefix.enc x) 0 (c_api_IP.enc x.IP) := At.fst
theorem Up_api_Prefix_IP (x : api_Prefix) (y : api_IP) : Upd (c_api_Prefix.enc x) 0 (c_api_IP.enc y) (c_api_Prefix.enc (⟨y, x.Len⟩ : api_Prefix)) := Upd.fst
theorem At_api_Prefix_Len (x : api_Prefix) : At (c_api_Prefix.enc x) 17 ((cI .i64).enc x.Len) := At.last
theorem Up_api_Prefix_Len (x : api_Prefix) (y : Int) : Upd (c_api_Prefix.enc x) 17 ((cI .i64).enc y) (c_api_Prefix.enc (⟨x.IP, y⟩ : api_Prefix)) := Upd.last
theorem Ty3 : Ty Tryd.prog 3 (cI .i64) 0 := ⟨by kernel_rfl, by kernel_rfl⟩
theorem Ty5 : Ty Tryd.prog 5 (cI .u8) 0 := ⟨by kernel_rfl, by kernel_rfl⟩
theorem Ty9 : Ty Tryd.prog 9 cS ByteArray.empty := ⟨by kernel_rfl, by kernel_rfl⟩
theorem Ty22 : Ty Tryd.prog 22 ((cI .u8).arr 16) (Vec.rep 16 0) := ⟨by kernel_rfl, by kernel_rfl⟩
theorem Ty23 : Ty Tryd.prog 23 cL Sl.nil := ⟨by kernel_rfl, by kernel_rfl⟩
theorem Ty27 : Ty Tryd.prog 27 c_api_IP z_api_IP := ⟨by kernel_rfl, by kernel_rfl⟩
theorem Ty28 : Ty Tryd.prog 28 (cI .i64) 0 := ⟨by kernel_rfl, by kernel_rfl⟩
theorem Ty37 : Ty Tryd.prog 37 c_api_Prefix z_api_Prefix := ⟨by kernel_rfl, by kernel_rfl⟩
theorem Ty42 : Ty Tryd.prog 42 ((cI .u8).arr 6) (Vec.rep 6 0) := ⟨by kernel_rfl, by kernel_rfl⟩
theorem Ty55 : Ty Tryd.prog 55 cL Sl.nil := ⟨by kernel_rfl, by kernel_rfl⟩
theorem Ty61 : Ty Tryd.prog 61 c_addr_fault z_addr_fault := ⟨by kernel_rfl, by kernel_rfl⟩
theorem Ty66 : Ty Tryd.prog 66 ((cI .u8).arr 12) (Vec.rep 12 0) := ⟨by kernel_rfl, by kernel_rfl⟩
theorem Ty67 : Ty Tryd.prog 67 ((cI .i64).arr 8) (Vec.rep 8 0) := ⟨by kernel_rfl, by kernel_rfl⟩
theorem Ty73 : Ty Tryd.prog 73 cP none := ⟨by kernel_rfl, by kernel_rfl⟩
theorem Ty75 : Ty Tryd.prog 75 c_strings_Builder z_strings_Builder := ⟨by kernel_rfl, by kernel_rfl⟩
theorem Ty86 : Ty Tryd.prog 86 ((cI .u8).arr 4) (Vec.rep 4 0) := ⟨by kernel_rfl, by kernel_rfl⟩
theorem Ty91 : Ty Tryd.prog 91 c_addr_six z_addr_six := ⟨by kernel_rfl, by kernel_rfl⟩
theorem Ty95 : Ty Tryd.prog 95 c_addr_net z_addr_net := ⟨by kernel_rfl, by kernel_rfl⟩
theorem Ty96 : Ty Tryd.prog 96 (c_addr_net.arr 12) (Vec.rep 12 z_addr_net) := ⟨by kernel_rfl, by kernel_rfl⟩
theorem Ty112 : Ty Tryd.prog 112 ((cI .u8).arr 24) (Vec.rep 24 0) := ⟨by kernel_rfl, by kernel_rfl⟩
theorem Ty113 : Ty Tryd.prog 113 (cI .u64) 0 := ⟨by kernel_rfl, by kernel_rfl⟩
theorem Ty124 : Ty Tryd.prog 124 ((cI .u8).arr 65) (Vec.rep 65 0) := ⟨by kernel_rfl, by kernel_rfl⟩
theorem F8 : Fun Tryd.prog 8 Tryd.f8 := ⟨Tryd.func8, by kernel_rfl, by kernel_rfl⟩
theorem F9 : Fun Tryd.prog 9 Tryd.f9 := ⟨Tryd.func9, by kernel_rfl, by kernel_rfl⟩
theorem F10 : Fun Tryd.prog 10 Tryd.f10 := ⟨Tryd.func10, by kernel_rfl, by kernel_rfl⟩
theorem F11 : Fun Tryd.prog 11 Tryd.f11 := ⟨Tryd.func11, by kernel_rfl, by kernel_rfl⟩
theorem F12 : Fun Tryd.prog 12 Tryd.f12 := ⟨Tryd.func12, by kernel_rfl, by kernel_rfl⟩
theorem F14 : Fun Tryd.prog 14 Tryd.f14 := ⟨Tryd.func14, by kernel_rfl, by kernel_rfl⟩
theorem F16 : Fun Tryd.prog 16 Tryd.f16 := ⟨Tryd.func16, by kernel_rfl, by kernel_rfl⟩
theorem F17 : Fun Tryd.prog 17 Tryd.f17 := ⟨Tryd.func17, by kernel_rfl, by kernel_rfl⟩
theorem F18 : Fun Tryd.prog 18 Tryd.f18 := ⟨Tryd.func18, by kernel_rfl, by kernel_rfl⟩
theorem F19 : Fun Tryd.prog 19 Tryd.f19 := ⟨Tryd.func19, by kernel_rfl, by kernel_rfl⟩
theorem F20 : Fun Tryd.prog 20 Tryd.f20 := ⟨Tryd.func20, by kernel_rfl, by kernel_rfl⟩
theorem F21 : Fun Tryd.prog 21 Tryd.f21 := ⟨Tryd.func21, by kernel_rfl, by kernel_rfl⟩
theorem F22 : Fun Tryd.prog 22 Tryd.f22 := ⟨Tryd.func22, by kernel_rfl, by kernel_rfl⟩
theorem F23 : Fun Tryd.prog 23 Tryd.f23 := ⟨Tryd.func23, by kernel_rfl, by kernel_rfl⟩
theorem F24 : Fun Tryd.prog 24 Tryd.f24 := ⟨Tryd.func24, by kernel_rfl, by kernel_rfl⟩
theorem F25 : Fun Tryd.prog 25 Tryd.f25 := ⟨Tryd.func25, by kernel_rfl, by kernel_rfl⟩
theorem F26 : Fun Tryd.prog 26 Tryd.f26 := ⟨Tryd.func26, by kernel_rfl, by kernel_rfl⟩
theorem F27 : Fun Tryd.prog 27 Tryd.f27 := ⟨Tryd.func27, by kernel_rfl, by kernel_rfl⟩
theorem F28 : Fun Tryd.prog 28 Tryd.f28 := ⟨Tryd.func28, by kernel_rfl, by kernel_rfl⟩
theorem F29 : Fun Tryd.prog 29 Tryd.f29 := ⟨Tryd.func29, by kernel_rfl, by kernel_rfl⟩
theorem F30 : Fun Tryd.prog 30 Tryd.f30 := ⟨Tryd.func30, by kernel_rfl, by kernel_rfl⟩
theorem F31 : Fun Tryd.prog 31 Tryd.f31 := ⟨Tryd.func31, by kernel_rfl, by kernel_rfl⟩
theorem F32 : Fun Tryd.prog 32 Tryd.f32 := ⟨Tryd.func32, by kernel_rfl, by kernel_rfl⟩
theorem F33 : Fun Tryd.prog 33 Tryd.f33 := ⟨Tryd.func33, by kernel_rfl, by kernel_rfl⟩
theorem F34 : Fun Tryd.prog 34 Tryd.f34 := ⟨Tryd.func34, by kernel_rfl, by kernel_rfl⟩
theorem F35 : Fun Tryd.prog 35 Tryd.f35 := ⟨Tryd.func35, by kernel_rfl, by kernel_rfl⟩
theorem F36 : Fun Tryd.prog 36 Tryd.f36 := ⟨Tryd.func36, by kernel_rfl, by kernel_rfl⟩
theorem F37 : Fun Tryd.prog 37 Tryd.f37 := ⟨Tryd.func37, by kernel_rfl, by kernel_rfl⟩
theorem F38 : Fun Tryd.prog 38 Tryd.f38 := ⟨Tryd.func38, by kernel_rfl, by kernel_rfl⟩
theorem F39 : Fun Tryd.prog 39 Tryd.f39 := ⟨Tryd.func39, by kernel_rfl, by kernel_rfl⟩
theorem F40 : Fun Tryd.prog 40 Tryd.f40 := ⟨Tryd.func40, by kernel_rfl, by kernel_rfl⟩
theorem F41 : Fun Tryd.prog 41 Tryd.f41 := ⟨Tryd.func41, by kernel_rfl, by kernel_rfl⟩
theorem F42 : Fun Tryd.prog 42 Tryd.f42 := ⟨Tryd.func42, by kernel_rfl, by kernel_rfl⟩
theorem F43 : Fun Tryd.prog 43 Tryd.f43 := ⟨Tryd.func43, by kernel_rfl, by kernel_rfl⟩
theorem F44 : Fun Tryd.prog 44 Tryd.f44 := ⟨Tryd.func44, by kernel_rfl, by kernel_rfl⟩
theorem F45 : Fun Tryd.prog 45 Tryd.f45 := ⟨Tryd.func45, by kernel_rfl, by kernel_rfl⟩
theorem F46 : Fun Tryd.prog 46 Tryd.f46 := ⟨Tryd.func46, by kernel_rfl, by kernel_rfl⟩
theorem F47 : Fun Tryd.prog 47 Tryd.f47 := ⟨Tryd.func47, by kernel_rfl, by kernel_rfl⟩
theorem F48 : Fun Tryd.prog 48 Tryd.f48 := ⟨Tryd.func48, by kernel_rfl, by kernel_rfl⟩
theorem F49 : Fun Tryd.prog 49 Tryd.f49 := ⟨Tryd.func49, by kernel_rfl, by kernel_rfl⟩
theorem F50 : Fun Tryd.prog 50 Tryd.f50 := ⟨Tryd.func50, by kernel_rfl, by kernel_rfl⟩
theorem F51 : Fun Tryd.prog 51 Tryd.f51 := ⟨Tryd.func51, by kernel_rfl, by kernel_rfl⟩
theorem F52 : Fun Tryd.prog 52 Tryd.f52 := ⟨Tryd.func52, by kernel_rfl, by kernel_rfl⟩
theorem F53 : Fun Tryd.prog 53 Tryd.f53 := ⟨Tryd.func53, by kernel_rfl, by kernel_rfl⟩
theorem F55 : Fun Tryd.prog 55 Tryd.f55 := ⟨Tryd.func55, by kernel_rfl, by kernel_rfl⟩
theorem F56 : Fun Tryd.prog 56 Tryd.f56 := ⟨Tryd.func56, by kernel_rfl, by kernel_rfl⟩
theorem F57 : Fun Tryd.prog 57 Tryd.f57 := ⟨Tryd.func57, by kernel_rfl, by kernel_rfl⟩
theorem F58 : Fun Tryd.prog 58 Tryd.f58 := ⟨Tryd.func58, by kernel_rfl, by kernel_rfl⟩
theorem F59 : Fun Tryd.prog 59 Tryd.f59 := ⟨Tryd.func59, by kernel_rfl, by kernel_rfl⟩
theorem F60 : Fun Tryd.prog 60 Tryd.f60 := ⟨Tryd.func60, by kernel_rfl, by kernel_rfl⟩
theorem F61 : Fun Tryd.prog 61 Tryd.f61 := ⟨Tryd.func61, by kernel_rfl, by kernel_rfl⟩
theorem F62 : Fun Tryd.prog 62 Tryd.f62 := ⟨Tryd.func62, by kernel_rfl, by kernel_rfl⟩
theorem F63 : Fun Tryd.prog 63 Tryd.f63 := ⟨Tryd.func63, by kernel_rfl, by kernel_rfl⟩
theorem F65 : Fun Tryd.prog 65 Tryd.f65 := ⟨Tryd.func65, by kernel_rfl, by kernel_rfl⟩
theorem F66 : Fun Tryd.prog 66 Tryd.f66 := ⟨Tryd.func66, by kernel_rfl, by kernel_rfl⟩
theorem F67 : Fun Tryd.prog 67 Tryd.f67 := ⟨Tryd.func67, by kernel_rfl, by kernel_rfl⟩
theorem F69 : Fun Tryd.prog 69 Tryd.f69 := ⟨Tryd.func69, by kernel_rfl, by kernel_rfl⟩
theorem F70 : Fun Tryd.prog 70 Tryd.f70 := ⟨Tryd.func70, by kernel_rfl, by kernel_rfl⟩
theorem F71 : Fun Tryd.prog 71 Tryd.f71 := ⟨Tryd.func71, by kernel_rfl, by kernel_rfl⟩
theorem F72 : Fun Tryd.prog 72 Tryd.f72 := ⟨Tryd.func72, by kernel_rfl, by kernel_rfl⟩
theorem F73 : Fun Tryd.prog 73 Tryd.f73 := ⟨Tryd.func73, by kernel_rfl, by kernel_rfl⟩
theorem F75 : Fun Tryd.prog 75 Tryd.f75 := ⟨Tryd.func75, by kernel_rfl, by kernel_rfl⟩
theorem F77 : Fun Tryd.prog 77 Tryd.f77 := ⟨Tryd.func77, by kernel_rfl, by kernel_rfl⟩
def str0 : ByteArray := ⟨#[48, 49, 50, 51, 52, 53, 54, 55, 56, 57, 97, 98, 99, 100, 101, 102]⟩
def str1 : ByteArray := ⟨#[48, 49, 50, 51, 52, 53, 54, 55, 56, 57, 65, 66, 67, 68, 69, 70]⟩
def str2 : ByteArray := ⟨#[46]⟩
def str3 : ByteArray := ⟨#[58, 58]⟩
def str4 : ByteArray := ⟨#[58]⟩
def str5 : ByteArray := ⟨#[48, 49, 50, 51, 52, 53, 54, 55, 56, 57, 97, 98, 99, 100, 101, 102, 103, 104, 105, 106, 107, 108, 109, 110, 111, 112, 113, 114, 115, 116, 117, 118, 119, 120, 121, 122]⟩
def str6 : ByteArray := ⟨#[48, 48, 48, 49, 48, 50, 48, 51, 48, 52, 48, 53, 48, 54, 48, 55, 48, 56, 48, 57, 49, 48, 49, 49, 49, 50, 49, 51, 49, 52, 49, 53, 49, 54, 49, 55, 49, 56, 49, 57, 50, 48, 50, 49, 50, 50, 50, 51, 50, 52, 50, 53, 50, 54, 50, 55, 50, 56, 50, 57, 51, 48, 51, 49, 51, 50, 51, 51, 51, 52, 51, 53, 51, 54, 51, 55, 51, 56, 51, 57, 52, 48, 52, 49, 52, 50, 52, 51, 52, 52, 52, 53, 52, 54, 52, 55, 52, 56, 52, 57, 53, 48, 53, 49, 53, 50, 53, 51, 53, 52, 53, 53, 53, 54, 53, 55, 53, 56, 53, 57, 54, 48, 54, 49, 54, 50, 54, 51, 54, 52, 54, 53, 54, 54, 54, 55, 54, 56, 54, 57, 55, 48, 55, 49, 55, 50, 55, 51, 55, 52, 55, 53, 55, 54, 55, 55, 55, 56, 55, 57, 56, 48, 56, 49, 56, 50, 56, 51, 56, 52, 56, 53, 56, 54, 56, 55, 56, 56, 56, 57, 57, 48, 57, 49, 57, 50, 57, 51, 57, 52, 57, 53, 57, 54, 57, 55, 57, 56, 57, 57]⟩
def str7 : ByteArray := ⟨#[0, 1, 2, 2, 3, 3, 3, 3, 4, 4, 4, 4, 4, 4, 4, 4, 5, 5, 5, 5, 5, 5, 5, 5, 5, 5, 5, 5, 5, 5, 5, 5, 6, 6, 6, 6, 6, 6, 6, 6, 6, 6, 6, 6, 6, 6, 6, 6, 6, 6, 6, 6, 6, 6, 6, 6, 6, 6, 6, 6, 6, 6, 6, 6, 7, 7, 7, 7, 7, 7, 7, 7, 7, 7, 7, 7, 7, 7, 7, 7, 7, 7, 7, 7, 7, 7, 7, 7, 7, 7, 7, 7, 7, 7, 7, 7, 7, 7, 7, 7, 7, 7, 7, 7, 7, 7, 7, 7, 7, 7, 7, 7, 7, 7, 7, 7, 7, 7, 7, 7, 7, 7, 7, 7, 7, 7, 7, 7, 8, 8, 8, 8, 8, 8, 8, 8, 8, 8, 8, 8, 8, 8, 8, 8, 8, 8, 8, 8, 8, 8, 8, 8, 8, 8, 8, 8, 8, 8, 8, 8, 8, 8, 8, 8, 8, 8, 8, 8, 8, 8, 8, 8, 8, 8, 8, 8, 8, 8, 8, 8, 8, 8, 8, 8, 8, 8, 8, 8, 8, 8, 8, 8, 8, 8, 8, 8, 8, 8, 8, 8, 8, 8, 8, 8, 8, 8, 8, 8, 8, 8, 8, 8, 8, 8, 8, 8, 8, 8, 8, 8, 8, 8, 8, 8, 8, 8, 8, 8, 8, 8, 8, 8, 8, 8, 8, 8, 8, 8, 8, 8, 8, 8, 8, 8, 8, 8, 8, 8, 8, 8, 8, 8, 8, 8, 8, 8]⟩
def str8 : ByteArray := ⟨#[115, 116, 114, 99, 111, 110, 118, 58, 32, 105, 108, 108, 101, 103, 97, 108, 32, 65, 112, 112, 101, 110, 100, 73, 110, 116, 47, 70, 111, 114, 109, 97, 116, 73, 110, 116, 32, 98, 97, 115, 101]⟩
def str9 : ByteArray := ⟨#[115, 116, 114, 105, 110, 103, 115, 46, 66, 117, 105, 108, 100, 101, 114, 46, 71, 114, 111, 119, 58, 32, 110, 101, 103, 97, 116, 105, 118, 101, 32, 99, 111, 117, 110, 116]⟩
def str10 : ByteArray := ⟨#[115, 116, 114, 105, 110, 103, 115, 58, 32, 74, 111, 105, 110, 32, 111, 117, 116, 112, 117, 116, 32, 108, 101, 110, 103, 116, 104, 32, 111, 118, 101, 114, 102, 108, 111, 119]⟩
def str11 : ByteArray := ⟨#[58, 58, 102, 102, 102, 102, 58]⟩
def str12 : ByteArray := ⟨#[49, 50, 55, 46, 48, 46, 48, 46, 49]⟩
def str13 : ByteArray := ⟨#[47]⟩
theorem Eq5 : EqT Tryd.prog 5 1 (cI .u8) := EqT.int Tryd.underlying5
theorem Eq66 : EqT Tryd.prog 66 2 ((cI .u8).arr 12) := EqT.arr Tryd.underlying66 Ty5 Eq5
theorem Eq22 : EqT Tryd.prog 22 2 ((cI .u8).arr 16) := EqT.arr Tryd.underlying22 Ty5 Eq5
theorem Eq3 : EqT Tryd.prog 3 1 (cI .i64) := EqT.int Tryd.underlying3
theorem Eq27 : EqT Tryd.prog 27 3 c_api_IP := EqT.struct (D := 2) Tryd.underlying27 (by kernel_rfl) rfl (fun d hd x y w => EqFs.congr (EqFs.cons rfl Ty3 (At_api_IP_V x) (At_api_IP_V y) Eq3 (by omega) (EqFs.cons rfl Ty22 (At_api_IP_A x) (At_api_IP_A y) Eq22 (by omega) EqFs.nil)) (by obtain ⟨⟩ := x; obtain ⟨⟩ := y; simp))
theorem Eq37 : EqT Tryd.prog 37 4 c_api_Prefix := EqT.struct (D := 3) Tryd.underlying37 (by kernel_rfl) rfl (fun d hd x y w => EqFs.congr (EqFs.cons rfl Ty27 (At_api_Prefix_IP x) (At_api_Prefix_IP y) Eq27 (by omega) (EqFs.cons rfl Ty3 (At_api_Prefix_Len x) (At_api_Prefix_Len y) Eq3 (by omega) EqFs.nil)) (by obtain ⟨⟩ := x; obtain ⟨⟩ := y; simp))
theorem Eq42 : EqT Tryd.prog 42 2 ((cI .u8).arr 6) := EqT.arr Tryd.underlying42 Ty5 Eq5
theorem mixed : Tryd.prog.follows .mixedOrders = true := by kernel_rfl
end Go.Proofs.YtddmmgcfanpmmaaDoor.Lx
