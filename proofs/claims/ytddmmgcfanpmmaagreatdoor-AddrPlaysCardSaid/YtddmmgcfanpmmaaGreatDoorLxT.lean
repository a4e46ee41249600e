/- The types of the translation that the programs use. -/
import Derived.Test.YtddmmgcfanpmmaaGreatDoorProg
import Derived.Test.YtddmmgcfanpmmaaGreatDoorLxMs
set_option linter.unusedVariables false
set_option linter.unusedSimpArgs false
namespace Go.Proofs.YtddmmgcfanpmmaaGreatDoor.Lx
open Go Go.Proofs
structure addr_fault where
 why : Int
 at_ : Int
 deriving DecidableEq
def z_addr_fault : addr_fault := ⟨0, 0⟩
instance : Inhabited addr_fault := ⟨z_addr_fault⟩
def c_addr_fault : Cod addr_fault := ((cI .i64).pair (cI .i64)).iso (fun x => (x.why, x.at_)) (fun p => ⟨p.1, p.2⟩) (fun _ => rfl) (fun _ => rfl)
theorem At_addr_fault_why (x : addr_fault) : At (c_addr_fault.enc x) 0 ((cI .i64).enc x.why) := At.fst
theorem Up_addr_fault_why (x : addr_fault) (y : Int) : Upd (c_addr_fault.enc x) 0 ((cI .i64).enc y) (c_addr_fault.enc (⟨y, x.at_⟩ : addr_fault)) := Upd.fst
theorem At_addr_fault_at_ (x : addr_fault) : At (c_addr_fault.enc x) 1 ((cI .i64).enc x.at_) := At.last
theorem Up_addr_fault_at_ (x : addr_fault) (y : Int) : Upd (c_addr_fault.enc x) 1 ((cI .i64).enc y) (c_addr_fault.enc (⟨x.why, y⟩ : addr_fault)) := Upd.last
structure api_IP where
 V : Int
 A : (Vec Int 16)
 deriving DecidableEq
def z_api_IP : api_IP := ⟨0, (Vec.rep 16 0)⟩
instance : Inhabited api_IP := ⟨z_api_IP⟩
def c_api_IP : Cod api_IP := ((cI .i64).pair ((cI .u8).arr 16)).iso (fun x => (x.V, x.A)) (fun p => ⟨p.1, p.2⟩) (fun _ => rfl) (fun _ => rfl)
theorem At_api_IP_V (x : api_IP) : At (c_api_IP.enc x) 0 ((cI .i64).enc x.V) := At.fst
theorem Up_api_IP_V (x : api_IP) (y : Int) : Upd (c_api_IP.enc x) 0 ((cI .i64).enc y) (c_api_IP.enc (⟨y, x.A⟩ : api_IP)) := Upd.fst
theorem At_api_IP_A (x : api_IP) : At (c_api_IP.enc x) 1 (((cI .u8).arr 16).enc x.A) := At.last
theorem Up_api_IP_A (x : api_IP) (y : (Vec Int 16)) : Upd (c_api_IP.enc x) 1 (((cI .u8).arr 16).enc y) (c_api_IP.enc (⟨x.V, y⟩ : api_IP)) := Upd.last
structure addr_six where
 s : ByteArray
 at_ : Int
 groups : Sl
 gap : Int
 deriving DecidableEq
def z_addr_six : addr_six := ⟨ByteArray.empty, 0, Sl.nil, 0⟩
instance : Inhabited addr_six := ⟨z_addr_six⟩
def c_addr_six : Cod addr_six := (cS.pair ((cI .i64).pair (cL.pair (cI .i64)))).iso (fun x => (x.s, x.at_, x.groups, x.gap)) (fun p => ⟨p.1, p.2.1, p.2.2.1, p.2.2.2⟩) (fun _ => rfl) (fun _ => rfl)
theorem At_addr_six_s (x : addr_six) : At (c_addr_six.enc x) 0 (cS.enc x.s) := At.fst
theorem Up_addr_six_s (x : addr_six) (y : ByteArray) : Upd (c_addr_six.enc x) 0 (cS.enc y) (c_addr_six.enc (⟨y, x.at_, x.groups, x.gap⟩ : addr_six)) := Upd.fst
theorem At_addr_six_at_ (x : addr_six) : At (c_addr_six.enc x) 1 ((cI .i64).enc x.at_) := At.snd (At.fst)
theorem Up_addr_six_at_ (x : addr_six) (y : Int) : Upd (c_addr_six.enc x) 1 ((cI .i64).enc y) (c_addr_six.enc (⟨x.s, y, x.groups, x.gap⟩ : addr_six)) := Upd.snd (Upd.fst)
theorem At_addr_six_groups (x : addr_six) : At (c_addr_six.enc x) 2 (cL.enc x.groups) := At.snd (At.snd (At.fst))
theorem Up_addr_six_groups (x : addr_six) (y : Sl) : Upd (c_addr_six.enc x) 2 (cL.enc y) (c_addr_six.enc (⟨x.s, x.at_, y, x.gap⟩ : addr_six)) := Upd.snd (Upd.snd (Upd.fst))
theorem At_addr_six_gap (x : addr_six) : At (c_addr_six.enc x) 3 ((cI .i64).enc x.gap) := At.snd (At.snd (At.last))
theorem Up_addr_six_gap (x : addr_six) (y : Int) : Upd (c_addr_six.enc x) 3 ((cI .i64).enc y) (c_addr_six.enc (⟨x.s, x.at_, x.groups, y⟩ : addr_six)) := Upd.snd (Upd.snd (Upd.last))
structure strings_Builder where
 addr : (Option Addr)
 buf : Sl
 deriving DecidableEq
def z_strings_Builder : strings_Builder := ⟨none, Sl.nil⟩
instance : Inhabited strings_Builder := ⟨z_strings_Builder⟩
def c_strings_Builder : Cod strings_Builder := (cP.pair cL).iso (fun x => (x.addr, x.buf)) (fun p => ⟨p.1, p.2⟩) (fun _ => rfl) (fun _ => rfl)
theorem At_strings_Builder_addr (x : strings_Builder) : At (c_strings_Builder.enc x) 0 (cP.enc x.addr) := At.fst
theorem Up_strings_Builder_addr (x : strings_Builder) (y : (Option Addr)) : Upd (c_strings_Builder.enc x) 0 (cP.enc y) (c_strings_Builder.enc (⟨y, x.buf⟩ : strings_Builder)) := Upd.fst
theorem At_strings_Builder_buf (x : strings_Builder) : At (c_strings_Builder.enc x) 1 (cL.enc x.buf) := At.last
theorem Up_strings_Builder_buf (x : strings_Builder) (y : Sl) : Upd (c_strings_Builder.enc x) 1 (cL.enc y) (c_strings_Builder.enc (⟨x.addr, y⟩ : strings_Builder)) := Upd.last
structure addr_net where
 v : Int
 a : (Vec Int 16)
 bits : Int
 class_ : Int
 deriving DecidableEq
def z_addr_net : addr_net := ⟨0, (Vec.rep 16 0), 0, 0⟩
instance : Inhabited addr_net := ⟨z_addr_net⟩
def c_addr_net : Cod addr_net := ((cI .i64).pair (((cI .u8).arr 16).pair ((cI .i64).pair (cI .i64)))).iso (fun x => (x.v, x.a, x.bits, x.class_)) (fun p => ⟨p.1, p.2.1, p.2.2.1, p.2.2.2⟩) (fun _ => rfl) (fun _ => rfl)
theorem At_addr_net_v (x : addr_net) : At (c_addr_net.enc x) 0 ((cI .i64).enc x.v) := At.fst
theorem At_addr_net_a (x : addr_net) : At (c_addr_net.enc x) 1 (((cI .u8).arr 16).enc x.a) := At.snd (At.fst)
theorem At_addr_net_bits (x : addr_net) : At (c_addr_net.enc x) 17 ((cI .i64).enc x.bits) := At.snd (At.snd (At.fst))
theorem At_addr_net_class_ (x : addr_net) : At (c_addr_net.enc x) 18 ((cI .i64).enc x.class_) := At.snd (At.snd (At.last))
structure r4_six where
 s : ByteArray
 groups : Sl
 gap : Int
 p : Int
 err : Int
 at_ : Int
 deriving DecidableEq
def z_weirref4_six : r4_six := ⟨ByteArray.empty, Sl.nil, 0, 0, 0, 0⟩
instance : Inhabited r4_six := ⟨z_weirref4_six⟩
def c_weirref4_six : Cod r4_six := (cS.pair (cL.pair ((cI .i64).pair ((cI .i64).pair ((cI .i64).pair (cI .i64)))))).iso (fun x => (x.s, x.groups, x.gap, x.p, x.err, x.at_)) (fun p => ⟨p.1, p.2.1, p.2.2.1, p.2.2.2.1, p.2.2.2.2.1, p.2.2.2.2.2⟩) (fun _ => rfl) (fun _ => rfl)
theorem At_weirref4_six_s (x : r4_six) : At (c_weirref4_six.enc x) 0 (cS.enc x.s) := At.fst
theorem Up_weirref4_six_s (x : r4_six) (y : ByteArray) : Upd (c_weirref4_six.enc x) 0 (cS.enc y) (c_weirref4_six.enc (⟨y, x.groups, x.gap, x.p, x.err, x.at_⟩ : r4_six)) := Upd.fst
theorem At_weirref4_six_groups (x : r4_six) : At (c_weirref4_six.enc x) 1 (cL.enc x.groups) := At.snd (At.fst)
theorem Up_weirref4_six_groups (x : r4_six) (y : Sl) : Upd (c_weirref4_six.enc x) 1 (cL.enc y) (c_weirref4_six.enc (⟨x.s, y, x.gap, x.p, x.err, x.at_⟩ : r4_six)) := Upd.snd (Upd.fst)
theorem At_weirref4_six_gap (x : r4_six) : At (c_weirref4_six.enc x) 2 ((cI .i64).enc x.gap) := At.snd (At.snd (At.fst))
theorem Up_weirref4_six_gap (x : r4_six) (y : Int) : Upd (c_weirref4_six.enc x) 2 ((cI .i64).enc y) (c_weirref4_six.enc (⟨x.s, x.groups, y, x.p, x.err, x.at_⟩ : r4_six)) := Upd.snd (Upd.snd (Upd.fst))
theorem At_weirref4_six_p (x : r4_six) : At (c_weirref4_six.enc x) 3 ((cI .i64).enc x.p) := At.snd (At.snd (At.snd (At.fst)))
theorem Up_weirref4_six_p (x : r4_six) (y : Int) : Upd (c_weirref4_six.enc x) 3 ((cI .i64).enc y) (c_weirref4_six.enc (⟨x.s, x.groups, x.gap, y, x.err, x.at_⟩ : r4_six)) := Upd.snd (Upd.snd (Upd.snd (Upd.fst)))
theorem At_weirref4_six_err (x : r4_six) : At (c_weirref4_six.enc x) 4 ((cI .i64).enc x.err) := At.snd (At.snd (At.snd (At.snd (At.fst))))
theorem Up_weirref4_six_err (x : r4_six) (y : Int) : Upd (c_weirref4_six.enc x) 4 ((cI .i64).enc y) (c_weirref4_six.enc (⟨x.s, x.groups, x.gap, x.p, y, x.at_⟩ : r4_six)) := Upd.snd (Upd.snd (Upd.snd (Upd.snd (Upd.fst))))
theorem At_weirref4_six_at_ (x : r4_six) : At (c_weirref4_six.enc x) 5 ((cI .i64).enc x.at_) := At.snd (At.snd (At.snd (At.snd (At.last))))
theorem Up_weirref4_six_at_ (x : r4_six) (y : Int) : Upd (c_weirref4_six.enc x) 5 ((cI .i64).enc y) (c_weirref4_six.enc (⟨x.s, x.groups, x.gap, x.p, x.err, y⟩ : r4_six)) := Upd.snd (Upd.snd (Upd.snd (Upd.snd (Upd.last))))
structure api_Prefix where
 IP : api_IP
 Len : Int
 deriving DecidableEq
def z_api_Prefix : api_Prefix := ⟨z_api_IP, 0⟩
instance : Inhabited api_Prefix := ⟨z_api_Prefix⟩
def c_api_Prefix : Cod api_Prefix := (c_api_IP.pair (cI .i64)).iso (fun x => (x.IP, x.Len)) (fun p => ⟨p.1, p.2⟩) (fun _ => rfl) (fun _ => rfl)
theorem At_api_Prefix_IP (x : api_Prefix) : At (c_api_Prefix.enc x) 0 (c_api_IP.enc x.IP) := At.fst
theorem Up_api_Prefix_IP (x : api_Prefix) (y : api_IP) : Upd (c_api_Prefix.enc x) 0 (c_api_IP.enc y) (c_api_Prefix.enc (⟨y, x.Len⟩ : api_Prefix)) := Upd.fst
theorem At_api_Prefix_Len (x : api_Prefix) : At (c_api_Prefix.enc x) 17 ((cI .i64).enc x.Len) := At.last
theorem Up_api_Prefix_Len (x : api_Prefix) (y : Int) : Upd (c_api_Prefix.enc x) 17 ((cI .i64).enc y) (c_api_Prefix.enc (⟨x.IP, y⟩ : api_Prefix)) := Upd.last
structure l4_Op where
 Kind : Int
 S : ByteArray
 A : api_IP
 B : api_IP
 P : api_Prefix
 M : (Vec Int 6)
 N : Int
 deriving DecidableEq
def z_weirlaw4_Op : l4_Op := ⟨0, ByteArray.empty, z_api_IP, z_api_IP, z_api_Prefix, (Vec.rep 6 0), 0⟩
instance : Inhabited l4_Op := ⟨z_weirlaw4_Op⟩
def c_weirlaw4_Op : Cod l4_Op := ((cI .i64).pair (cS.pair (c_api_IP.pair (c_api_IP.pair (c_api_Prefix.pair (((cI .u8).arr 6).pair (cI .i64))))))).iso (fun x => (x.Kind, x.S, x.A, x.B, x.P, x.M, x.N)) (fun p => ⟨p.1, p.2.1, p.2.2.1, p.2.2.2.1, p.2.2.2.2.1, p.2.2.2.2.2.1, p.2.2.2.2.2.2⟩) (fun _ => rfl) (fun _ => rfl)
theorem At_weirlaw4_Op_Kind (x : l4_Op) : At (c_weirlaw4_Op.enc x) 0 ((cI .i64).enc x.Kind) := At.fst
theorem At_weirlaw4_Op_S (x : l4_Op) : At (c_weirlaw4_Op.enc x) 1 (cS.enc x.S) := At.snd (At.fst)
theorem At_weirlaw4_Op_A (x : l4_Op) : At (c_weirlaw4_Op.enc x) 2 (c_api_IP.enc x.A) := At.snd (At.snd (At.fst))
theorem At_weirlaw4_Op_B (x : l4_Op) : At (c_weirlaw4_Op.enc x) 19 (c_api_IP.enc x.B) := At.snd (At.snd (At.snd (At.fst)))
theorem At_weirlaw4_Op_P (x : l4_Op) : At (c_weirlaw4_Op.enc x) 36 (c_api_Prefix.enc x.P) := At.snd (At.snd (At.snd (At.snd (At.fst))))
theorem At_weirlaw4_Op_M (x : l4_Op) : At (c_weirlaw4_Op.enc x) 54 (((cI .u8).arr 6).enc x.M) := At.snd (At.snd (At.snd (At.snd (At.snd (At.fst)))))
theorem At_weirlaw4_Op_N (x : l4_Op) : At (c_weirlaw4_Op.enc x) 60 ((cI .i64).enc x.N) := At.snd (At.snd (At.snd (At.snd (At.snd (At.last)))))
theorem Ty3 : Ty Tryz.prog 3 (cI .i64) 0 := ⟨by kernel_rfl, by kernel_rfl⟩
theorem Ty5 : Ty Tryz.prog 5 (cI .u8) 0 := ⟨by kernel_rfl, by kernel_rfl⟩
theorem Ty9 : Ty Tryz.prog 9 cS ByteArray.empty := ⟨by kernel_rfl, by kernel_rfl⟩
theorem Ty26 : Ty Tryz.prog 26 ((cI .u8).arr 16) (Vec.rep 16 0) := ⟨by kernel_rfl, by kernel_rfl⟩
theorem Ty28 : Ty Tryz.prog 28 c_api_IP z_api_IP := ⟨by kernel_rfl, by kernel_rfl⟩
theorem Ty29 : Ty Tryz.prog 29 (cI .i64) 0 := ⟨by kernel_rfl, by kernel_rfl⟩
theorem Ty38 : Ty Tryz.prog 38 c_api_Prefix z_api_Prefix := ⟨by kernel_rfl, by kernel_rfl⟩
theorem Ty40 : Ty Tryz.prog 40 ((cI .u8).arr 6) (Vec.rep 6 0) := ⟨by kernel_rfl, by kernel_rfl⟩
theorem Ty42 : Ty Tryz.prog 42 c_weirlaw4_Op z_weirlaw4_Op := ⟨by kernel_rfl, by kernel_rfl⟩
theorem Ty48 : Ty Tryz.prog 48 c_addr_fault z_addr_fault := ⟨by kernel_rfl, by kernel_rfl⟩
theorem Ty51 : Ty Tryz.prog 51 cL Sl.nil := ⟨by kernel_rfl, by kernel_rfl⟩
theorem Ty52 : Ty Tryz.prog 52 ((cI .u8).arr 12) (Vec.rep 12 0) := ⟨by kernel_rfl, by kernel_rfl⟩
theorem Ty53 : Ty Tryz.prog 53 ((cI .i64).arr 8) (Vec.rep 8 0) := ⟨by kernel_rfl, by kernel_rfl⟩
theorem Ty58 : Ty Tryz.prog 58 cL Sl.nil := ⟨by kernel_rfl, by kernel_rfl⟩
theorem Ty60 : Ty Tryz.prog 60 c_addr_net z_addr_net := ⟨by kernel_rfl, by kernel_rfl⟩
theorem Ty61 : Ty Tryz.prog 61 (c_addr_net.arr 12) (Vec.rep 12 z_addr_net) := ⟨by kernel_rfl, by kernel_rfl⟩
theorem Ty72 : Ty Tryz.prog 72 ((cI .u8).arr 4) (Vec.rep 4 0) := ⟨by kernel_rfl, by kernel_rfl⟩
theorem Ty77 : Ty Tryz.prog 77 c_addr_six z_addr_six := ⟨by kernel_rfl, by kernel_rfl⟩
theorem Ty111 : Ty Tryz.prog 111 cP none := ⟨by kernel_rfl, by kernel_rfl⟩
theorem Ty113 : Ty Tryz.prog 113 c_strings_Builder z_strings_Builder := ⟨by kernel_rfl, by kernel_rfl⟩
theorem Ty139 : Ty Tryz.prog 139 ((cI .u8).arr 24) (Vec.rep 24 0) := ⟨by kernel_rfl, by kernel_rfl⟩
theorem Ty140 : Ty Tryz.prog 140 (cI .u64) 0 := ⟨by kernel_rfl, by kernel_rfl⟩
theorem Ty147 : Ty Tryz.prog 147 c_weirref4_six z_weirref4_six := ⟨by kernel_rfl, by kernel_rfl⟩
theorem Ty158 : Ty Tryz.prog 158 ((cI .u8).arr 65) (Vec.rep 65 0) := ⟨by kernel_rfl, by kernel_rfl⟩
theorem F7 : Fun Tryz.prog 7 Tryz.f7 := ⟨Tryz.func7, by kernel_rfl, by kernel_rfl⟩
theorem F8 : Fun Tryz.prog 8 Tryz.f8 := ⟨Tryz.func8, by kernel_rfl, by kernel_rfl⟩
theorem F9 : Fun Tryz.prog 9 Tryz.f9 := ⟨Tryz.func9, by kernel_rfl, by kernel_rfl⟩
theorem F10 : Fun Tryz.prog 10 Tryz.f10 := ⟨Tryz.func10, by kernel_rfl, by kernel_rfl⟩
theorem F11 : Fun Tryz.prog 11 Tryz.f11 := ⟨Tryz.func11, by kernel_rfl, by kernel_rfl⟩
theorem F12 : Fun Tryz.prog 12 Tryz.f12 := ⟨Tryz.func12, by kernel_rfl, by kernel_rfl⟩
theorem F13 : Fun Tryz.prog 13 Tryz.f13 := ⟨Tryz.func13, by kernel_rfl, by kernel_rfl⟩
theorem F14 : Fun Tryz.prog 14 Tryz.f14 := ⟨Tryz.func14, by kernel_rfl, by kernel_rfl⟩
theorem F15 : Fun Tryz.prog 15 Tryz.f15 := ⟨Tryz.func15, by kernel_rfl, by kernel_rfl⟩
theorem F16 : Fun Tryz.prog 16 Tryz.f16 := ⟨Tryz.func16, by kernel_rfl, by kernel_rfl⟩
theorem F17 : Fun Tryz.prog 17 Tryz.f17 := ⟨Tryz.func17, by kernel_rfl, by kernel_rfl⟩
theorem F18 : Fun Tryz.prog 18 Tryz.f18 := ⟨Tryz.func18, by kernel_rfl, by kernel_rfl⟩
theorem F19 : Fun Tryz.prog 19 Tryz.f19 := ⟨Tryz.func19, by kernel_rfl, by kernel_rfl⟩
theorem F20 : Fun Tryz.prog 20 Tryz.f20 := ⟨Tryz.func20, by kernel_rfl, by kernel_rfl⟩
theorem F21 : Fun Tryz.prog 21 Tryz.f21 := ⟨Tryz.func21, by kernel_rfl, by kernel_rfl⟩
theorem F22 : Fun Tryz.prog 22 Tryz.f22 := ⟨Tryz.func22, by kernel_rfl, by kernel_rfl⟩
theorem F23 : Fun Tryz.prog 23 Tryz.f23 := ⟨Tryz.func23, by kernel_rfl, by kernel_rfl⟩
theorem F24 : Fun Tryz.prog 24 Tryz.f24 := ⟨Tryz.func24, by kernel_rfl, by kernel_rfl⟩
theorem F25 : Fun Tryz.prog 25 Tryz.f25 := ⟨Tryz.func25, by kernel_rfl, by kernel_rfl⟩
theorem F26 : Fun Tryz.prog 26 Tryz.f26 := ⟨Tryz.func26, by kernel_rfl, by kernel_rfl⟩
theorem F27 : Fun Tryz.prog 27 Tryz.f27 := ⟨Tryz.func27, by kernel_rfl, by kernel_rfl⟩
theorem F28 : Fun Tryz.prog 28 Tryz.f28 := ⟨Tryz.func28, by kernel_rfl, by kernel_rfl⟩
theorem F29 : Fun Tryz.prog 29 Tryz.f29 := ⟨Tryz.func29, by kernel_rfl, by kernel_rfl⟩
theorem F30 : Fun Tryz.prog 30 Tryz.f30 := ⟨Tryz.func30, by kernel_rfl, by kernel_rfl⟩
theorem F31 : Fun Tryz.prog 31 Tryz.f31 := ⟨Tryz.func31, by kernel_rfl, by kernel_rfl⟩
theorem F32 : Fun Tryz.prog 32 Tryz.f32 := ⟨Tryz.func32, by kernel_rfl, by kernel_rfl⟩
theorem F33 : Fun Tryz.prog 33 Tryz.f33 := ⟨Tryz.func33, by kernel_rfl, by kernel_rfl⟩
theorem F34 : Fun Tryz.prog 34 Tryz.f34 := ⟨Tryz.func34, by kernel_rfl, by kernel_rfl⟩
theorem F35 : Fun Tryz.prog 35 Tryz.f35 := ⟨Tryz.func35, by kernel_rfl, by kernel_rfl⟩
theorem F36 : Fun Tryz.prog 36 Tryz.f36 := ⟨Tryz.func36, by kernel_rfl, by kernel_rfl⟩
theorem F37 : Fun Tryz.prog 37 Tryz.f37 := ⟨Tryz.func37, by kernel_rfl, by kernel_rfl⟩
theorem F38 : Fun Tryz.prog 38 Tryz.f38 := ⟨Tryz.func38, by kernel_rfl, by kernel_rfl⟩
theorem F39 : Fun Tryz.prog 39 Tryz.f39 := ⟨Tryz.func39, by kernel_rfl, by kernel_rfl⟩
theorem F40 : Fun Tryz.prog 40 Tryz.f40 := ⟨Tryz.func40, by kernel_rfl, by kernel_rfl⟩
theorem F41 : Fun Tryz.prog 41 Tryz.f41 := ⟨Tryz.func41, by kernel_rfl, by kernel_rfl⟩
theorem F42 : Fun Tryz.prog 42 Tryz.f42 := ⟨Tryz.func42, by kernel_rfl, by kernel_rfl⟩
theorem F43 : Fun Tryz.prog 43 Tryz.f43 := ⟨Tryz.func43, by kernel_rfl, by kernel_rfl⟩
theorem F44 : Fun Tryz.prog 44 Tryz.f44 := ⟨Tryz.func44, by kernel_rfl, by kernel_rfl⟩
theorem F45 : Fun Tryz.prog 45 Tryz.f45 := ⟨Tryz.func45, by kernel_rfl, by kernel_rfl⟩
theorem F46 : Fun Tryz.prog 46 Tryz.f46 := ⟨Tryz.func46, by kernel_rfl, by kernel_rfl⟩
theorem F47 : Fun Tryz.prog 47 Tryz.f47 := ⟨Tryz.func47, by kernel_rfl, by kernel_rfl⟩
theorem F48 : Fun Tryz.prog 48 Tryz.f48 := ⟨Tryz.func48, by kernel_rfl, by kernel_rfl⟩
theorem F49 : Fun Tryz.prog 49 Tryz.f49 := ⟨Tryz.func49, by kernel_rfl, by kernel_rfl⟩
theorem F50 : Fun Tryz.prog 50 Tryz.f50 := ⟨Tryz.func50, by kernel_rfl, by kernel_rfl⟩
theorem F51 : Fun Tryz.prog 51 Tryz.f51 := ⟨Tryz.func51, by kernel_rfl, by kernel_rfl⟩
theorem F52 : Fun Tryz.prog 52 Tryz.f52 := ⟨Tryz.func52, by kernel_rfl, by kernel_rfl⟩
theorem F53 : Fun Tryz.prog 53 Tryz.f53 := ⟨Tryz.func53, by kernel_rfl, by kernel_rfl⟩
theorem F54 : Fun Tryz.prog 54 Tryz.f54 := ⟨Tryz.func54, by kernel_rfl, by kernel_rfl⟩
theorem F55 : Fun Tryz.prog 55 Tryz.f55 := ⟨Tryz.func55, by kernel_rfl, by kernel_rfl⟩
theorem F56 : Fun Tryz.prog 56 Tryz.f56 := ⟨Tryz.func56, by kernel_rfl, by kernel_rfl⟩
theorem F57 : Fun Tryz.prog 57 Tryz.f57 := ⟨Tryz.func57, by kernel_rfl, by kernel_rfl⟩
theorem F58 : Fun Tryz.prog 58 Tryz.f58 := ⟨Tryz.func58, by kernel_rfl, by kernel_rfl⟩
theorem F59 : Fun Tryz.prog 59 Tryz.f59 := ⟨Tryz.func59, by kernel_rfl, by kernel_rfl⟩
theorem F60 : Fun Tryz.prog 60 Tryz.f60 := ⟨Tryz.func60, by kernel_rfl, by kernel_rfl⟩
theorem F61 : Fun Tryz.prog 61 Tryz.f61 := ⟨Tryz.func61, by kernel_rfl, by kernel_rfl⟩
theorem F62 : Fun Tryz.prog 62 Tryz.f62 := ⟨Tryz.func62, by kernel_rfl, by kernel_rfl⟩
theorem F63 : Fun Tryz.prog 63 Tryz.f63 := ⟨Tryz.func63, by kernel_rfl, by kernel_rfl⟩
theorem F64 : Fun Tryz.prog 64 Tryz.f64 := ⟨Tryz.func64, by kernel_rfl, by kernel_rfl⟩
theorem F65 : Fun Tryz.prog 65 Tryz.f65 := ⟨Tryz.func65, by kernel_rfl, by kernel_rfl⟩
theorem F66 : Fun Tryz.prog 66 Tryz.f66 := ⟨Tryz.func66, by kernel_rfl, by kernel_rfl⟩
theorem F67 : Fun Tryz.prog 67 Tryz.f67 := ⟨Tryz.func67, by kernel_rfl, by kernel_rfl⟩
theorem F68 : Fun Tryz.prog 68 Tryz.f68 := ⟨Tryz.func68, by kernel_rfl, by kernel_rfl⟩
theorem F69 : Fun Tryz.prog 69 Tryz.f69 := ⟨Tryz.func69, by kernel_rfl, by kernel_rfl⟩
theorem F70 : Fun Tryz.prog 70 Tryz.f70 := ⟨Tryz.func70, by kernel_rfl, by kernel_rfl⟩
theorem F71 : Fun Tryz.prog 71 Tryz.f71 := ⟨Tryz.func71, by kernel_rfl, by kernel_rfl⟩
theorem F72 : Fun Tryz.prog 72 Tryz.f72 := ⟨Tryz.func72, by kernel_rfl, by kernel_rfl⟩
theorem F73 : Fun Tryz.prog 73 Tryz.f73 := ⟨Tryz.func73, by kernel_rfl, by kernel_rfl⟩
theorem F74 : Fun Tryz.prog 74 Tryz.f74 := ⟨Tryz.func74, by kernel_rfl, by kernel_rfl⟩
theorem F75 : Fun Tryz.prog 75 Tryz.f75 := ⟨Tryz.func75, by kernel_rfl, by kernel_rfl⟩
theorem F76 : Fun Tryz.prog 76 Tryz.f76 := ⟨Tryz.func76, by kernel_rfl, by kernel_rfl⟩
theorem F77 : Fun Tryz.prog 77 Tryz.f77 := ⟨Tryz.func77, by kernel_rfl, by kernel_rfl⟩
theorem F78 : Fun Tryz.prog 78 Tryz.f78 := ⟨Tryz.func78, by kernel_rfl, by kernel_rfl⟩
theorem F79 : Fun Tryz.prog 79 Tryz.f79 := ⟨Tryz.func79, by kernel_rfl, by kernel_rfl⟩
theorem F80 : Fun Tryz.prog 80 Tryz.f80 := ⟨Tryz.func80, by kernel_rfl, by kernel_rfl⟩
theorem F81 : Fun Tryz.prog 81 Tryz.f81 := ⟨Tryz.func81, by kernel_rfl, by kernel_rfl⟩
theorem F82 : Fun Tryz.prog 82 Tryz.f82 := ⟨Tryz.func82, by kernel_rfl, by kernel_rfl⟩
theorem F83 : Fun Tryz.prog 83 Tryz.f83 := ⟨Tryz.func83, by kernel_rfl, by kernel_rfl⟩
theorem F84 : Fun Tryz.prog 84 Tryz.f84 := ⟨Tryz.func84, by kernel_rfl, by kernel_rfl⟩
theorem F85 : Fun Tryz.prog 85 Tryz.f85 := ⟨Tryz.func85, by kernel_rfl, by kernel_rfl⟩
theorem F86 : Fun Tryz.prog 86 Tryz.f86 := ⟨Tryz.func86, by kernel_rfl, by kernel_rfl⟩
theorem F87 : Fun Tryz.prog 87 Tryz.f87 := ⟨Tryz.func87, by kernel_rfl, by kernel_rfl⟩
theorem F88 : Fun Tryz.prog 88 Tryz.f88 := ⟨Tryz.func88, by kernel_rfl, by kernel_rfl⟩
theorem F89 : Fun Tryz.prog 89 Tryz.f89 := ⟨Tryz.func89, by kernel_rfl, by kernel_rfl⟩
theorem F90 : Fun Tryz.prog 90 Tryz.f90 := ⟨Tryz.func90, by kernel_rfl, by kernel_rfl⟩
theorem F91 : Fun Tryz.prog 91 Tryz.f91 := ⟨Tryz.func91, by kernel_rfl, by kernel_rfl⟩
theorem F92 : Fun Tryz.prog 92 Tryz.f92 := ⟨Tryz.func92, by kernel_rfl, by kernel_rfl⟩
theorem F93 : Fun Tryz.prog 93 Tryz.f93 := ⟨Tryz.func93, by kernel_rfl, by kernel_rfl⟩
theorem F94 : Fun Tryz.prog 94 Tryz.f94 := ⟨Tryz.func94, by kernel_rfl, by kernel_rfl⟩
theorem F95 : Fun Tryz.prog 95 Tryz.f95 := ⟨Tryz.func95, by kernel_rfl, by kernel_rfl⟩
theorem F96 : Fun Tryz.prog 96 Tryz.f96 := ⟨Tryz.func96, by kernel_rfl, by kernel_rfl⟩
theorem F97 : Fun Tryz.prog 97 Tryz.f97 := ⟨Tryz.func97, by kernel_rfl, by kernel_rfl⟩
theorem F98 : Fun Tryz.prog 98 Tryz.f98 := ⟨Tryz.func98, by kernel_rfl, by kernel_rfl⟩
theorem F99 : Fun Tryz.prog 99 Tryz.f99 := ⟨Tryz.func99, by kernel_rfl, by kernel_rfl⟩
theorem F103 : Fun Tryz.prog 103 Tryz.f103 := ⟨Tryz.func103, by kernel_rfl, by kernel_rfl⟩
theorem F106 : Fun Tryz.prog 106 Tryz.f106 := ⟨Tryz.func106, by kernel_rfl, by kernel_rfl⟩
theorem F107 : Fun Tryz.prog 107 Tryz.f107 := ⟨Tryz.func107, by kernel_rfl, by kernel_rfl⟩
theorem F108 : Fun Tryz.prog 108 Tryz.f108 := ⟨Tryz.func108, by kernel_rfl, by kernel_rfl⟩
theorem F109 : Fun Tryz.prog 109 Tryz.f109 := ⟨Tryz.func109, by kernel_rfl, by kernel_rfl⟩
theorem F110 : Fun Tryz.prog 110 Tryz.f110 := ⟨Tryz.func110, by kernel_rfl, by kernel_rfl⟩
theorem F111 : Fun Tryz.prog 111 Tryz.f111 := ⟨Tryz.func111, by kernel_rfl, by kernel_rfl⟩
theorem F115 : Fun Tryz.prog 115 Tryz.f115 := ⟨Tryz.func115, by kernel_rfl, by kernel_rfl⟩
def str0 : ByteArray := ⟨#[58, 58]⟩
def str1 : ByteArray := ⟨#[58]⟩
def str2 : ByteArray := ⟨#[48, 49, 50, 51, 52, 53, 54, 55, 56, 57, 97, 98, 99, 100, 101, 102, 103, 104, 105, 106, 107, 108, 109, 110, 111, 112, 113, 114, 115, 116, 117, 118, 119, 120, 121, 122]⟩
def str3 : ByteArray := ⟨#[48, 48, 48, 49, 48, 50, 48, 51, 48, 52, 48, 53, 48, 54, 48, 55, 48, 56, 48, 57, 49, 48, 49, 49, 49, 50, 49, 51, 49, 52, 49, 53, 49, 54, 49, 55, 49, 56, 49, 57, 50, 48, 50, 49, 50, 50, 50, 51, 50, 52, 50, 53, 50, 54, 50, 55, 50, 56, 50, 57, 51, 48, 51, 49, 51, 50, 51, 51, 51, 52, 51, 53, 51, 54, 51, 55, 51, 56, 51, 57, 52, 48, 52, 49, 52, 50, 52, 51, 52, 52, 52, 53, 52, 54, 52, 55, 52, 56, 52, 57, 53, 48, 53, 49, 53, 50, 53, 51, 53, 52, 53, 53, 53, 54, 53, 55, 53, 56, 53, 57, 54, 48, 54, 49, 54, 50, 54, 51, 54, 52, 54, 53, 54, 54, 54, 55, 54, 56, 54, 57, 55, 48, 55, 49, 55, 50, 55, 51, 55, 52, 55, 53, 55, 54, 55, 55, 55, 56, 55, 57, 56, 48, 56, 49, 56, 50, 56, 51, 56, 52, 56, 53, 56, 54, 56, 55, 56, 56, 56, 57, 57, 48, 57, 49, 57, 50, 57, 51, 57, 52, 57, 53, 57, 54, 57, 55, 57, 56, 57, 57]⟩
def str4 : ByteArray := ⟨#[0, 1, 2, 2, 3, 3, 3, 3, 4, 4, 4, 4, 4, 4, 4, 4, 5, 5, 5, 5, 5, 5, 5, 5, 5, 5, 5, 5, 5, 5, 5, 5, 6, 6, 6, 6, 6, 6, 6, 6, 6, 6, 6, 6, 6, 6, 6, 6, 6, 6, 6, 6, 6, 6, 6, 6, 6, 6, 6, 6, 6, 6, 6, 6, 7, 7, 7, 7, 7, 7, 7, 7, 7, 7, 7, 7, 7, 7, 7, 7, 7, 7, 7, 7, 7, 7, 7, 7, 7, 7, 7, 7, 7, 7, 7, 7, 7, 7, 7, 7, 7, 7, 7, 7, 7, 7, 7, 7, 7, 7, 7, 7, 7, 7, 7, 7, 7, 7, 7, 7, 7, 7, 7, 7, 7, 7, 7, 7, 8, 8, 8, 8, 8, 8, 8, 8, 8, 8, 8, 8, 8, 8, 8, 8, 8, 8, 8, 8, 8, 8, 8, 8, 8, 8, 8, 8, 8, 8, 8, 8, 8, 8, 8, 8, 8, 8, 8, 8, 8, 8, 8, 8, 8, 8, 8, 8, 8, 8, 8, 8, 8, 8, 8, 8, 8, 8, 8, 8, 8, 8, 8, 8, 8, 8, 8, 8, 8, 8, 8, 8, 8, 8, 8, 8, 8, 8, 8, 8, 8, 8, 8, 8, 8, 8, 8, 8, 8, 8, 8, 8, 8, 8, 8, 8, 8, 8, 8, 8, 8, 8, 8, 8, 8, 8, 8, 8, 8, 8, 8, 8, 8, 8, 8, 8, 8, 8, 8, 8, 8, 8, 8, 8, 8, 8, 8, 8]⟩
def str5 : ByteArray := ⟨#[115, 116, 114, 99, 111, 110, 118, 58, 32, 105, 108, 108, 101, 103, 97, 108, 32, 65, 112, 112, 101, 110, 100, 73, 110, 116, 47, 70, 111, 114, 109, 97, 116, 73, 110, 116, 32, 98, 97, 115, 101]⟩
def str6 : ByteArray := ⟨#[115, 116, 114, 105, 110, 103, 115, 46, 66, 117, 105, 108, 100, 101, 114, 46, 71, 114, 111, 119, 58, 32, 110, 101, 103, 97, 116, 105, 118, 101, 32, 99, 111, 117, 110, 116]⟩
def str7 : ByteArray := ⟨#[115, 116, 114, 105, 110, 103, 115, 58, 32, 74, 111, 105, 110, 32, 111, 117, 116, 112, 117, 116, 32, 108, 101, 110, 103, 116, 104, 32, 111, 118, 101, 114, 102, 108, 111, 119]⟩
def str8 : ByteArray := ⟨#[46]⟩
def str9 : ByteArray := ⟨#[58, 58, 102, 102, 102, 102, 58]⟩
def str10 : ByteArray := ⟨#[49, 50, 55, 46, 48, 46, 48, 46, 49]⟩
def str11 : ByteArray := ⟨#[47]⟩
def str12 : ByteArray := ⟨#[48, 49, 50, 51, 52, 53, 54, 55, 56, 57, 97, 98, 99, 100, 101, 102]⟩
def str13 : ByteArray := ⟨#[48, 46, 48, 46, 48, 46, 48, 47, 51, 50]⟩
def str14 : ByteArray := ⟨#[58, 58, 47, 49, 50, 56]⟩
def str15 : ByteArray := ⟨#[49, 50, 55, 46, 48, 46, 48, 46, 48, 47, 56]⟩
def str16 : ByteArray := ⟨#[58, 58, 49, 47, 49, 50, 56]⟩
def str17 : ByteArray := ⟨#[50, 50, 52, 46, 48, 46, 48, 46, 48, 47, 52]⟩
def str18 : ByteArray := ⟨#[102, 102, 48, 48, 58, 58, 47, 56]⟩
def str19 : ByteArray := ⟨#[49, 54, 57, 46, 50, 53, 52, 46, 48, 46, 48, 47, 49, 54]⟩
def str20 : ByteArray := ⟨#[102, 101, 56, 48, 58, 58, 47, 49, 48]⟩
def str21 : ByteArray := ⟨#[50, 53, 53, 46, 50, 53, 53, 46, 50, 53, 53, 46, 50, 53, 53, 47, 51, 50]⟩
def str22 : ByteArray := ⟨#[48, 46, 48, 46, 48, 46, 48, 47, 56]⟩
def str23 : ByteArray := ⟨#[50, 52, 48, 46, 48, 46, 48, 46, 48, 47, 52]⟩
def str24 : ByteArray := ⟨#[58, 58, 47, 56]⟩
def str25 : ByteArray := ⟨#[102, 102, 48, 50, 58, 58, 49, 58, 102, 102, 48, 48, 58, 48]⟩
theorem Eq5 : EqT Tryz.prog 5 1 (cI .u8) := EqT.int Tryz.underlying5
theorem Eq52 : EqT Tryz.prog 52 2 ((cI .u8).arr 12) := EqT.arr Tryz.underlying52 Ty5 Eq5
theorem Eq26 : EqT Tryz.prog 26 2 ((cI .u8).arr 16) := EqT.arr Tryz.underlying26 Ty5 Eq5
theorem Eq3 : EqT Tryz.prog 3 1 (cI .i64) := EqT.int Tryz.underlying3
theorem Eq28 : EqT Tryz.prog 28 3 c_api_IP := EqT.struct (D := 2) Tryz.underlying28 (by kernel_rfl) rfl (fun d hd x y w => EqFs.congr (EqFs.cons rfl Ty3 (At_api_IP_V x) (At_api_IP_V y) Eq3 (by omega) (EqFs.cons rfl Ty26 (At_api_IP_A x) (At_api_IP_A y) Eq26 (by omega) EqFs.nil)) (by obtain ⟨⟩ := x; obtain ⟨⟩ := y; simp))
theorem Eq38 : EqT Tryz.prog 38 4 c_api_Prefix := EqT.struct (D := 3) Tryz.underlying38 (by kernel_rfl) rfl (fun d hd x y w => EqFs.congr (EqFs.cons rfl Ty28 (At_api_Prefix_IP x) (At_api_Prefix_IP y) Eq28 (by omega) (EqFs.cons rfl Ty3 (At_api_Prefix_Len x) (At_api_Prefix_Len y) Eq3 (by omega) EqFs.nil)) (by obtain ⟨⟩ := x; obtain ⟨⟩ := y; simp))
theorem Eq40 : EqT Tryz.prog 40 2 ((cI .u8).arr 6) := EqT.arr Tryz.underlying40 Ty5 Eq5
theorem mixed : Tryz.prog.follows .mixedOrders = true := by kernel_rfl
end Go.Proofs.YtddmmgcfanpmmaaGreatDoor.Lx
