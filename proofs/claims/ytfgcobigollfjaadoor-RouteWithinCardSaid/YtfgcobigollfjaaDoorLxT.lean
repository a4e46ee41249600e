/- The types of the translation that the programs use. -/
import Derived.Test.YtfgcobigollfjaaDoorProg
import Derived.Test.YtfgcobigollfjaaDoorLxRf
import Derived.Test.YtfgcobigollfjaaDoorLxShort
set_option linter.unusedVariables false
set_option linter.unusedSimpArgs false
set_option linter.unusedSectionVars false
namespace Go.Proofs.YtfgcobigollfjaaDoor.Lx
open Go Go.Proofs
structure route_Table where
 routes : (Option Nat)
 deriving DecidableEq
def z_route_Table : route_Table := ⟨none⟩
instance : Inhabited route_Table := ⟨z_route_Table⟩
def c_route_Table : Cod route_Table := (cM.pair Cod.unit).iso (fun x => (x.routes, ())) (fun p => ⟨p.1⟩) (fun _ => rfl) (fun _ => rfl)
theorem At_route_Table_routes (x : route_Table) : At (c_route_Table.enc x) 0 (cM.enc x.routes) := At.fst
theorem Up_route_Table_routes (x : route_Table) (y : (Option Nat)) : Upd (c_route_Table.enc x) 0 (cM.enc y) (c_route_Table.enc (⟨y⟩ : route_Table)) := Upd.fst
structure api_IP where
 V : Int
 A : (Vec Int 16)
 deriving DecidableEq
def z_api_IP : api_IP := ⟨0, (Vec.rep 16 0)⟩
instance : Inhabited api_IP := ⟨z_api_IP⟩
def c_api_IP : Cod api_IP := ((cI .i64).pair ((cI .u8).arr 16)).iso (fun x => (x.V, x.A)) (fun p => ⟨p.1, p.2⟩) (fun _ => rfl) (fun _ => rfl)
theorem At_api_IP_V (x : api_IP) : At (c_api_IP.enc x) 0 ((cI .i64).enc x.V) := At.fst
theorem Up_api_IP_V (x : api_IP) (y : Int) : Upd (c_api_IP.enc x) 0 ((cI .i64).enc y) (c_api_IP.enc (⟨y, x.A⟩ : api_IP)) := Upd.fst
theorem At_api_IP_A (x : api_IP) : At (c_api_IP.enc x) 1 (((cI .u8).arr 16).enc x.A) := At.last
theorem Up_api_IP_A (x : api_IP) (y : (Vec Int 16)) : Upd (c_api_IP.enc x) 1 (((cI .u8).arr 16).enc y) (c_api_IP.enc (⟨x.V, y⟩ : api_IP)) := Upd.last
structure api_Prefix where
 IP : api_IP
 Len : Int
 deriving DecidableEq
def z_api_Prefix : api_Prefix := ⟨z_api_IP, 0⟩
instance : Inhabited api_Prefix := ⟨z_api_Prefix⟩
def c_api_Prefix : Cod api_Prefix := (c_api_IP.pair (cI .i64)).iso (fun x => (x.IP, x.Len)) (fun p => ⟨p.1, p.2⟩) (fun _ => rfl) (fun _ => rfl)
theorem At_api_Prefix_IP (x : api_Prefix) : At (c_api_Prefix.enc x) 0 (c_api_IP.enc x.IP) := At.fst
theorem Up_api_Prefix_IP (x : api_Prefix) (y : api_IP) : Upd (c_api_Prefix.enc x) 0 (c_api_IP.enc y) (c_api_Prefix.enc (⟨y, x.Len⟩ : api_Prefix)) := Upd.fst
theorem At_api_Prefix_Len (x : api_Prefix) : At (c_api_Prefix.enc x) 17 ((cI .i64).enc x.Len) := At.last
theorem Up_api_Prefix_Len (x : api_Prefix) (y : Int) : Upd (c_api_Prefix.enc x) 17 ((cI .i64).enc y) (c_api_Prefix.enc (⟨x.IP, y⟩ : api_Prefix)) := Upd.last
structure api_Route where
 Prefix : api_Prefix
 Port : Int
 Via : api_IP
 deriving DecidableEq
def z_api_Route : api_Route := ⟨z_api_Prefix, 0, z_api_IP⟩
instance : Inhabited api_Route := ⟨z_api_Route⟩
def c_api_Route : Cod api_Route := (c_api_Prefix.pair ((cI .i64).pair c_api_IP)).iso (fun x => (x.Prefix, x.Port, x.Via)) (fun p => ⟨p.1, p.2.1, p.2.2⟩) (fun _ => rfl) (fun _ => rfl)
theorem At_api_Route_Prefix (x : api_Route) : At (c_api_Route.enc x) 0 (c_api_Prefix.enc x.Prefix) := At.fst
theorem Up_api_Route_Prefix (x : api_Route) (y : api_Prefix) : Upd (c_api_Route.enc x) 0 (c_api_Prefix.enc y) (c_api_Route.enc (⟨y, x.Port, x.Via⟩ : api_Route)) := Upd.fst
theorem At_api_Route_Port (x : api_Route) : At (c_api_Route.enc x) 18 ((cI .i64).enc x.Port) := At.snd (At.fst)
theorem Up_api_Route_Port (x : api_Route) (y : Int) : Upd (c_api_Route.enc x) 18 ((cI .i64).enc y) (c_api_Route.enc (⟨x.Prefix, y, x.Via⟩ : api_Route)) := Upd.snd (Upd.fst)
theorem At_api_Route_Via (x : api_Route) : At (c_api_Route.enc x) 19 (c_api_IP.enc x.Via) := At.snd (At.last)
structure addr_net where
 v : Int
 a : (Vec Int 16)
 bits : Int
 class_ : Int
 deriving DecidableEq
def z_addr_net : addr_net := ⟨0, (Vec.rep 16 0), 0, 0⟩
instance : Inhabited addr_net := ⟨z_addr_net⟩
def c_addr_net : Cod addr_net := ((cI .i64).pair (((cI .u8).arr 16).pair ((cI .i64).pair (cI .i64)))).iso (fun x => (x.v, x.a, x.bits, x.class_)) (fun p => ⟨p.1, p.2.1, p.2.2.1, p.2.2.2⟩) (fun _ => rfl) (fun _ => rfl)
theorem At_addr_net_v (x : addr_net) : At (c_addr_net.enc x) 0 ((cI .i64).enc x.v) := At.fst
theorem At_addr_net_a (x : addr_net) : At (c_addr_net.enc x) 1 (((cI .u8).arr 16).enc x.a) := At.snd (At.fst)
theorem At_addr_net_bits (x : addr_net) : At (c_addr_net.enc x) 17 ((cI .i64).enc x.bits) := At.snd (At.snd (At.fst))
theorem At_addr_net_class_ (x : addr_net) : At (c_addr_net.enc x) 18 ((cI .i64).enc x.class_) := At.snd (At.snd (At.last))
structure weirref4_six where
 s : ByteArray
 groups : Sl
 gap : Int
 p : Int
 err : Int
 at_ : Int
 deriving DecidableEq
def z_weirref4_six : weirref4_six := ⟨ByteArray.empty, Sl.nil, 0, 0, 0, 0⟩
instance : Inhabited weirref4_six := ⟨z_weirref4_six⟩
def c_weirref4_six : Cod weirref4_six := (cS.pair (cL.pair ((cI .i64).pair ((cI .i64).pair ((cI .i64).pair (cI .i64)))))).iso (fun x => (x.s, x.groups, x.gap, x.p, x.err, x.at_)) (fun p => ⟨p.1, p.2.1, p.2.2.1, p.2.2.2.1, p.2.2.2.2.1, p.2.2.2.2.2⟩) (fun _ => rfl) (fun _ => rfl)
theorem At_weirref4_six_s (x : weirref4_six) : At (c_weirref4_six.enc x) 0 (cS.enc x.s) := At.fst
theorem Up_weirref4_six_s (x : weirref4_six) (y : ByteArray) : Upd (c_weirref4_six.enc x) 0 (cS.enc y) (c_weirref4_six.enc (⟨y, x.groups, x.gap, x.p, x.err, x.at_⟩ : weirref4_six)) := Upd.fst
theorem At_weirref4_six_groups (x : weirref4_six) : At (c_weirref4_six.enc x) 1 (cL.enc x.groups) := At.snd (At.fst)
theorem Up_weirref4_six_groups (x : weirref4_six) (y : Sl) : Upd (c_weirref4_six.enc x) 1 (cL.enc y) (c_weirref4_six.enc (⟨x.s, y, x.gap, x.p, x.err, x.at_⟩ : weirref4_six)) := Upd.snd (Upd.fst)
theorem At_weirref4_six_gap (x : weirref4_six) : At (c_weirref4_six.enc x) 2 ((cI .i64).enc x.gap) := At.snd (At.snd (At.fst))
theorem Up_weirref4_six_gap (x : weirref4_six) (y : Int) : Upd (c_weirref4_six.enc x) 2 ((cI .i64).enc y) (c_weirref4_six.enc (⟨x.s, x.groups, y, x.p, x.err, x.at_⟩ : weirref4_six)) := Upd.snd (Upd.snd (Upd.fst))
theorem At_weirref4_six_p (x : weirref4_six) : At (c_weirref4_six.enc x) 3 ((cI .i64).enc x.p) := At.snd (At.snd (At.snd (At.fst)))
theorem Up_weirref4_six_p (x : weirref4_six) (y : Int) : Upd (c_weirref4_six.enc x) 3 ((cI .i64).enc y) (c_weirref4_six.enc (⟨x.s, x.groups, x.gap, y, x.err, x.at_⟩ : weirref4_six)) := Upd.snd (Upd.snd (Upd.snd (Upd.fst)))
theorem At_weirref4_six_err (x : weirref4_six) : At (c_weirref4_six.enc x) 4 ((cI .i64).enc x.err) := At.snd (At.snd (At.snd (At.snd (At.fst))))
theorem Up_weirref4_six_err (x : weirref4_six) (y : Int) : Upd (c_weirref4_six.enc x) 4 ((cI .i64).enc y) (c_weirref4_six.enc (⟨x.s, x.groups, x.gap, x.p, y, x.at_⟩ : weirref4_six)) := Upd.snd (Upd.snd (Upd.snd (Upd.snd (Upd.fst))))
theorem At_weirref4_six_at_ (x : weirref4_six) : At (c_weirref4_six.enc x) 5 ((cI .i64).enc x.at_) := At.snd (At.snd (At.snd (At.snd (At.last))))
theorem Up_weirref4_six_at_ (x : weirref4_six) (y : Int) : Upd (c_weirref4_six.enc x) 5 ((cI .i64).enc y) (c_weirref4_six.enc (⟨x.s, x.groups, x.gap, x.p, x.err, y⟩ : weirref4_six)) := Upd.snd (Upd.snd (Upd.snd (Upd.snd (Upd.last))))
structure weirlaw14_Pair where
 T : (Option Addr)
 L : Sl
 Kept : Any
def z_weirlaw14_Pair : weirlaw14_Pair := ⟨none, Sl.nil, ⟨.nilFunc, rfl⟩⟩
instance : Inhabited weirlaw14_Pair := ⟨z_weirlaw14_Pair⟩
def c_weirlaw14_Pair : Cod weirlaw14_Pair := (cP.pair (cL.pair cV)).iso (fun x => (x.T, x.L, x.Kept)) (fun p => ⟨p.1, p.2.1, p.2.2⟩) (fun _ => rfl) (fun _ => rfl)
theorem At_weirlaw14_Pair_T (x : weirlaw14_Pair) : At (c_weirlaw14_Pair.enc x) 0 (cP.enc x.T) := At.fst
theorem Up_weirlaw14_Pair_T (x : weirlaw14_Pair) (y : (Option Addr)) : Upd (c_weirlaw14_Pair.enc x) 0 (cP.enc y) (c_weirlaw14_Pair.enc (⟨y, x.L, x.Kept⟩ : weirlaw14_Pair)) := Upd.fst
theorem At_weirlaw14_Pair_L (x : weirlaw14_Pair) : At (c_weirlaw14_Pair.enc x) 1 (cL.enc x.L) := At.snd (At.fst)
theorem Up_weirlaw14_Pair_L (x : weirlaw14_Pair) (y : Sl) : Upd (c_weirlaw14_Pair.enc x) 1 (cL.enc y) (c_weirlaw14_Pair.enc (⟨x.T, y, x.Kept⟩ : weirlaw14_Pair)) := Upd.snd (Upd.fst)
structure weirlaw14_Step where
 Kind : Int
 Obj : Int
 R : api_Route
 IP : api_IP
 N : Int
 deriving DecidableEq
def z_weirlaw14_Step : weirlaw14_Step := ⟨0, 0, z_api_Route, z_api_IP, 0⟩
instance : Inhabited weirlaw14_Step := ⟨z_weirlaw14_Step⟩
def c_weirlaw14_Step : Cod weirlaw14_Step := ((cI .i64).pair ((cI .i64).pair (c_api_Route.pair (c_api_IP.pair (cI .i64))))).iso (fun x => (x.Kind, x.Obj, x.R, x.IP, x.N)) (fun p => ⟨p.1, p.2.1, p.2.2.1, p.2.2.2.1, p.2.2.2.2⟩) (fun _ => rfl) (fun _ => rfl)
theorem At_weirlaw14_Step_Kind (x : weirlaw14_Step) : At (c_weirlaw14_Step.enc x) 0 ((cI .i64).enc x.Kind) := At.fst
theorem Up_weirlaw14_Step_Kind (x : weirlaw14_Step) (y : Int) : Upd (c_weirlaw14_Step.enc x) 0 ((cI .i64).enc y) (c_weirlaw14_Step.enc (⟨y, x.Obj, x.R, x.IP, x.N⟩ : weirlaw14_Step)) := Upd.fst
theorem At_weirlaw14_Step_R (x : weirlaw14_Step) : At (c_weirlaw14_Step.enc x) 2 (c_api_Route.enc x.R) := At.snd (At.snd (At.fst))
theorem Up_weirlaw14_Step_R (x : weirlaw14_Step) (y : api_Route) : Upd (c_weirlaw14_Step.enc x) 2 (c_api_Route.enc y) (c_weirlaw14_Step.enc (⟨x.Kind, x.Obj, y, x.IP, x.N⟩ : weirlaw14_Step)) := Upd.snd (Upd.snd (Upd.fst))
structure weirlaw14_Act where
 At : Int
 Kind : Int
 R : api_Route
 Stop : Int
 deriving DecidableEq
def z_weirlaw14_Act : weirlaw14_Act := ⟨0, 0, z_api_Route, 0⟩
instance : Inhabited weirlaw14_Act := ⟨z_weirlaw14_Act⟩
def c_weirlaw14_Act : Cod weirlaw14_Act := ((cI .i64).pair ((cI .i64).pair (c_api_Route.pair (cI .i64)))).iso (fun x => (x.At, x.Kind, x.R, x.Stop)) (fun p => ⟨p.1, p.2.1, p.2.2.1, p.2.2.2⟩) (fun _ => rfl) (fun _ => rfl)
theorem At_weirlaw14_Act_At (x : weirlaw14_Act) : At (c_weirlaw14_Act.enc x) 0 ((cI .i64).enc x.At) := At.fst
theorem At_weirlaw14_Act_Kind (x : weirlaw14_Act) : At (c_weirlaw14_Act.enc x) 1 ((cI .i64).enc x.Kind) := At.snd (At.fst)
theorem At_weirlaw14_Act_R (x : weirlaw14_Act) : At (c_weirlaw14_Act.enc x) 2 (c_api_Route.enc x.R) := At.snd (At.snd (At.fst))
theorem At_weirlaw14_Act_Stop (x : weirlaw14_Act) : At (c_weirlaw14_Act.enc x) 38 ((cI .i64).enc x.Stop) := At.snd (At.snd (At.last))
theorem Ty3 : Ty Tryd.prog 3 (cI .i64) 0 := ⟨by kernel_rfl, by kernel_rfl⟩
theorem Ty4 : Ty Tryd.prog 4 cB false := ⟨by kernel_rfl, by kernel_rfl⟩
theorem Ty5 : Ty Tryd.prog 5 (cI .u8) 0 := ⟨by kernel_rfl, by kernel_rfl⟩
theorem Ty9 : Ty Tryd.prog 9 cS ByteArray.empty := ⟨by kernel_rfl, by kernel_rfl⟩
theorem Ty22 : Ty Tryd.prog 22 cP none := ⟨by kernel_rfl, by kernel_rfl⟩
theorem Ty26 : Ty Tryd.prog 26 ((cI .u8).arr 16) (Vec.rep 16 0) := ⟨by kernel_rfl, by kernel_rfl⟩
theorem Ty28 : Ty Tryd.prog 28 c_api_IP z_api_IP := ⟨by kernel_rfl, by kernel_rfl⟩
theorem Ty30 : Ty Tryd.prog 30 c_api_Prefix z_api_Prefix := ⟨by kernel_rfl, by kernel_rfl⟩
theorem Ty32 : Ty Tryd.prog 32 c_api_Route z_api_Route := ⟨by kernel_rfl, by kernel_rfl⟩
theorem Ty39 : Ty Tryd.prog 39 cL Sl.nil := ⟨by kernel_rfl, by kernel_rfl⟩
theorem Ty54 : Ty Tryd.prog 54 cL Sl.nil := ⟨by kernel_rfl, by kernel_rfl⟩
theorem Ty57 : Ty Tryd.prog 57 c_weirlaw14_Pair z_weirlaw14_Pair := ⟨by kernel_rfl, by kernel_rfl⟩
theorem Ty61 : Ty Tryd.prog 61 c_weirlaw14_Step z_weirlaw14_Step := ⟨by kernel_rfl, by kernel_rfl⟩
theorem Ty62 : Ty Tryd.prog 62 cV ⟨.nilFunc, rfl⟩ := ⟨by kernel_rfl, by kernel_rfl⟩
theorem Ty65 : Ty Tryd.prog 65 c_weirlaw14_Act z_weirlaw14_Act := ⟨by kernel_rfl, by kernel_rfl⟩
theorem Ty73 : Ty Tryd.prog 73 cL Sl.nil := ⟨by kernel_rfl, by kernel_rfl⟩
theorem Ty79 : Ty Tryd.prog 79 cM none := ⟨by kernel_rfl, by kernel_rfl⟩
theorem Ty81 : Ty Tryd.prog 81 c_route_Table z_route_Table := ⟨by kernel_rfl, by kernel_rfl⟩
theorem Ty104 : Ty Tryd.prog 104 c_addr_net z_addr_net := ⟨by kernel_rfl, by kernel_rfl⟩
theorem Ty105 : Ty Tryd.prog 105 (c_addr_net.arr 12) (Vec.rep 12 z_addr_net) := ⟨by kernel_rfl, by kernel_rfl⟩
theorem Ty115 : Ty Tryd.prog 115 ((cI .u8).arr 12) (Vec.rep 12 0) := ⟨by kernel_rfl, by kernel_rfl⟩
theorem Ty141 : Ty Tryd.prog 141 (cI .u64) 0 := ⟨by kernel_rfl, by kernel_rfl⟩
theorem Ty156 : Ty Tryd.prog 156 c_weirref4_six z_weirref4_six := ⟨by kernel_rfl, by kernel_rfl⟩
theorem F9 : Fun Tryd.prog 9 Tryd.f9 := ⟨Tryd.func9, by kernel_rfl, by kernel_rfl⟩
theorem F10 : Fun Tryd.prog 10 Tryd.f10 := ⟨Tryd.func10, by kernel_rfl, by kernel_rfl⟩
theorem F12 : Fun Tryd.prog 12 Tryd.f12 := ⟨Tryd.func12, by kernel_rfl, by kernel_rfl⟩
theorem F13 : Fun Tryd.prog 13 Tryd.f13 := ⟨Tryd.func13, by kernel_rfl, by kernel_rfl⟩
theorem F16 : Fun Tryd.prog 16 Tryd.f16 := ⟨Tryd.func16, by kernel_rfl, by kernel_rfl⟩
theorem F17 : Fun Tryd.prog 17 Tryd.f17 := ⟨Tryd.func17, by kernel_rfl, by kernel_rfl⟩
theorem F20 : Fun Tryd.prog 20 Tryd.f20 := ⟨Tryd.func20, by kernel_rfl, by kernel_rfl⟩
theorem F23 : Fun Tryd.prog 23 Tryd.f23 := ⟨Tryd.func23, by kernel_rfl, by kernel_rfl⟩
theorem F24 : Fun Tryd.prog 24 Tryd.f24 := ⟨Tryd.func24, by kernel_rfl, by kernel_rfl⟩
theorem F25 : Fun Tryd.prog 25 Tryd.f25 := ⟨Tryd.func25, by kernel_rfl, by kernel_rfl⟩
theorem F26 : Fun Tryd.prog 26 Tryd.f26 := ⟨Tryd.func26, by kernel_rfl, by kernel_rfl⟩
theorem F30 : Fun Tryd.prog 30 Tryd.f30 := ⟨Tryd.func30, by kernel_rfl, by kernel_rfl⟩
theorem F31 : Fun Tryd.prog 31 Tryd.f31 := ⟨Tryd.func31, by kernel_rfl, by kernel_rfl⟩
theorem F32 : Fun Tryd.prog 32 Tryd.f32 := ⟨Tryd.func32, by kernel_rfl, by kernel_rfl⟩
theorem F34 : Fun Tryd.prog 34 Tryd.f34 := ⟨Tryd.func34, by kernel_rfl, by kernel_rfl⟩
theorem F35 : Fun Tryd.prog 35 Tryd.f35 := ⟨Tryd.func35, by kernel_rfl, by kernel_rfl⟩
theorem F36 : Fun Tryd.prog 36 Tryd.f36 := ⟨Tryd.func36, by kernel_rfl, by kernel_rfl⟩
theorem F37 : Fun Tryd.prog 37 Tryd.f37 := ⟨Tryd.func37, by kernel_rfl, by kernel_rfl⟩
theorem F38 : Fun Tryd.prog 38 Tryd.f38 := ⟨Tryd.func38, by kernel_rfl, by kernel_rfl⟩
theorem F40 : Fun Tryd.prog 40 Tryd.f40 := ⟨Tryd.func40, by kernel_rfl, by kernel_rfl⟩
theorem F41 : Fun Tryd.prog 41 Tryd.f41 := ⟨Tryd.func41, by kernel_rfl, by kernel_rfl⟩
theorem F42 : Fun Tryd.prog 42 Tryd.f42 := ⟨Tryd.func42, by kernel_rfl, by kernel_rfl⟩
theorem F43 : Fun Tryd.prog 43 Tryd.f43 := ⟨Tryd.func43, by kernel_rfl, by kernel_rfl⟩
theorem F44 : Fun Tryd.prog 44 Tryd.f44 := ⟨Tryd.func44, by kernel_rfl, by kernel_rfl⟩
theorem F45 : Fun Tryd.prog 45 Tryd.f45 := ⟨Tryd.func45, by kernel_rfl, by kernel_rfl⟩
theorem F48 : Fun Tryd.prog 48 Tryd.f48 := ⟨Tryd.func48, by kernel_rfl, by kernel_rfl⟩
theorem F49 : Fun Tryd.prog 49 Tryd.f49 := ⟨Tryd.func49, by kernel_rfl, by kernel_rfl⟩
theorem F50 : Fun Tryd.prog 50 Tryd.f50 := ⟨Tryd.func50, by kernel_rfl, by kernel_rfl⟩
theorem F52 : Fun Tryd.prog 52 Tryd.f52 := ⟨Tryd.func52, by kernel_rfl, by kernel_rfl⟩
theorem F53 : Fun Tryd.prog 53 Tryd.f53 := ⟨Tryd.func53, by kernel_rfl, by kernel_rfl⟩
theorem F54 : Fun Tryd.prog 54 Tryd.f54 := ⟨Tryd.func54, by kernel_rfl, by kernel_rfl⟩
theorem F55 : Fun Tryd.prog 55 Tryd.f55 := ⟨Tryd.func55, by kernel_rfl, by kernel_rfl⟩
theorem F56 : Fun Tryd.prog 56 Tryd.f56 := ⟨Tryd.func56, by kernel_rfl, by kernel_rfl⟩
theorem F57 : Fun Tryd.prog 57 Tryd.f57 := ⟨Tryd.func57, by kernel_rfl, by kernel_rfl⟩
theorem F58 : Fun Tryd.prog 58 Tryd.f58 := ⟨Tryd.func58, by kernel_rfl, by kernel_rfl⟩
theorem F59 : Fun Tryd.prog 59 Tryd.f59 := ⟨Tryd.func59, by kernel_rfl, by kernel_rfl⟩
theorem F60 : Fun Tryd.prog 60 Tryd.f60 := ⟨Tryd.func60, by kernel_rfl, by kernel_rfl⟩
theorem F61 : Fun Tryd.prog 61 Tryd.f61 := ⟨Tryd.func61, by kernel_rfl, by kernel_rfl⟩
theorem F62 : Fun Tryd.prog 62 Tryd.f62 := ⟨Tryd.func62, by kernel_rfl, by kernel_rfl⟩
theorem F63 : Fun Tryd.prog 63 Tryd.f63 := ⟨Tryd.func63, by kernel_rfl, by kernel_rfl⟩
theorem F64 : Fun Tryd.prog 64 Tryd.f64 := ⟨Tryd.func64, by kernel_rfl, by kernel_rfl⟩
theorem F65 : Fun Tryd.prog 65 Tryd.f65 := ⟨Tryd.func65, by kernel_rfl, by kernel_rfl⟩
theorem F66 : Fun Tryd.prog 66 Tryd.f66 := ⟨Tryd.func66, by kernel_rfl, by kernel_rfl⟩
theorem F67 : Fun Tryd.prog 67 Tryd.f67 := ⟨Tryd.func67, by kernel_rfl, by kernel_rfl⟩
theorem F68 : Fun Tryd.prog 68 Tryd.f68 := ⟨Tryd.func68, by kernel_rfl, by kernel_rfl⟩
theorem F69 : Fun Tryd.prog 69 Tryd.f69 := ⟨Tryd.func69, by kernel_rfl, by kernel_rfl⟩
theorem F70 : Fun Tryd.prog 70 Tryd.f70 := ⟨Tryd.func70, by kernel_rfl, by kernel_rfl⟩
theorem F71 : Fun Tryd.prog 71 Tryd.f71 := ⟨Tryd.func71, by kernel_rfl, by kernel_rfl⟩
theorem F72 : Fun Tryd.prog 72 Tryd.f72 := ⟨Tryd.func72, by kernel_rfl, by kernel_rfl⟩
theorem F73 : Fun Tryd.prog 73 Tryd.f73 := ⟨Tryd.func73, by kernel_rfl, by kernel_rfl⟩
theorem F74 : Fun Tryd.prog 74 Tryd.f74 := ⟨Tryd.func74, by kernel_rfl, by kernel_rfl⟩
theorem F75 : Fun Tryd.prog 75 Tryd.f75 := ⟨Tryd.func75, by kernel_rfl, by kernel_rfl⟩
theorem F76 : Fun Tryd.prog 76 Tryd.f76 := ⟨Tryd.func76, by kernel_rfl, by kernel_rfl⟩
theorem F77 : Fun Tryd.prog 77 Tryd.f77 := ⟨Tryd.func77, by kernel_rfl, by kernel_rfl⟩
theorem F79 : Fun Tryd.prog 79 Tryd.f79 := ⟨Tryd.func79, by kernel_rfl, by kernel_rfl⟩
theorem F80 : Fun Tryd.prog 80 Tryd.f80 := ⟨Tryd.func80, by kernel_rfl, by kernel_rfl⟩
theorem F81 : Fun Tryd.prog 81 Tryd.f81 := ⟨Tryd.func81, by kernel_rfl, by kernel_rfl⟩
theorem F82 : Fun Tryd.prog 82 Tryd.f82 := ⟨Tryd.func82, by kernel_rfl, by kernel_rfl⟩
theorem F83 : Fun Tryd.prog 83 Tryd.f83 := ⟨Tryd.func83, by kernel_rfl, by kernel_rfl⟩
theorem F84 : Fun Tryd.prog 84 Tryd.f84 := ⟨Tryd.func84, by kernel_rfl, by kernel_rfl⟩
theorem F85 : Fun Tryd.prog 85 Tryd.f85 := ⟨Tryd.func85, by kernel_rfl, by kernel_rfl⟩
theorem F86 : Fun Tryd.prog 86 Tryd.f86 := ⟨Tryd.func86, by kernel_rfl, by kernel_rfl⟩
theorem F87 : Fun Tryd.prog 87 Tryd.f87 := ⟨Tryd.func87, by kernel_rfl, by kernel_rfl⟩
theorem F88 : Fun Tryd.prog 88 Tryd.f88 := ⟨Tryd.func88, by kernel_rfl, by kernel_rfl⟩
theorem F89 : Fun Tryd.prog 89 Tryd.f89 := ⟨Tryd.func89, by kernel_rfl, by kernel_rfl⟩
theorem F90 : Fun Tryd.prog 90 Tryd.f90 := ⟨Tryd.func90, by kernel_rfl, by kernel_rfl⟩
theorem F91 : Fun Tryd.prog 91 Tryd.f91 := ⟨Tryd.func91, by kernel_rfl, by kernel_rfl⟩
theorem F92 : Fun Tryd.prog 92 Tryd.f92 := ⟨Tryd.func92, by kernel_rfl, by kernel_rfl⟩
theorem F93 : Fun Tryd.prog 93 Tryd.f93 := ⟨Tryd.func93, by kernel_rfl, by kernel_rfl⟩
theorem F94 : Fun Tryd.prog 94 Tryd.f94 := ⟨Tryd.func94, by kernel_rfl, by kernel_rfl⟩
theorem F95 : Fun Tryd.prog 95 Tryd.f95 := ⟨Tryd.func95, by kernel_rfl, by kernel_rfl⟩
theorem F96 : Fun Tryd.prog 96 Tryd.f96 := ⟨Tryd.func96, by kernel_rfl, by kernel_rfl⟩
theorem F97 : Fun Tryd.prog 97 Tryd.f97 := ⟨Tryd.func97, by kernel_rfl, by kernel_rfl⟩
theorem F98 : Fun Tryd.prog 98 Tryd.f98 := ⟨Tryd.func98, by kernel_rfl, by kernel_rfl⟩
theorem F99 : Fun Tryd.prog 99 Tryd.f99 := ⟨Tryd.func99, by kernel_rfl, by kernel_rfl⟩
def str0 : ByteArray := ⟨#[48, 46, 48, 46, 48, 46, 48, 47, 51, 50]⟩
def str1 : ByteArray := ⟨#[58, 58, 47, 49, 50, 56]⟩
def str2 : ByteArray := ⟨#[49, 50, 55, 46, 48, 46, 48, 46, 48, 47, 56]⟩
def str3 : ByteArray := ⟨#[58, 58, 49, 47, 49, 50, 56]⟩
def str4 : ByteArray := ⟨#[50, 50, 52, 46, 48, 46, 48, 46, 48, 47, 52]⟩
def str5 : ByteArray := ⟨#[102, 102, 48, 48, 58, 58, 47, 56]⟩
def str6 : ByteArray := ⟨#[49, 54, 57, 46, 50, 53, 52, 46, 48, 46, 48, 47, 49, 54]⟩
def str7 : ByteArray := ⟨#[102, 101, 56, 48, 58, 58, 47, 49, 48]⟩
def str8 : ByteArray := ⟨#[50, 53, 53, 46, 50, 53, 53, 46, 50, 53, 53, 46, 50, 53, 53, 47, 51, 50]⟩
def str9 : ByteArray := ⟨#[48, 46, 48, 46, 48, 46, 48, 47, 56]⟩
def str10 : ByteArray := ⟨#[50, 52, 48, 46, 48, 46, 48, 46, 48, 47, 52]⟩
def str11 : ByteArray := ⟨#[58, 58, 47, 56]⟩
def str12 : ByteArray := ⟨#[0, 1, 2, 2, 3, 3, 3, 3, 4, 4, 4, 4, 4, 4, 4, 4, 5, 5, 5, 5, 5, 5, 5, 5, 5, 5, 5, 5, 5, 5, 5, 5, 6, 6, 6, 6, 6, 6, 6, 6, 6, 6, 6, 6, 6, 6, 6, 6, 6, 6, 6, 6, 6, 6, 6, 6, 6, 6, 6, 6, 6, 6, 6, 6, 7, 7, 7, 7, 7, 7, 7, 7, 7, 7, 7, 7, 7, 7, 7, 7, 7, 7, 7, 7, 7, 7, 7, 7, 7, 7, 7, 7, 7, 7, 7, 7, 7, 7, 7, 7, 7, 7, 7, 7, 7, 7, 7, 7, 7, 7, 7, 7, 7, 7, 7, 7, 7, 7, 7, 7, 7, 7, 7, 7, 7, 7, 7, 7, 8, 8, 8, 8, 8, 8, 8, 8, 8, 8, 8, 8, 8, 8, 8, 8, 8, 8, 8, 8, 8, 8, 8, 8, 8, 8, 8, 8, 8, 8, 8, 8, 8, 8, 8, 8, 8, 8, 8, 8, 8, 8, 8, 8, 8, 8, 8, 8, 8, 8, 8, 8, 8, 8, 8, 8, 8, 8, 8, 8, 8, 8, 8, 8, 8, 8, 8, 8, 8, 8, 8, 8, 8, 8, 8, 8, 8, 8, 8, 8, 8, 8, 8, 8, 8, 8, 8, 8, 8, 8, 8, 8, 8, 8, 8, 8, 8, 8, 8, 8, 8, 8, 8, 8, 8, 8, 8, 8, 8, 8, 8, 8, 8, 8, 8, 8, 8, 8, 8, 8, 8, 8, 8, 8, 8, 8, 8, 8]⟩
theorem Eq5 : EqT Tryd.prog 5 1 (cI .u8) := EqT.int Tryd.underlying5
theorem Eq115 : EqT Tryd.prog 115 2 ((cI .u8).arr 12) := EqT.arr Tryd.underlying115 Ty5 Eq5
theorem Eq3 : EqT Tryd.prog 3 1 (cI .i64) := EqT.int Tryd.underlying3
theorem Eq26 : EqT Tryd.prog 26 2 ((cI .u8).arr 16) := EqT.arr Tryd.underlying26 Ty5 Eq5
theorem Eq28 : EqT Tryd.prog 28 3 c_api_IP := EqT.struct (D := 2) Tryd.underlying28 (by kernel_rfl) rfl (fun d hd x y w => EqFs.congr (EqFs.cons rfl Ty3 (At_api_IP_V x) (At_api_IP_V y) Eq3 (by omega) (EqFs.cons rfl Ty26 (At_api_IP_A x) (At_api_IP_A y) Eq26 (by omega) EqFs.nil)) (by obtain ⟨⟩ := x; obtain ⟨⟩ := y; simp))
theorem Eq30 : EqT Tryd.prog 30 4 c_api_Prefix := EqT.struct (D := 3) Tryd.underlying30 (by kernel_rfl) rfl (fun d hd x y w => EqFs.congr (EqFs.cons rfl Ty28 (At_api_Prefix_IP x) (At_api_Prefix_IP y) Eq28 (by omega) (EqFs.cons rfl Ty3 (At_api_Prefix_Len x) (At_api_Prefix_Len y) Eq3 (by omega) EqFs.nil)) (by obtain ⟨⟩ := x; obtain ⟨⟩ := y; simp))
theorem Ck3 : CkT Tryd.prog 3 1 (cI .i64) := CkT.int Tryd.underlying3
theorem Ck5 : CkT Tryd.prog 5 1 (cI .u8) := CkT.int Tryd.underlying5
theorem Ck26 : CkT Tryd.prog 26 2 ((cI .u8).arr 16) := CkT.arr Tryd.underlying26 Ty5 Ck5
theorem Ck28 : CkT Tryd.prog 28 3 c_api_IP := CkT.struct (D := 2) Tryd.underlying28 rfl (fun d hd b x w => (CkFs.cons rfl Ty3 (At_api_IP_V x) Ck3 (by omega) (CkFs.cons rfl Ty26 (At_api_IP_A x) Ck26 (by omega) CkFs.nil)))
theorem Ck30 : CkT Tryd.prog 30 4 c_api_Prefix := CkT.struct (D := 3) Tryd.underlying30 rfl (fun d hd b x w => (CkFs.cons rfl Ty28 (At_api_Prefix_IP x) Ck28 (by omega) (CkFs.cons rfl Ty3 (At_api_Prefix_Len x) Ck3 (by omega) CkFs.nil)))
theorem Kt79 : KeyT Tryd.prog 79 30 4 c_api_Prefix c_api_Route z_api_Route := ⟨rfl, Eq30, Ck30, (SbC.iso (SbC.pair (SbC.iso (SbC.pair SbC.int (SbC.arr SbC.int))) SbC.int)), by decide, ⟨32, by kernel_rfl, Ty32⟩, ⟨_, Tryd.underlying30⟩⟩
theorem Eq32 : EqT Tryd.prog 32 5 c_api_Route := EqT.struct (D := 4) Tryd.underlying32 (by kernel_rfl) rfl (fun d hd x y w => EqFs.congr (EqFs.cons rfl Ty30 (At_api_Route_Prefix x) (At_api_Route_Prefix y) Eq30 (by omega) (EqFs.cons rfl Ty3 (At_api_Route_Port x) (At_api_Route_Port y) Eq3 (by omega) (EqFs.cons rfl Ty28 (At_api_Route_Via x) (At_api_Route_Via y) Eq28 (by omega) EqFs.nil))) (by obtain ⟨⟩ := x; obtain ⟨⟩ := y; simp))
theorem mixed : Tryd.prog.follows .mixedOrders = true := by kernel_rfl
end Go.Proofs.YtfgcobigollfjaaDoor.Lx
