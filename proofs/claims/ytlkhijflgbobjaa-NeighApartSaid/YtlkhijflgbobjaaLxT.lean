/- The types of the translation that the programs use. -/
import Derived.Test.YtlkhijflgbobjaaProg
import Derived.Test.YtlkhijflgbobjaaLxM
set_option linter.unusedVariables false
set_option linter.unusedSimpArgs false
namespace Go.Proofs.Ytlkhijflgbobjaa.Lx
open Go Go.Proofs
structure api_NeighConfig where
  Max : Int
  Line : Int
  Every : Int
  Tries : Int
  Fresh : Int
  deriving DecidableEq
def z_api_NeighConfig : api_NeighConfig := ⟨0, 0, 0, 0, 0⟩
instance : Inhabited api_NeighConfig := ⟨z_api_NeighConfig⟩
def c_api_NeighConfig : Cod api_NeighConfig := ((cI .i64).pair ((cI .i64).pair ((cI .i64).pair ((cI .i64).pair (cI .i64))))).iso (fun x => (x.Max, x.Line, x.Every, x.Tries, x.Fresh)) (fun p => ⟨p.1, p.2.1, p.2.2.1, p.2.2.2.1, p.2.2.2.2⟩) (fun _ => rfl) (fun _ => rfl)
theorem At_api_NeighConfig_Max (x : api_NeighConfig) : At (c_api_NeighConfig.enc x) 0 ((cI .i64).enc x.Max) := At.fst
theorem Up_api_NeighConfig_Max (x : api_NeighConfig) (y : Int) : Upd (c_api_NeighConfig.enc x) 0 ((cI .i64).enc y) (c_api_NeighConfig.enc (⟨y, x.Line, x.Every, x.Tries, x.Fresh⟩ : api_NeighConfig)) := Upd.fst
theorem At_api_NeighConfig_Line (x : api_NeighConfig) : At (c_api_NeighConfig.enc x) 1 ((cI .i64).enc x.Line) := At.snd (At.fst)
theorem Up_api_NeighConfig_Line (x : api_NeighConfig) (y : Int) : Upd (c_api_NeighConfig.enc x) 1 ((cI .i64).enc y) (c_api_NeighConfig.enc (⟨x.Max, y, x.Every, x.Tries, x.Fresh⟩ : api_NeighConfig)) := Upd.snd (Upd.fst)
theorem At_api_NeighConfig_Every (x : api_NeighConfig) : At (c_api_NeighConfig.enc x) 2 ((cI .i64).enc x.Every) := At.snd (At.snd (At.fst))
theorem Up_api_NeighConfig_Every (x : api_NeighConfig) (y : Int) : Upd (c_api_NeighConfig.enc x) 2 ((cI .i64).enc y) (c_api_NeighConfig.enc (⟨x.Max, x.Line, y, x.Tries, x.Fresh⟩ : api_NeighConfig)) := Upd.snd (Upd.snd (Upd.fst))
theorem At_api_NeighConfig_Tries (x : api_NeighConfig) : At (c_api_NeighConfig.enc x) 3 ((cI .i64).enc x.Tries) := At.snd (At.snd (At.snd (At.fst)))
theorem Up_api_NeighConfig_Tries (x : api_NeighConfig) (y : Int) : Upd (c_api_NeighConfig.enc x) 3 ((cI .i64).enc y) (c_api_NeighConfig.enc (⟨x.Max, x.Line, x.Every, y, x.Fresh⟩ : api_NeighConfig)) := Upd.snd (Upd.snd (Upd.snd (Upd.fst)))
theorem At_api_NeighConfig_Fresh (x : api_NeighConfig) : At (c_api_NeighConfig.enc x) 4 ((cI .i64).enc x.Fresh) := At.snd (At.snd (At.snd (At.last)))
theorem Up_api_NeighConfig_Fresh (x : api_NeighConfig) (y : Int) : Upd (c_api_NeighConfig.enc x) 4 ((cI .i64).enc y) (c_api_NeighConfig.enc (⟨x.Max, x.Line, x.Every, x.Tries, y⟩ : api_NeighConfig)) := Upd.snd (Upd.snd (Upd.snd (Upd.last)))
structure neigh_Cache where
  c : api_NeighConfig
  at_ : (Option Nat)
  deriving DecidableEq
def z_neigh_Cache : neigh_Cache := ⟨z_api_NeighConfig, none⟩
instance : Inhabited neigh_Cache := ⟨z_neigh_Cache⟩
def c_neigh_Cache : Cod neigh_Cache := (c_api_NeighConfig.pair cM).iso (fun x => (x.c, x.at_)) (fun p => ⟨p.1, p.2⟩) (fun _ => rfl) (fun _ => rfl)
theorem At_neigh_Cache_c (x : neigh_Cache) : At (c_neigh_Cache.enc x) 0 (c_api_NeighConfig.enc x.c) := At.fst
theorem Up_neigh_Cache_c (x : neigh_Cache) (y : api_NeighConfig) : Upd (c_neigh_Cache.enc x) 0 (c_api_NeighConfig.enc y) (c_neigh_Cache.enc (⟨y, x.at_⟩ : neigh_Cache)) := Upd.fst
theorem At_neigh_Cache_at_ (x : neigh_Cache) : At (c_neigh_Cache.enc x) 5 (cM.enc x.at_) := At.last
theorem Up_neigh_Cache_at_ (x : neigh_Cache) (y : (Option Nat)) : Upd (c_neigh_Cache.enc x) 5 (cM.enc y) (c_neigh_Cache.enc (⟨x.c, y⟩ : neigh_Cache)) := Upd.last
structure api_IP where
  V : Int
  A : (Vec Int 16)
  deriving DecidableEq
def z_api_IP : api_IP := ⟨0, (Vec.rep 16 0)⟩
instance : Inhabited api_IP := ⟨z_api_IP⟩
def c_api_IP : Cod api_IP := ((cI .i64).pair ((cI .u8).arr 16)).iso (fun x => (x.V, x.A)) (fun p => ⟨p.1, p.2⟩) (fun _ => rfl) (fun _ => rfl)
theorem At_api_IP_V (x : api_IP) : At (c_api_IP.enc x) 0 ((cI .i64).enc x.V) := At.fst
theorem Up_api_IP_V (x : api_IP) (y : Int) : Upd (c_api_IP.enc x) 0 ((cI .i64).enc y) (c_api_IP.enc (⟨y, x.A⟩ : api_IP)) := Upd.fst
theorem At_api_IP_A (x : api_IP) : At (c_api_IP.enc x) 1 (((cI .u8).arr 16).enc x.A) := At.last
theorem Up_api_IP_A (x : api_IP) (y : (Vec Int 16)) : Upd (c_api_IP.enc x) 1 (((cI .u8).arr 16).enc y) (c_api_IP.enc (⟨x.V, y⟩ : api_IP)) := Upd.last
structure neigh_key where
  port : Int
  ip : api_IP
  deriving DecidableEq
def z_neigh_key : neigh_key := ⟨0, z_api_IP⟩
instance : Inhabited neigh_key := ⟨z_neigh_key⟩
def c_neigh_key : Cod neigh_key := ((cI .i64).pair c_api_IP).iso (fun x => (x.port, x.ip)) (fun p => ⟨p.1, p.2⟩) (fun _ => rfl) (fun _ => rfl)
theorem At_neigh_key_port (x : neigh_key) : At (c_neigh_key.enc x) 0 ((cI .i64).enc x.port) := At.fst
theorem Up_neigh_key_port (x : neigh_key) (y : Int) : Upd (c_neigh_key.enc x) 0 ((cI .i64).enc y) (c_neigh_key.enc (⟨y, x.ip⟩ : neigh_key)) := Upd.fst
theorem At_neigh_key_ip (x : neigh_key) : At (c_neigh_key.enc x) 1 (c_api_IP.enc x.ip) := At.last
theorem Up_neigh_key_ip (x : neigh_key) (y : api_IP) : Upd (c_neigh_key.enc x) 1 (c_api_IP.enc y) (c_neigh_key.enc (⟨x.port, y⟩ : neigh_key)) := Upd.last
structure neigh_entry where
  key : neigh_key
  mac : (Vec Int 6)
  state : Int
  age : Int
  tries : Int
  items : Sl
  deriving DecidableEq
def z_neigh_entry : neigh_entry := ⟨z_neigh_key, (Vec.rep 6 0), 0, 0, 0, Sl.nil⟩
instance : Inhabited neigh_entry := ⟨z_neigh_entry⟩
def c_neigh_entry : Cod neigh_entry := (c_neigh_key.pair (((cI .u8).arr 6).pair ((cI .i64).pair ((cI .i64).pair ((cI .i64).pair cL))))).iso (fun x => (x.key, x.mac, x.state, x.age, x.tries, x.items)) (fun p => ⟨p.1, p.2.1, p.2.2.1, p.2.2.2.1, p.2.2.2.2.1, p.2.2.2.2.2⟩) (fun _ => rfl) (fun _ => rfl)
theorem At_neigh_entry_key (x : neigh_entry) : At (c_neigh_entry.enc x) 0 (c_neigh_key.enc x.key) := At.fst
theorem Up_neigh_entry_key (x : neigh_entry) (y : neigh_key) : Upd (c_neigh_entry.enc x) 0 (c_neigh_key.enc y) (c_neigh_entry.enc (⟨y, x.mac, x.state, x.age, x.tries, x.items⟩ : neigh_entry)) := Upd.fst
theorem At_neigh_entry_mac (x : neigh_entry) : At (c_neigh_entry.enc x) 18 (((cI .u8).arr 6).enc x.mac) := At.snd (At.fst)
theorem Up_neigh_entry_mac (x : neigh_entry) (y : (Vec Int 6)) : Upd (c_neigh_entry.enc x) 18 (((cI .u8).arr 6).enc y) (c_neigh_entry.enc (⟨x.key, y, x.state, x.age, x.tries, x.items⟩ : neigh_entry)) := Upd.snd (Upd.fst)
theorem At_neigh_entry_state (x : neigh_entry) : At (c_neigh_entry.enc x) 24 ((cI .i64).enc x.state) := At.snd (At.snd (At.fst))
theorem Up_neigh_entry_state (x : neigh_entry) (y : Int) : Upd (c_neigh_entry.enc x) 24 ((cI .i64).enc y) (c_neigh_entry.enc (⟨x.key, x.mac, y, x.age, x.tries, x.items⟩ : neigh_entry)) := Upd.snd (Upd.snd (Upd.fst))
theorem At_neigh_entry_age (x : neigh_entry) : At (c_neigh_entry.enc x) 25 ((cI .i64).enc x.age) := At.snd (At.snd (At.snd (At.fst)))
theorem Up_neigh_entry_age (x : neigh_entry) (y : Int) : Upd (c_neigh_entry.enc x) 25 ((cI .i64).enc y) (c_neigh_entry.enc (⟨x.key, x.mac, x.state, y, x.tries, x.items⟩ : neigh_entry)) := Upd.snd (Upd.snd (Upd.snd (Upd.fst)))
theorem At_neigh_entry_tries (x : neigh_entry) : At (c_neigh_entry.enc x) 26 ((cI .i64).enc x.tries) := At.snd (At.snd (At.snd (At.snd (At.fst))))
theorem Up_neigh_entry_tries (x : neigh_entry) (y : Int) : Upd (c_neigh_entry.enc x) 26 ((cI .i64).enc y) (c_neigh_entry.enc (⟨x.key, x.mac, x.state, x.age, y, x.items⟩ : neigh_entry)) := Upd.snd (Upd.snd (Upd.snd (Upd.snd (Upd.fst))))
theorem At_neigh_entry_items (x : neigh_entry) : At (c_neigh_entry.enc x) 27 (cL.enc x.items) := At.snd (At.snd (At.snd (At.snd (At.last))))
theorem Up_neigh_entry_items (x : neigh_entry) (y : Sl) : Upd (c_neigh_entry.enc x) 27 (cL.enc y) (c_neigh_entry.enc (⟨x.key, x.mac, x.state, x.age, x.tries, y⟩ : neigh_entry)) := Upd.snd (Upd.snd (Upd.snd (Upd.snd (Upd.last))))
structure api_Ask where
  Port : Int
  IP : api_IP
  Mac : (Vec Int 6)
  Try : Int
  deriving DecidableEq
def z_api_Ask : api_Ask := ⟨0, z_api_IP, (Vec.rep 6 0), 0⟩
instance : Inhabited api_Ask := ⟨z_api_Ask⟩
def c_api_Ask : Cod api_Ask := ((cI .i64).pair (c_api_IP.pair (((cI .u8).arr 6).pair (cI .i64)))).iso (fun x => (x.Port, x.IP, x.Mac, x.Try)) (fun p => ⟨p.1, p.2.1, p.2.2.1, p.2.2.2⟩) (fun _ => rfl) (fun _ => rfl)
theorem At_api_Ask_Port (x : api_Ask) : At (c_api_Ask.enc x) 0 ((cI .i64).enc x.Port) := At.fst
theorem Up_api_Ask_Port (x : api_Ask) (y : Int) : Upd (c_api_Ask.enc x) 0 ((cI .i64).enc y) (c_api_Ask.enc (⟨y, x.IP, x.Mac, x.Try⟩ : api_Ask)) := Upd.fst
theorem At_api_Ask_IP (x : api_Ask) : At (c_api_Ask.enc x) 1 (c_api_IP.enc x.IP) := At.snd (At.fst)
theorem Up_api_Ask_IP (x : api_Ask) (y : api_IP) : Upd (c_api_Ask.enc x) 1 (c_api_IP.enc y) (c_api_Ask.enc (⟨x.Port, y, x.Mac, x.Try⟩ : api_Ask)) := Upd.snd (Upd.fst)
theorem At_api_Ask_Mac (x : api_Ask) : At (c_api_Ask.enc x) 18 (((cI .u8).arr 6).enc x.Mac) := At.snd (At.snd (At.fst))
theorem Up_api_Ask_Mac (x : api_Ask) (y : (Vec Int 6)) : Upd (c_api_Ask.enc x) 18 (((cI .u8).arr 6).enc y) (c_api_Ask.enc (⟨x.Port, x.IP, y, x.Try⟩ : api_Ask)) := Upd.snd (Upd.snd (Upd.fst))
theorem At_api_Ask_Try (x : api_Ask) : At (c_api_Ask.enc x) 24 ((cI .i64).enc x.Try) := At.snd (At.snd (At.last))
theorem Up_api_Ask_Try (x : api_Ask) (y : Int) : Upd (c_api_Ask.enc x) 24 ((cI .i64).enc y) (c_api_Ask.enc (⟨x.Port, x.IP, x.Mac, y⟩ : api_Ask)) := Upd.snd (Upd.snd (Upd.last))
structure api_Neighbour where
  Port : Int
  IP : api_IP
  Mac : (Vec Int 6)
  State : Int
  Age : Int
  Tries : Int
  Waiting : Int
  deriving DecidableEq
def z_api_Neighbour : api_Neighbour := ⟨0, z_api_IP, (Vec.rep 6 0), 0, 0, 0, 0⟩
instance : Inhabited api_Neighbour := ⟨z_api_Neighbour⟩
def c_api_Neighbour : Cod api_Neighbour := ((cI .i64).pair (c_api_IP.pair (((cI .u8).arr 6).pair ((cI .i64).pair ((cI .i64).pair ((cI .i64).pair (cI .i64))))))).iso (fun x => (x.Port, x.IP, x.Mac, x.State, x.Age, x.Tries, x.Waiting)) (fun p => ⟨p.1, p.2.1, p.2.2.1, p.2.2.2.1, p.2.2.2.2.1, p.2.2.2.2.2.1, p.2.2.2.2.2.2⟩) (fun _ => rfl) (fun _ => rfl)
theorem At_api_Neighbour_Port (x : api_Neighbour) : At (c_api_Neighbour.enc x) 0 ((cI .i64).enc x.Port) := At.fst
theorem Up_api_Neighbour_Port (x : api_Neighbour) (y : Int) : Upd (c_api_Neighbour.enc x) 0 ((cI .i64).enc y) (c_api_Neighbour.enc (⟨y, x.IP, x.Mac, x.State, x.Age, x.Tries, x.Waiting⟩ : api_Neighbour)) := Upd.fst
theorem At_api_Neighbour_IP (x : api_Neighbour) : At (c_api_Neighbour.enc x) 1 (c_api_IP.enc x.IP) := At.snd (At.fst)
theorem Up_api_Neighbour_IP (x : api_Neighbour) (y : api_IP) : Upd (c_api_Neighbour.enc x) 1 (c_api_IP.enc y) (c_api_Neighbour.enc (⟨x.Port, y, x.Mac, x.State, x.Age, x.Tries, x.Waiting⟩ : api_Neighbour)) := Upd.snd (Upd.fst)
theorem At_api_Neighbour_Mac (x : api_Neighbour) : At (c_api_Neighbour.enc x) 18 (((cI .u8).arr 6).enc x.Mac) := At.snd (At.snd (At.fst))
theorem Up_api_Neighbour_Mac (x : api_Neighbour) (y : (Vec Int 6)) : Upd (c_api_Neighbour.enc x) 18 (((cI .u8).arr 6).enc y) (c_api_Neighbour.enc (⟨x.Port, x.IP, y, x.State, x.Age, x.Tries, x.Waiting⟩ : api_Neighbour)) := Upd.snd (Upd.snd (Upd.fst))
theorem At_api_Neighbour_State (x : api_Neighbour) : At (c_api_Neighbour.enc x) 24 ((cI .i64).enc x.State) := At.snd (At.snd (At.snd (At.fst)))
theorem Up_api_Neighbour_State (x : api_Neighbour) (y : Int) : Upd (c_api_Neighbour.enc x) 24 ((cI .i64).enc y) (c_api_Neighbour.enc (⟨x.Port, x.IP, x.Mac, y, x.Age, x.Tries, x.Waiting⟩ : api_Neighbour)) := Upd.snd (Upd.snd (Upd.snd (Upd.fst)))
theorem At_api_Neighbour_Age (x : api_Neighbour) : At (c_api_Neighbour.enc x) 25 ((cI .i64).enc x.Age) := At.snd (At.snd (At.snd (At.snd (At.fst))))
theorem Up_api_Neighbour_Age (x : api_Neighbour) (y : Int) : Upd (c_api_Neighbour.enc x) 25 ((cI .i64).enc y) (c_api_Neighbour.enc (⟨x.Port, x.IP, x.Mac, x.State, y, x.Tries, x.Waiting⟩ : api_Neighbour)) := Upd.snd (Upd.snd (Upd.snd (Upd.snd (Upd.fst))))
theorem At_api_Neighbour_Tries (x : api_Neighbour) : At (c_api_Neighbour.enc x) 26 ((cI .i64).enc x.Tries) := At.snd (At.snd (At.snd (At.snd (At.snd (At.fst)))))
theorem Up_api_Neighbour_Tries (x : api_Neighbour) (y : Int) : Upd (c_api_Neighbour.enc x) 26 ((cI .i64).enc y) (c_api_Neighbour.enc (⟨x.Port, x.IP, x.Mac, x.State, x.Age, y, x.Waiting⟩ : api_Neighbour)) := Upd.snd (Upd.snd (Upd.snd (Upd.snd (Upd.snd (Upd.fst)))))
theorem At_api_Neighbour_Waiting (x : api_Neighbour) : At (c_api_Neighbour.enc x) 27 ((cI .i64).enc x.Waiting) := At.snd (At.snd (At.snd (At.snd (At.snd (At.last)))))
theorem Up_api_Neighbour_Waiting (x : api_Neighbour) (y : Int) : Upd (c_api_Neighbour.enc x) 27 ((cI .i64).enc y) (c_api_Neighbour.enc (⟨x.Port, x.IP, x.Mac, x.State, x.Age, x.Tries, y⟩ : api_Neighbour)) := Upd.snd (Upd.snd (Upd.snd (Upd.snd (Upd.snd (Upd.last)))))
structure weirlaw3_Ints where
  L : Sl
  Was : Sl
  deriving DecidableEq
def z_weirlaw3_Ints : weirlaw3_Ints := ⟨Sl.nil, Sl.nil⟩
instance : Inhabited weirlaw3_Ints := ⟨z_weirlaw3_Ints⟩
def c_weirlaw3_Ints : Cod weirlaw3_Ints := (cL.pair cL).iso (fun x => (x.L, x.Was)) (fun p => ⟨p.1, p.2⟩) (fun _ => rfl) (fun _ => rfl)
structure weirlaw15_Rows where
  N : Sl
  WasN : Sl
  A : Sl
  WasA : Sl
  deriving DecidableEq
def z_weirlaw15_Rows : weirlaw15_Rows := ⟨Sl.nil, Sl.nil, Sl.nil, Sl.nil⟩
instance : Inhabited weirlaw15_Rows := ⟨z_weirlaw15_Rows⟩
def c_weirlaw15_Rows : Cod weirlaw15_Rows := (cL.pair (cL.pair (cL.pair cL))).iso (fun x => (x.N, x.WasN, x.A, x.WasA)) (fun p => ⟨p.1, p.2.1, p.2.2.1, p.2.2.2⟩) (fun _ => rfl) (fun _ => rfl)
structure weirlaw15_Op where
  Kind : Int
  Two : Bool
  Port : Int
  IP : api_IP
  Mac : (Vec Int 6)
  N : Int
  deriving DecidableEq
def z_weirlaw15_Op : weirlaw15_Op := ⟨0, false, 0, z_api_IP, (Vec.rep 6 0), 0⟩
instance : Inhabited weirlaw15_Op := ⟨z_weirlaw15_Op⟩
def c_weirlaw15_Op : Cod weirlaw15_Op := ((cI .i64).pair (cB.pair ((cI .i64).pair (c_api_IP.pair (((cI .u8).arr 6).pair (cI .i64)))))).iso (fun x => (x.Kind, x.Two, x.Port, x.IP, x.Mac, x.N)) (fun p => ⟨p.1, p.2.1, p.2.2.1, p.2.2.2.1, p.2.2.2.2.1, p.2.2.2.2.2⟩) (fun _ => rfl) (fun _ => rfl)
theorem At_weirlaw15_Op_Kind (x : weirlaw15_Op) : At (c_weirlaw15_Op.enc x) 0 ((cI .i64).enc x.Kind) := At.fst
theorem At_weirlaw15_Op_Port (x : weirlaw15_Op) : At (c_weirlaw15_Op.enc x) 2 ((cI .i64).enc x.Port) := At.snd (At.snd (At.fst))
theorem At_weirlaw15_Op_IP (x : weirlaw15_Op) : At (c_weirlaw15_Op.enc x) 3 (c_api_IP.enc x.IP) := At.snd (At.snd (At.snd (At.fst)))
theorem At_weirlaw15_Op_Mac (x : weirlaw15_Op) : At (c_weirlaw15_Op.enc x) 20 (((cI .u8).arr 6).enc x.Mac) := At.snd (At.snd (At.snd (At.snd (At.fst))))
theorem At_weirlaw15_Op_N (x : weirlaw15_Op) : At (c_weirlaw15_Op.enc x) 26 ((cI .i64).enc x.N) := At.snd (At.snd (At.snd (At.snd (At.last))))
theorem Ty3 : Ty Try.prog 3 (cI .i64) 0 := ⟨by kernel_rfl, by kernel_rfl⟩
theorem Ty5 : Ty Try.prog 5 (cI .u8) 0 := ⟨by kernel_rfl, by kernel_rfl⟩
theorem Ty23 : Ty Try.prog 23 c_api_NeighConfig z_api_NeighConfig := ⟨by kernel_rfl, by kernel_rfl⟩
theorem Ty30 : Ty Try.prog 30 ((cI .u8).arr 16) (Vec.rep 16 0) := ⟨by kernel_rfl, by kernel_rfl⟩
theorem Ty32 : Ty Try.prog 32 c_api_IP z_api_IP := ⟨by kernel_rfl, by kernel_rfl⟩
theorem Ty34 : Ty Try.prog 34 ((cI .u8).arr 6) (Vec.rep 6 0) := ⟨by kernel_rfl, by kernel_rfl⟩
theorem Ty36 : Ty Try.prog 36 c_weirlaw15_Op z_weirlaw15_Op := ⟨by kernel_rfl, by kernel_rfl⟩
theorem Ty43 : Ty Try.prog 43 cL Sl.nil := ⟨by kernel_rfl, by kernel_rfl⟩
theorem Ty50 : Ty Try.prog 50 cL Sl.nil := ⟨by kernel_rfl, by kernel_rfl⟩
theorem Ty56 : Ty Try.prog 56 cL Sl.nil := ⟨by kernel_rfl, by kernel_rfl⟩
theorem Ty58 : Ty Try.prog 58 c_weirlaw3_Ints z_weirlaw3_Ints := ⟨by kernel_rfl, by kernel_rfl⟩
theorem Ty60 : Ty Try.prog 60 cL Sl.nil := ⟨by kernel_rfl, by kernel_rfl⟩
theorem Ty61 : Ty Try.prog 61 cL Sl.nil := ⟨by kernel_rfl, by kernel_rfl⟩
theorem Ty63 : Ty Try.prog 63 c_weirlaw15_Rows z_weirlaw15_Rows := ⟨by kernel_rfl, by kernel_rfl⟩
theorem Ty68 : Ty Try.prog 68 cL Sl.nil := ⟨by kernel_rfl, by kernel_rfl⟩
theorem Ty77 : Ty Try.prog 77 c_api_Neighbour z_api_Neighbour := ⟨by kernel_rfl, by kernel_rfl⟩
theorem Ty99 : Ty Try.prog 99 c_neigh_key z_neigh_key := ⟨by kernel_rfl, by kernel_rfl⟩
theorem Ty100 : Ty Try.prog 100 cP none := ⟨by kernel_rfl, by kernel_rfl⟩
theorem Ty101 : Ty Try.prog 101 cM none := ⟨by kernel_rfl, by kernel_rfl⟩
theorem Ty103 : Ty Try.prog 103 c_neigh_Cache z_neigh_Cache := ⟨by kernel_rfl, by kernel_rfl⟩
theorem Ty105 : Ty Try.prog 105 c_neigh_entry z_neigh_entry := ⟨by kernel_rfl, by kernel_rfl⟩
theorem Ty111 : Ty Try.prog 111 c_api_Ask z_api_Ask := ⟨by kernel_rfl, by kernel_rfl⟩
theorem Ty162 : Ty Try.prog 162 (cI .u64) 0 := ⟨by kernel_rfl, by kernel_rfl⟩
theorem F13 : Fun Try.prog 13 Try.f13 := ⟨Try.func13, by kernel_rfl, by kernel_rfl⟩
theorem F14 : Fun Try.prog 14 Try.f14 := ⟨Try.func14, by kernel_rfl, by kernel_rfl⟩
theorem F15 : Fun Try.prog 15 Try.f15 := ⟨Try.func15, by kernel_rfl, by kernel_rfl⟩
theorem F16 : Fun Try.prog 16 Try.f16 := ⟨Try.func16, by kernel_rfl, by kernel_rfl⟩
theorem F18 : Fun Try.prog 18 Try.f18 := ⟨Try.func18, by kernel_rfl, by kernel_rfl⟩
theorem F21 : Fun Try.prog 21 Try.f21 := ⟨Try.func21, by kernel_rfl, by kernel_rfl⟩
theorem F23 : Fun Try.prog 23 Try.f23 := ⟨Try.func23, by kernel_rfl, by kernel_rfl⟩
theorem F24 : Fun Try.prog 24 Try.f24 := ⟨Try.func24, by kernel_rfl, by kernel_rfl⟩
theorem F25 : Fun Try.prog 25 Try.f25 := ⟨Try.func25, by kernel_rfl, by kernel_rfl⟩
theorem F26 : Fun Try.prog 26 Try.f26 := ⟨Try.func26, by kernel_rfl, by kernel_rfl⟩
theorem F27 : Fun Try.prog 27 Try.f27 := ⟨Try.func27, by kernel_rfl, by kernel_rfl⟩
theorem F28 : Fun Try.prog 28 Try.f28 := ⟨Try.func28, by kernel_rfl, by kernel_rfl⟩
theorem F29 : Fun Try.prog 29 Try.f29 := ⟨Try.func29, by kernel_rfl, by kernel_rfl⟩
theorem F30 : Fun Try.prog 30 Try.f30 := ⟨Try.func30, by kernel_rfl, by kernel_rfl⟩
theorem F31 : Fun Try.prog 31 Try.f31 := ⟨Try.func31, by kernel_rfl, by kernel_rfl⟩
theorem F32 : Fun Try.prog 32 Try.f32 := ⟨Try.func32, by kernel_rfl, by kernel_rfl⟩
theorem F33 : Fun Try.prog 33 Try.f33 := ⟨Try.func33, by kernel_rfl, by kernel_rfl⟩
theorem F44 : Fun Try.prog 44 Try.f44 := ⟨Try.func44, by kernel_rfl, by kernel_rfl⟩
theorem F45 : Fun Try.prog 45 Try.f45 := ⟨Try.func45, by kernel_rfl, by kernel_rfl⟩
theorem F46 : Fun Try.prog 46 Try.f46 := ⟨Try.func46, by kernel_rfl, by kernel_rfl⟩
theorem F47 : Fun Try.prog 47 Try.f47 := ⟨Try.func47, by kernel_rfl, by kernel_rfl⟩
theorem F48 : Fun Try.prog 48 Try.f48 := ⟨Try.func48, by kernel_rfl, by kernel_rfl⟩
theorem F49 : Fun Try.prog 49 Try.f49 := ⟨Try.func49, by kernel_rfl, by kernel_rfl⟩
theorem F50 : Fun Try.prog 50 Try.f50 := ⟨Try.func50, by kernel_rfl, by kernel_rfl⟩
theorem F51 : Fun Try.prog 51 Try.f51 := ⟨Try.func51, by kernel_rfl, by kernel_rfl⟩
theorem F52 : Fun Try.prog 52 Try.f52 := ⟨Try.func52, by kernel_rfl, by kernel_rfl⟩
theorem F53 : Fun Try.prog 53 Try.f53 := ⟨Try.func53, by kernel_rfl, by kernel_rfl⟩
theorem F54 : Fun Try.prog 54 Try.f54 := ⟨Try.func54, by kernel_rfl, by kernel_rfl⟩
theorem F55 : Fun Try.prog 55 Try.f55 := ⟨Try.func55, by kernel_rfl, by kernel_rfl⟩
theorem F58 : Fun Try.prog 58 Try.f58 := ⟨Try.func58, by kernel_rfl, by kernel_rfl⟩
theorem F59 : Fun Try.prog 59 Try.f59 := ⟨Try.func59, by kernel_rfl, by kernel_rfl⟩
theorem F60 : Fun Try.prog 60 Try.f60 := ⟨Try.func60, by kernel_rfl, by kernel_rfl⟩
theorem F61 : Fun Try.prog 61 Try.f61 := ⟨Try.func61, by kernel_rfl, by kernel_rfl⟩
theorem F69 : Fun Try.prog 69 Try.f69 := ⟨Try.func69, by kernel_rfl, by kernel_rfl⟩
theorem F70 : Fun Try.prog 70 Try.f70 := ⟨Try.func70, by kernel_rfl, by kernel_rfl⟩
theorem F71 : Fun Try.prog 71 Try.f71 := ⟨Try.func71, by kernel_rfl, by kernel_rfl⟩
theorem F78 : Fun Try.prog 78 Try.f78 := ⟨Try.func78, by kernel_rfl, by kernel_rfl⟩
theorem F79 : Fun Try.prog 79 Try.f79 := ⟨Try.func79, by kernel_rfl, by kernel_rfl⟩
theorem F80 : Fun Try.prog 80 Try.f80 := ⟨Try.func80, by kernel_rfl, by kernel_rfl⟩
theorem F81 : Fun Try.prog 81 Try.f81 := ⟨Try.func81, by kernel_rfl, by kernel_rfl⟩
theorem F82 : Fun Try.prog 82 Try.f82 := ⟨Try.func82, by kernel_rfl, by kernel_rfl⟩
theorem F83 : Fun Try.prog 83 Try.f83 := ⟨Try.func83, by kernel_rfl, by kernel_rfl⟩
theorem F84 : Fun Try.prog 84 Try.f84 := ⟨Try.func84, by kernel_rfl, by kernel_rfl⟩
theorem F85 : Fun Try.prog 85 Try.f85 := ⟨Try.func85, by kernel_rfl, by kernel_rfl⟩
theorem F87 : Fun Try.prog 87 Try.f87 := ⟨Try.func87, by kernel_rfl, by kernel_rfl⟩
theorem F91 : Fun Try.prog 91 Try.f91 := ⟨Try.func91, by kernel_rfl, by kernel_rfl⟩
theorem F92 : Fun Try.prog 92 Try.f92 := ⟨Try.func92, by kernel_rfl, by kernel_rfl⟩
theorem F93 : Fun Try.prog 93 Try.f93 := ⟨Try.func93, by kernel_rfl, by kernel_rfl⟩
theorem F94 : Fun Try.prog 94 Try.f94 := ⟨Try.func94, by kernel_rfl, by kernel_rfl⟩
theorem F95 : Fun Try.prog 95 Try.f95 := ⟨Try.func95, by kernel_rfl, by kernel_rfl⟩
theorem F96 : Fun Try.prog 96 Try.f96 := ⟨Try.func96, by kernel_rfl, by kernel_rfl⟩
def str0 : ByteArray := ⟨#[0, 1, 2, 2, 3, 3, 3, 3, 4, 4, 4, 4, 4, 4, 4, 4, 5, 5, 5, 5, 5, 5, 5, 5, 5, 5, 5, 5, 5, 5, 5, 5, 6, 6, 6, 6, 6, 6, 6, 6, 6, 6, 6, 6, 6, 6, 6, 6, 6, 6, 6, 6, 6, 6, 6, 6, 6, 6, 6, 6, 6, 6, 6, 6, 7, 7, 7, 7, 7, 7, 7, 7, 7, 7, 7, 7, 7, 7, 7, 7, 7, 7, 7, 7, 7, 7, 7, 7, 7, 7, 7, 7, 7, 7, 7, 7, 7, 7, 7, 7, 7, 7, 7, 7, 7, 7, 7, 7, 7, 7, 7, 7, 7, 7, 7, 7, 7, 7, 7, 7, 7, 7, 7, 7, 7, 7, 7, 7, 8, 8, 8, 8, 8, 8, 8, 8, 8, 8, 8, 8, 8, 8, 8, 8, 8, 8, 8, 8, 8, 8, 8, 8, 8, 8, 8, 8, 8, 8, 8, 8, 8, 8, 8, 8, 8, 8, 8, 8, 8, 8, 8, 8, 8, 8, 8, 8, 8, 8, 8, 8, 8, 8, 8, 8, 8, 8, 8, 8, 8, 8, 8, 8, 8, 8, 8, 8, 8, 8, 8, 8, 8, 8, 8, 8, 8, 8, 8, 8, 8, 8, 8, 8, 8, 8, 8, 8, 8, 8, 8, 8, 8, 8, 8, 8, 8, 8, 8, 8, 8, 8, 8, 8, 8, 8, 8, 8, 8, 8, 8, 8, 8, 8, 8, 8, 8, 8, 8, 8, 8, 8, 8, 8, 8, 8, 8, 8]⟩
theorem Eq5 : EqT Try.prog 5 1 (cI .u8) := EqT.int Try.underlying5
theorem Eq30 : EqT Try.prog 30 2 ((cI .u8).arr 16) := EqT.arr Try.underlying30 Ty5 Eq5
theorem Eq3 : EqT Try.prog 3 1 (cI .i64) := EqT.int Try.underlying3
theorem Eq32 : EqT Try.prog 32 3 c_api_IP := EqT.struct (D := 2) Try.underlying32 (by kernel_rfl) rfl (fun d hd x y w => EqFs.congr (EqFs.cons rfl Ty3 (At_api_IP_V x) (At_api_IP_V y) Eq3 (by omega) (EqFs.cons rfl Ty30 (At_api_IP_A x) (At_api_IP_A y) Eq30 (by omega) EqFs.nil)) (by obtain ⟨⟩ := x; obtain ⟨⟩ := y; simp))
theorem Eq99 : EqT Try.prog 99 4 c_neigh_key := EqT.struct (D := 3) Try.underlying99 (by kernel_rfl) rfl (fun d hd x y w => EqFs.congr (EqFs.cons rfl Ty3 (At_neigh_key_port x) (At_neigh_key_port y) Eq3 (by omega) (EqFs.cons rfl Ty32 (At_neigh_key_ip x) (At_neigh_key_ip y) Eq32 (by omega) EqFs.nil)) (by obtain ⟨⟩ := x; obtain ⟨⟩ := y; simp))
theorem Ck3 : CkT Try.prog 3 1 (cI .i64) := CkT.int Try.underlying3
theorem Ck5 : CkT Try.prog 5 1 (cI .u8) := CkT.int Try.underlying5
theorem Ck30 : CkT Try.prog 30 2 ((cI .u8).arr 16) := CkT.arr Try.underlying30 Ty5 Ck5
theorem Ck32 : CkT Try.prog 32 3 c_api_IP := CkT.struct (D := 2) Try.underlying32 rfl (fun d hd b x w => (CkFs.cons rfl Ty3 (At_api_IP_V x) Ck3 (by omega) (CkFs.cons rfl Ty30 (At_api_IP_A x) Ck30 (by omega) CkFs.nil)))
theorem Ck99 : CkT Try.prog 99 4 c_neigh_key := CkT.struct (D := 3) Try.underlying99 rfl (fun d hd b x w => (CkFs.cons rfl Ty3 (At_neigh_key_port x) Ck3 (by omega) (CkFs.cons rfl Ty32 (At_neigh_key_ip x) Ck32 (by omega) CkFs.nil)))
theorem Kt101 : KeyT Try.prog 101 99 4 c_neigh_key cP none := ⟨rfl, Eq99, Ck99, (SbC.iso (SbC.pair SbC.int (SbC.iso (SbC.pair SbC.int (SbC.arr SbC.int))))), by decide, ⟨100, by kernel_rfl, Ty100⟩, ⟨_, Try.underlying99⟩⟩
theorem Eq34 : EqT Try.prog 34 2 ((cI .u8).arr 6) := EqT.arr Try.underlying34 Ty5 Eq5
theorem Eq111 : EqT Try.prog 111 4 c_api_Ask := EqT.struct (D := 3) Try.underlying111 (by kernel_rfl) rfl (fun d hd x y w => EqFs.congr (EqFs.cons rfl Ty3 (At_api_Ask_Port x) (At_api_Ask_Port y) Eq3 (by omega) (EqFs.cons rfl Ty32 (At_api_Ask_IP x) (At_api_Ask_IP y) Eq32 (by omega) (EqFs.cons rfl Ty34 (At_api_Ask_Mac x) (At_api_Ask_Mac y) Eq34 (by omega) (EqFs.cons rfl Ty3 (At_api_Ask_Try x) (At_api_Ask_Try y) Eq3 (by omega) EqFs.nil)))) (by obtain ⟨⟩ := x; obtain ⟨⟩ := y; simp))
theorem Eq77 : EqT Try.prog 77 4 c_api_Neighbour := EqT.struct (D := 3) Try.underlying77 (by kernel_rfl) rfl (fun d hd x y w => EqFs.congr (EqFs.cons rfl Ty3 (At_api_Neighbour_Port x) (At_api_Neighbour_Port y) Eq3 (by omega) (EqFs.cons rfl Ty32 (At_api_Neighbour_IP x) (At_api_Neighbour_IP y) Eq32 (by omega) (EqFs.cons rfl Ty34 (At_api_Neighbour_Mac x) (At_api_Neighbour_Mac y) Eq34 (by omega) (EqFs.cons rfl Ty3 (At_api_Neighbour_State x) (At_api_Neighbour_State y) Eq3 (by omega) (EqFs.cons rfl Ty3 (At_api_Neighbour_Age x) (At_api_Neighbour_Age y) Eq3 (by omega) (EqFs.cons rfl Ty3 (At_api_Neighbour_Tries x) (At_api_Neighbour_Tries y) Eq3 (by omega) (EqFs.cons rfl Ty3 (At_api_Neighbour_Waiting x) (At_api_Neighbour_Waiting y) Eq3 (by omega) EqFs.nil))))))) (by obtain ⟨⟩ := x; obtain ⟨⟩ := y; simp))
theorem mixed : Try.prog.follows .mixedOrders = true := by kernel_rfl
end Go.Proofs.Ytlkhijflgbobjaa.Lx
