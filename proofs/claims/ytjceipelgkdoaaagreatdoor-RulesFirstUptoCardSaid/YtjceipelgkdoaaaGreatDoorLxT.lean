/- The types of the translation that the programs use. -/
import Derived.Test.YtjceipelgkdoaaaGreatDoorProg
import Derived.Test.YtjceipelgkdoaaaGreatDoorLxNv
set_option linter.unusedVariables false
set_option linter.unusedSimpArgs false
set_option linter.unusedSectionVars false
namespace Go.Proofs.YtjceipelgkdoaaaGreatDoor.Lx
open Go Go.Proofs
structure Zbo where
 V : Int
 A : (Vec Int 16)
 deriving DecidableEq
def Zca : Zbo := ⟨0, (Vec.rep 16 0)⟩
instance : Inhabited Zbo := ⟨Zca⟩
def ZaX : Cod Zbo := ((cI .i64).pair ((cI .u8).arr 16)).iso (fun x => (x.V, x.A)) (fun p => ⟨p.1, p.2⟩) (fun _ => rfl) (fun _ => rfl)
theorem Zde (x : Zbo) : At (ZaX.enc x) 0 ((cI .i64).enc x.V) := At.fst
theorem ZhX (x : Zbo) (y : Int) : Upd (ZaX.enc x) 0 ((cI .i64).enc y) (ZaX.enc (⟨y, x.A⟩ : Zbo)) := Upd.fst
theorem Zdf (x : Zbo) : At (ZaX.enc x) 1 (((cI .u8).arr 16).enc x.A) := At.last
theorem ZhY (x : Zbo) (y : (Vec Int 16)) : Upd (ZaX.enc x) 1 (((cI .u8).arr 16).enc y) (ZaX.enc (⟨x.V, y⟩ : Zbo)) := Upd.last
structure Zab where
 IP : Zbo
 Len : Int
 deriving DecidableEq
def Zbq : Zab := ⟨Zca, 0⟩
instance : Inhabited Zab := ⟨Zbq⟩
def Zaw : Cod Zab := (ZaX.pair (cI .i64)).iso (fun x => (x.IP, x.Len)) (fun p => ⟨p.1, p.2⟩) (fun _ => rfl) (fun _ => rfl)
theorem ZbE (x : Zab) : At (Zaw.enc x) 0 (ZaX.enc x.IP) := At.fst
theorem ZeY (x : Zab) (y : Zbo) : Upd (Zaw.enc x) 0 (ZaX.enc y) (Zaw.enc (⟨y, x.Len⟩ : Zab)) := Upd.fst
theorem Zb2 (x : Zab) : At (Zaw.enc x) 17 ((cI .i64).enc x.Len) := At.last
theorem Zd3 (x : Zab) (y : Int) : Upd (Zaw.enc x) 17 ((cI .i64).enc y) (Zaw.enc (⟨x.IP, y⟩ : Zab)) := Upd.last
structure Zaj where
 Not : Bool
 Nets : Sl
 Ports : Sl
 deriving DecidableEq
def ZaT : Zaj := ⟨false, Sl.nil, Sl.nil⟩
instance : Inhabited Zaj := ⟨ZaT⟩
def ZaC : Cod Zaj := (cB.pair (cL.pair cL)).iso (fun x => (x.Not, x.Nets, x.Ports)) (fun p => ⟨p.1, p.2.1, p.2.2⟩) (fun _ => rfl) (fun _ => rfl)
theorem ZaI (x : Zaj) : At (ZaC.enc x) 0 (cB.enc x.Not) := At.fst
theorem Zkp (x : Zaj) (y : Bool) : Upd (ZaC.enc x) 0 (cB.enc y) (ZaC.enc (⟨y, x.Nets, x.Ports⟩ : Zaj)) := Upd.fst
theorem Zav (x : Zaj) : At (ZaC.enc x) 1 (cL.enc x.Nets) := At.snd (At.fst)
theorem Zec (x : Zaj) (y : Sl) : Upd (ZaC.enc x) 1 (cL.enc y) (ZaC.enc (⟨x.Not, y, x.Ports⟩ : Zaj)) := Upd.snd (Upd.fst)
theorem ZaU (x : Zaj) : At (ZaC.enc x) 2 (cL.enc x.Ports) := At.snd (At.last)
theorem Zd1 (x : Zaj) (y : Sl) : Upd (ZaC.enc x) 2 (cL.enc y) (ZaC.enc (⟨x.Not, x.Nets, y⟩ : Zaj)) := Upd.snd (Upd.last)
structure Zaz where
 Lo : Int
 Hi : Int
 deriving DecidableEq
def Zfc : Zaz := ⟨0, 0⟩
instance : Inhabited Zaz := ⟨Zfc⟩
def ZaV : Cod Zaz := ((cI .i64).pair (cI .i64)).iso (fun x => (x.Lo, x.Hi)) (fun p => ⟨p.1, p.2⟩) (fun _ => rfl) (fun _ => rfl)
theorem ZcX (x : Zaz) : At (ZaV.enc x) 0 ((cI .i64).enc x.Lo) := At.fst
theorem Zex (x : Zaz) (y : Int) : Upd (ZaV.enc x) 0 ((cI .i64).enc y) (ZaV.enc (⟨y, x.Hi⟩ : Zaz)) := Upd.fst
theorem Zdn (x : Zaz) : At (ZaV.enc x) 1 ((cI .i64).enc x.Hi) := At.last
theorem Zey (x : Zaz) (y : Int) : Upd (ZaV.enc x) 1 ((cI .i64).enc y) (ZaV.enc (⟨x.Lo, y⟩ : Zaz)) := Upd.last
structure Zal where
 Act : Int
 Class : Int
 Kind : Int
 Proto : Int
 In : Int
 Vid : Int
 From : Zaj
 To : Zaj
 Set : Int
 Clear : Int
 Type_ : Int
 Pieces : Bool
 deriving DecidableEq
def ZaD : Zal := ⟨0, 0, 0, 0, 0, 0, ZaT, ZaT, 0, 0, 0, false⟩
instance : Inhabited Zal := ⟨ZaD⟩
def Zak : Cod Zal := ((cI .i64).pair ((cI .i64).pair ((cI .i64).pair ((cI .i64).pair ((cI .i64).pair ((cI .i64).pair (ZaC.pair (ZaC.pair ((cI .i64).pair ((cI .i64).pair ((cI .i64).pair cB))))))))))).iso (fun x => (x.Act, x.Class, x.Kind, x.Proto, x.In, x.Vid, x.From, x.To, x.Set, x.Clear, x.Type_, x.Pieces)) (fun p => ⟨p.1, p.2.1, p.2.2.1, p.2.2.2.1, p.2.2.2.2.1, p.2.2.2.2.2.1, p.2.2.2.2.2.2.1, p.2.2.2.2.2.2.2.1, p.2.2.2.2.2.2.2.2.1, p.2.2.2.2.2.2.2.2.2.1, p.2.2.2.2.2.2.2.2.2.2.1, p.2.2.2.2.2.2.2.2.2.2.2⟩) (fun _ => rfl) (fun _ => rfl)
theorem Zb9 (x : Zal) : At (Zak.enc x) 0 ((cI .i64).enc x.Act) := At.fst
theorem ZdW (x : Zal) (y : Int) : Upd (Zak.enc x) 0 ((cI .i64).enc y) (Zak.enc (⟨y, x.Class, x.Kind, x.Proto, x.In, x.Vid, x.From, x.To, x.Set, x.Clear, x.Type_, x.Pieces⟩ : Zal)) := Upd.fst
theorem ZcQ (x : Zal) : At (Zak.enc x) 1 ((cI .i64).enc x.Class) := At.snd (At.fst)
theorem ZfZ (x : Zal) (y : Int) : Upd (Zak.enc x) 1 ((cI .i64).enc y) (Zak.enc (⟨x.Act, y, x.Kind, x.Proto, x.In, x.Vid, x.From, x.To, x.Set, x.Clear, x.Type_, x.Pieces⟩ : Zal)) := Upd.snd (Upd.fst)
theorem ZbV (x : Zal) : At (Zak.enc x) 2 ((cI .i64).enc x.Kind) := At.snd (At.snd (At.fst))
theorem Zgr (x : Zal) (y : Int) : Upd (Zak.enc x) 2 ((cI .i64).enc y) (Zak.enc (⟨x.Act, x.Class, y, x.Proto, x.In, x.Vid, x.From, x.To, x.Set, x.Clear, x.Type_, x.Pieces⟩ : Zal)) := Upd.snd (Upd.snd (Upd.fst))
theorem Zbv (x : Zal) : At (Zak.enc x) 3 ((cI .i64).enc x.Proto) := At.snd (At.snd (At.snd (At.fst)))
theorem Zd2 (x : Zal) (y : Int) : Upd (Zak.enc x) 3 ((cI .i64).enc y) (Zak.enc (⟨x.Act, x.Class, x.Kind, y, x.In, x.Vid, x.From, x.To, x.Set, x.Clear, x.Type_, x.Pieces⟩ : Zal)) := Upd.snd (Upd.snd (Upd.snd (Upd.fst)))
theorem ZdJ (x : Zal) : At (Zak.enc x) 4 ((cI .i64).enc x.In) := At.snd (At.snd (At.snd (At.snd (At.fst))))
theorem Zhv (x : Zal) (y : Int) : Upd (Zak.enc x) 4 ((cI .i64).enc y) (Zak.enc (⟨x.Act, x.Class, x.Kind, x.Proto, y, x.Vid, x.From, x.To, x.Set, x.Clear, x.Type_, x.Pieces⟩ : Zal)) := Upd.snd (Upd.snd (Upd.snd (Upd.snd (Upd.fst))))
theorem Zdm (x : Zal) : At (Zak.enc x) 5 ((cI .i64).enc x.Vid) := At.snd (At.snd (At.snd (At.snd (At.snd (At.fst)))))
theorem Zg1 (x : Zal) (y : Int) : Upd (Zak.enc x) 5 ((cI .i64).enc y) (Zak.enc (⟨x.Act, x.Class, x.Kind, x.Proto, x.In, y, x.From, x.To, x.Set, x.Clear, x.Type_, x.Pieces⟩ : Zal)) := Upd.snd (Upd.snd (Upd.snd (Upd.snd (Upd.snd (Upd.fst)))))
theorem ZbJ (x : Zal) : At (Zak.enc x) 6 (ZaC.enc x.From) := At.snd (At.snd (At.snd (At.snd (At.snd (At.snd (At.fst))))))
theorem ZdH (x : Zal) (y : Zaj) : Upd (Zak.enc x) 6 (ZaC.enc y) (Zak.enc (⟨x.Act, x.Class, x.Kind, x.Proto, x.In, x.Vid, y, x.To, x.Set, x.Clear, x.Type_, x.Pieces⟩ : Zal)) := Upd.snd (Upd.snd (Upd.snd (Upd.snd (Upd.snd (Upd.snd (Upd.fst))))))
theorem ZbM (x : Zal) : At (Zak.enc x) 9 (ZaC.enc x.To) := At.snd (At.snd (At.snd (At.snd (At.snd (At.snd (At.snd (At.fst)))))))
theorem Zea (x : Zal) (y : Zaj) : Upd (Zak.enc x) 9 (ZaC.enc y) (Zak.enc (⟨x.Act, x.Class, x.Kind, x.Proto, x.In, x.Vid, x.From, y, x.Set, x.Clear, x.Type_, x.Pieces⟩ : Zal)) := Upd.snd (Upd.snd (Upd.snd (Upd.snd (Upd.snd (Upd.snd (Upd.snd (Upd.fst)))))))
theorem Zb8 (x : Zal) : At (Zak.enc x) 12 ((cI .i64).enc x.Set) := At.snd (At.snd (At.snd (At.snd (At.snd (At.snd (At.snd (At.snd (At.fst))))))))
theorem Zkq (x : Zal) (y : Int) : Upd (Zak.enc x) 12 ((cI .i64).enc y) (Zak.enc (⟨x.Act, x.Class, x.Kind, x.Proto, x.In, x.Vid, x.From, x.To, y, x.Clear, x.Type_, x.Pieces⟩ : Zal)) := Upd.snd (Upd.snd (Upd.snd (Upd.snd (Upd.snd (Upd.snd (Upd.snd (Upd.snd (Upd.fst))))))))
theorem ZbN (x : Zal) : At (Zak.enc x) 13 ((cI .i64).enc x.Clear) := At.snd (At.snd (At.snd (At.snd (At.snd (At.snd (At.snd (At.snd (At.snd (At.fst)))))))))
theorem ZiO (x : Zal) (y : Int) : Upd (Zak.enc x) 13 ((cI .i64).enc y) (Zak.enc (⟨x.Act, x.Class, x.Kind, x.Proto, x.In, x.Vid, x.From, x.To, x.Set, y, x.Type_, x.Pieces⟩ : Zal)) := Upd.snd (Upd.snd (Upd.snd (Upd.snd (Upd.snd (Upd.snd (Upd.snd (Upd.snd (Upd.snd (Upd.fst)))))))))
theorem Zcs (x : Zal) : At (Zak.enc x) 14 ((cI .i64).enc x.Type_) := At.snd (At.snd (At.snd (At.snd (At.snd (At.snd (At.snd (At.snd (At.snd (At.snd (At.fst))))))))))
theorem ZfY (x : Zal) (y : Int) : Upd (Zak.enc x) 14 ((cI .i64).enc y) (Zak.enc (⟨x.Act, x.Class, x.Kind, x.Proto, x.In, x.Vid, x.From, x.To, x.Set, x.Clear, y, x.Pieces⟩ : Zal)) := Upd.snd (Upd.snd (Upd.snd (Upd.snd (Upd.snd (Upd.snd (Upd.snd (Upd.snd (Upd.snd (Upd.snd (Upd.fst))))))))))
theorem ZdR (x : Zal) : At (Zak.enc x) 15 (cB.enc x.Pieces) := At.snd (At.snd (At.snd (At.snd (At.snd (At.snd (At.snd (At.snd (At.snd (At.snd (At.last))))))))))
theorem Zir (x : Zal) (y : Bool) : Upd (Zak.enc x) 15 (cB.enc y) (Zak.enc (⟨x.Act, x.Class, x.Kind, x.Proto, x.In, x.Vid, x.From, x.To, x.Set, x.Clear, x.Type_, y⟩ : Zal)) := Upd.snd (Upd.snd (Upd.snd (Upd.snd (Upd.snd (Upd.snd (Upd.snd (Upd.snd (Upd.snd (Upd.snd (Upd.last))))))))))
structure ZhS where
 Op : Int
 SMac : (Vec Int 6)
 SIP : Zbo
 TMac : (Vec Int 6)
 TIP : Zbo
 deriving DecidableEq
def Zl0 : ZhS := ⟨0, (Vec.rep 6 0), Zca, (Vec.rep 6 0), Zca⟩
instance : Inhabited ZhS := ⟨Zl0⟩
def ZgU : Cod ZhS := ((cI .i64).pair (((cI .u8).arr 6).pair (ZaX.pair (((cI .u8).arr 6).pair ZaX)))).iso (fun x => (x.Op, x.SMac, x.SIP, x.TMac, x.TIP)) (fun p => ⟨p.1, p.2.1, p.2.2.1, p.2.2.2.1, p.2.2.2.2⟩) (fun _ => rfl) (fun _ => rfl)
theorem ZkN (x : ZhS) : At (ZgU.enc x) 7 (ZaX.enc x.SIP) := At.snd (At.snd (At.fst))
theorem Zhz (x : ZhS) : At (ZgU.enc x) 30 (ZaX.enc x.TIP) := At.snd (At.snd (At.snd (At.last)))
structure ZfI where
 Tos : Int
 ID : Int
 DF : Bool
 MF : Bool
 Off : Int
 TTL : Int
 Proto : Int
 Src : Zbo
 Dst : Zbo
 Opts : Sl
 Data : Sl
 deriving DecidableEq
def ZlZ : ZfI := ⟨0, 0, false, false, 0, 0, 0, Zca, Zca, Sl.nil, Sl.nil⟩
instance : Inhabited ZfI := ⟨ZlZ⟩
def ZeR : Cod ZfI := ((cI .i64).pair ((cI .i64).pair (cB.pair (cB.pair ((cI .i64).pair ((cI .i64).pair ((cI .i64).pair (ZaX.pair (ZaX.pair (cL.pair cL)))))))))).iso (fun x => (x.Tos, x.ID, x.DF, x.MF, x.Off, x.TTL, x.Proto, x.Src, x.Dst, x.Opts, x.Data)) (fun p => ⟨p.1, p.2.1, p.2.2.1, p.2.2.2.1, p.2.2.2.2.1, p.2.2.2.2.2.1, p.2.2.2.2.2.2.1, p.2.2.2.2.2.2.2.1, p.2.2.2.2.2.2.2.2.1, p.2.2.2.2.2.2.2.2.2.1, p.2.2.2.2.2.2.2.2.2.2⟩) (fun _ => rfl) (fun _ => rfl)
theorem ZlV (x : ZfI) : At (ZeR.enc x) 3 (cB.enc x.MF) := At.snd (At.snd (At.snd (At.fst)))
theorem ZkM (x : ZfI) : At (ZeR.enc x) 4 ((cI .i64).enc x.Off) := At.snd (At.snd (At.snd (At.snd (At.fst))))
theorem Zju (x : ZfI) : At (ZeR.enc x) 6 ((cI .i64).enc x.Proto) := At.snd (At.snd (At.snd (At.snd (At.snd (At.snd (At.fst))))))
theorem ZkL (x : ZfI) : At (ZeR.enc x) 7 (ZaX.enc x.Src) := At.snd (At.snd (At.snd (At.snd (At.snd (At.snd (At.snd (At.fst)))))))
theorem Zhy (x : ZfI) : At (ZeR.enc x) 24 (ZaX.enc x.Dst) := At.snd (At.snd (At.snd (At.snd (At.snd (At.snd (At.snd (At.snd (At.fst))))))))
structure Zhe where
 Has : Bool
 More : Bool
 ID : Int
 Off : Int
 deriving DecidableEq
def ZkQ : Zhe := ⟨false, false, 0, 0⟩
instance : Inhabited Zhe := ⟨ZkQ⟩
def Zhc : Cod Zhe := (cB.pair (cB.pair ((cI .i64).pair (cI .i64)))).iso (fun x => (x.Has, x.More, x.ID, x.Off)) (fun p => ⟨p.1, p.2.1, p.2.2.1, p.2.2.2⟩) (fun _ => rfl) (fun _ => rfl)
theorem Zkx (x : Zhe) : At (Zhc.enc x) 0 (cB.enc x.Has) := At.fst
structure Zge where
 Class : Int
 Flow : Int
 Hop : Int
 Src : Zbo
 Dst : Zbo
 Exts : Sl
 Frag : Zhe
 Next : Int
 Data : Sl
 deriving DecidableEq
def ZlY : Zge := ⟨0, 0, 0, Zca, Zca, Sl.nil, ZkQ, 0, Sl.nil⟩
instance : Inhabited Zge := ⟨ZlY⟩
def Zfj : Cod Zge := ((cI .i64).pair ((cI .i64).pair ((cI .i64).pair (ZaX.pair (ZaX.pair (cL.pair (Zhc.pair ((cI .i64).pair cL)))))))).iso (fun x => (x.Class, x.Flow, x.Hop, x.Src, x.Dst, x.Exts, x.Frag, x.Next, x.Data)) (fun p => ⟨p.1, p.2.1, p.2.2.1, p.2.2.2.1, p.2.2.2.2.1, p.2.2.2.2.2.1, p.2.2.2.2.2.2.1, p.2.2.2.2.2.2.2.1, p.2.2.2.2.2.2.2.2⟩) (fun _ => rfl) (fun _ => rfl)
theorem ZkK (x : Zge) : At (Zfj.enc x) 3 (ZaX.enc x.Src) := At.snd (At.snd (At.snd (At.fst)))
theorem Zhx (x : Zge) : At (Zfj.enc x) 20 (ZaX.enc x.Dst) := At.snd (At.snd (At.snd (At.snd (At.fst))))
theorem Zkw (x : Zge) : At (Zfj.enc x) 38 (Zhc.enc x.Frag) := At.snd (At.snd (At.snd (At.snd (At.snd (At.snd (At.fst))))))
theorem Zkv (x : Zge) : At (Zfj.enc x) 42 ((cI .i64).enc x.Next) := At.snd (At.snd (At.snd (At.snd (At.snd (At.snd (At.snd (At.fst)))))))
structure Zhd where
 V : Int
 Type_ : Int
 Code : Int
 Rest : Int
 Data : Sl
 deriving DecidableEq
def ZkP : Zhd := ⟨0, 0, 0, 0, Sl.nil⟩
instance : Inhabited Zhd := ⟨ZkP⟩
def Zhb : Cod Zhd := ((cI .i64).pair ((cI .i64).pair ((cI .i64).pair ((cI .i64).pair cL)))).iso (fun x => (x.V, x.Type_, x.Code, x.Rest, x.Data)) (fun p => ⟨p.1, p.2.1, p.2.2.1, p.2.2.2.1, p.2.2.2.2⟩) (fun _ => rfl) (fun _ => rfl)
theorem ZiQ (x : Zhd) : At (Zhb.enc x) 1 ((cI .i64).enc x.Type_) := At.snd (At.fst)
structure ZhQ where
 Sport : Int
 Dport : Int
 NoSum : Bool
 Data : Sl
 deriving DecidableEq
def ZlW : ZhQ := ⟨0, 0, false, Sl.nil⟩
instance : Inhabited ZhQ := ⟨ZlW⟩
def ZgS : Cod ZhQ := ((cI .i64).pair ((cI .i64).pair (cB.pair cL))).iso (fun x => (x.Sport, x.Dport, x.NoSum, x.Data)) (fun p => ⟨p.1, p.2.1, p.2.2.1, p.2.2.2⟩) (fun _ => rfl) (fun _ => rfl)
theorem Zjq (x : ZhQ) : At (ZgS.enc x) 0 ((cI .i64).enc x.Sport) := At.fst
theorem Zjr (x : ZhQ) : At (ZgS.enc x) 1 ((cI .i64).enc x.Dport) := At.snd (At.fst)
structure ZgV where
 Sport : Int
 Dport : Int
 Seq : Int
 Ack : Int
 Flags : Int
 Win : Int
 Urg : Int
 Opts : Sl
 Data : Sl
 deriving DecidableEq
def ZlX : ZgV := ⟨0, 0, 0, 0, 0, 0, 0, Sl.nil, Sl.nil⟩
instance : Inhabited ZgV := ⟨ZlX⟩
def ZfV : Cod ZgV := ((cI .i64).pair ((cI .i64).pair ((cI .i64).pair ((cI .i64).pair ((cI .i64).pair ((cI .i64).pair ((cI .i64).pair (cL.pair cL)))))))).iso (fun x => (x.Sport, x.Dport, x.Seq, x.Ack, x.Flags, x.Win, x.Urg, x.Opts, x.Data)) (fun p => ⟨p.1, p.2.1, p.2.2.1, p.2.2.2.1, p.2.2.2.2.1, p.2.2.2.2.2.1, p.2.2.2.2.2.2.1, p.2.2.2.2.2.2.2.1, p.2.2.2.2.2.2.2.2⟩) (fun _ => rfl) (fun _ => rfl)
theorem Zjs (x : ZgV) : At (ZfV.enc x) 0 ((cI .i64).enc x.Sport) := At.fst
theorem Zjt (x : ZgV) : At (ZfV.enc x) 1 ((cI .i64).enc x.Dport) := At.snd (At.fst)
theorem Zgt (x : ZgV) : At (ZfV.enc x) 4 ((cI .i64).enc x.Flags) := At.snd (At.snd (At.snd (At.snd (At.fst))))
structure Zau where
 Dst : (Vec Int 6)
 Src : (Vec Int 6)
 Tags : Sl
 Kind : Int
 Arp : ZhS
 Ip4 : ZfI
 Ip6 : Zge
 L4 : Int
 Icmp : Zhd
 Udp : ZhQ
 Tcp : ZgV
 deriving DecidableEq
def Zgz : Zau := ⟨(Vec.rep 6 0), (Vec.rep 6 0), Sl.nil, 0, Zl0, ZlZ, ZlY, 0, ZkP, ZlW, ZlX⟩
instance : Inhabited Zau := ⟨Zgz⟩
def ZaB : Cod Zau := (((cI .u8).arr 6).pair (((cI .u8).arr 6).pair (cL.pair ((cI .i64).pair (ZgU.pair (ZeR.pair (Zfj.pair ((cI .i64).pair (Zhb.pair (ZgS.pair ZfV)))))))))).iso (fun x => (x.Dst, x.Src, x.Tags, x.Kind, x.Arp, x.Ip4, x.Ip6, x.L4, x.Icmp, x.Udp, x.Tcp)) (fun p => ⟨p.1, p.2.1, p.2.2.1, p.2.2.2.1, p.2.2.2.2.1, p.2.2.2.2.2.1, p.2.2.2.2.2.2.1, p.2.2.2.2.2.2.2.1, p.2.2.2.2.2.2.2.2.1, p.2.2.2.2.2.2.2.2.2.1, p.2.2.2.2.2.2.2.2.2.2⟩) (fun _ => rfl) (fun _ => rfl)
theorem ZfC (x : Zau) : At (ZaB.enc x) 12 (cL.enc x.Tags) := At.snd (At.snd (At.fst))
theorem ZcA (x : Zau) : At (ZaB.enc x) 13 ((cI .i64).enc x.Kind) := At.snd (At.snd (At.snd (At.fst)))
theorem ZeG (x : Zau) : At (ZaB.enc x) 14 (ZgU.enc x.Arp) := At.snd (At.snd (At.snd (At.snd (At.fst))))
theorem ZcR (x : Zau) : At (ZaB.enc x) 61 (ZeR.enc x.Ip4) := At.snd (At.snd (At.snd (At.snd (At.snd (At.fst)))))
theorem Zdo (x : Zau) : At (ZaB.enc x) 104 (Zfj.enc x.Ip6) := At.snd (At.snd (At.snd (At.snd (At.snd (At.snd (At.fst))))))
theorem ZeZ (x : Zau) : At (ZaB.enc x) 148 ((cI .i64).enc x.L4) := At.snd (At.snd (At.snd (At.snd (At.snd (At.snd (At.snd (At.fst)))))))
theorem Zit (x : Zau) : At (ZaB.enc x) 149 (Zhb.enc x.Icmp) := At.snd (At.snd (At.snd (At.snd (At.snd (At.snd (At.snd (At.snd (At.fst))))))))
theorem Zf0 (x : Zau) : At (ZaB.enc x) 154 (ZgS.enc x.Udp) := At.snd (At.snd (At.snd (At.snd (At.snd (At.snd (At.snd (At.snd (At.snd (At.fst)))))))))
theorem Zd4 (x : Zau) : At (ZaB.enc x) 158 (ZfV.enc x.Tcp) := At.snd (At.snd (At.snd (At.snd (At.snd (At.snd (At.snd (At.snd (At.snd (At.last)))))))))
structure Zbz where
 set : Int
 clear : Int
 deriving DecidableEq
def Zgj : Zbz := ⟨0, 0⟩
instance : Inhabited Zbz := ⟨Zgj⟩
def Zbf : Cod Zbz := ((cI .i64).pair (cI .i64)).iso (fun x => (x.set, x.clear)) (fun p => ⟨p.1, p.2⟩) (fun _ => rfl) (fun _ => rfl)
theorem ZeT (x : Zbz) : At (Zbf.enc x) 0 ((cI .i64).enc x.set) := At.fst
theorem Zg0 (x : Zbz) (y : Int) : Upd (Zbf.enc x) 0 ((cI .i64).enc y) (Zbf.enc (⟨y, x.clear⟩ : Zbz)) := Upd.fst
theorem Zgi (x : Zbz) : At (Zbf.enc x) 1 ((cI .i64).enc x.clear) := At.last
theorem Zgg (x : Zbz) (y : Int) : Upd (Zbf.enc x) 1 ((cI .i64).enc y) (Zbf.enc (⟨x.set, y⟩ : Zbz)) := Upd.last
structure Zdk where
 deriving DecidableEq
def ZcO : Zdk := ⟨⟩
instance : Inhabited Zdk := ⟨ZcO⟩
def ZbL : Cod Zdk := Cod.unit.iso (fun _ => ()) (fun _ => ⟨⟩) (fun _ => rfl) (fun _ => rfl)
structure Zes where
 rules : Sl
 tests : Sl
 deriving DecidableEq
def ZhA : Zes := ⟨Sl.nil, Sl.nil⟩
instance : Inhabited Zes := ⟨ZhA⟩
def ZcF : Cod Zes := (cL.pair cL).iso (fun x => (x.rules, x.tests)) (fun p => ⟨p.1, p.2⟩) (fun _ => rfl) (fun _ => rfl)
theorem ZdQ (x : Zes) : At (ZcF.enc x) 0 (cL.enc x.rules) := At.fst
theorem Ziq (x : Zes) (y : Sl) : Upd (ZcF.enc x) 0 (cL.enc y) (ZcF.enc (⟨y, x.tests⟩ : Zes)) := Upd.fst
theorem ZdP (x : Zes) : At (ZcF.enc x) 1 (cL.enc x.tests) := At.last
theorem Zip (x : Zes) (y : Sl) : Upd (ZcF.enc x) 1 (cL.enc y) (ZcF.enc (⟨x.rules, y⟩ : Zes)) := Upd.last
structure ZaO where
 Act : Int
 Class : Int
 Rule : Int
 deriving DecidableEq
def ZcJ : ZaO := ⟨0, 0, 0⟩
instance : Inhabited ZaO := ⟨ZcJ⟩
def Zbh : Cod ZaO := ((cI .i64).pair ((cI .i64).pair (cI .i64))).iso (fun x => (x.Act, x.Class, x.Rule)) (fun p => ⟨p.1, p.2.1, p.2.2⟩) (fun _ => rfl) (fun _ => rfl)
theorem ZfB (x : ZaO) : At (Zbh.enc x) 0 ((cI .i64).enc x.Act) := At.fst
theorem ZdO (x : ZaO) (y : Int) : Upd (Zbh.enc x) 0 ((cI .i64).enc y) (Zbh.enc (⟨y, x.Class, x.Rule⟩ : ZaO)) := Upd.fst
theorem Ze5 (x : ZaO) : At (Zbh.enc x) 1 ((cI .i64).enc x.Class) := At.snd (At.fst)
theorem Zho (x : ZaO) (y : Int) : Upd (Zbh.enc x) 1 ((cI .i64).enc y) (Zbh.enc (⟨x.Act, y, x.Rule⟩ : ZaO)) := Upd.snd (Upd.fst)
theorem Zcr (x : ZaO) : At (Zbh.enc x) 2 ((cI .i64).enc x.Rule) := At.snd (At.last)
theorem ZcW (x : ZaO) (y : Int) : Upd (Zbh.enc x) 2 ((cI .i64).enc y) (Zbh.enc (⟨x.Act, x.Class, y⟩ : ZaO)) := Upd.snd (Upd.last)
structure Zay where
 s : ByteArray
 at_ : Int
 deriving DecidableEq
def Zcu : Zay := ⟨ByteArray.empty, 0⟩
instance : Inhabited Zay := ⟨Zcu⟩
def Zbc : Cod Zay := (cS.pair (cI .i64)).iso (fun x => (x.s, x.at_)) (fun p => ⟨p.1, p.2⟩) (fun _ => rfl) (fun _ => rfl)
theorem Zbb (x : Zay) : At (Zbc.enc x) 0 (cS.enc x.s) := At.fst
theorem ZgZ (x : Zay) (y : ByteArray) : Upd (Zbc.enc x) 0 (cS.enc y) (Zbc.enc (⟨y, x.at_⟩ : Zay)) := Upd.fst
theorem Zbt (x : Zay) : At (Zbc.enc x) 1 ((cI .i64).enc x.at_) := At.last
theorem ZfX (x : Zay) (y : Int) : Upd (Zbc.enc x) 1 ((cI .i64).enc y) (Zbc.enc (⟨x.s, y⟩ : Zay)) := Upd.last
structure ZbB where
 why : Int
 at_ : Int
 deriving DecidableEq
def ZiR : ZbB := ⟨0, 0⟩
instance : Inhabited ZbB := ⟨ZiR⟩
def Zbg : Cod ZbB := ((cI .i64).pair (cI .i64)).iso (fun x => (x.why, x.at_)) (fun p => ⟨p.1, p.2⟩) (fun _ => rfl) (fun _ => rfl)
theorem Zd5 (x : ZbB) : At (Zbg.enc x) 0 ((cI .i64).enc x.why) := At.fst
theorem Zbi (x : ZbB) (y : Int) : Upd (Zbg.enc x) 0 ((cI .i64).enc y) (Zbg.enc (⟨y, x.at_⟩ : ZbB)) := Upd.fst
theorem Zd6 (x : ZbB) : At (Zbg.enc x) 1 ((cI .i64).enc x.at_) := At.last
theorem Zbj (x : ZbB) (y : Int) : Upd (Zbg.enc x) 1 ((cI .i64).enc y) (Zbg.enc (⟨x.why, y⟩ : ZbB)) := Upd.last
structure Zdh where
 s : ByteArray
 at_ : Int
 groups : Sl
 gap : Int
 deriving DecidableEq
def Zg3 : Zdh := ⟨ByteArray.empty, 0, Sl.nil, 0⟩
instance : Inhabited Zdh := ⟨Zg3⟩
def Zcq : Cod Zdh := (cS.pair ((cI .i64).pair (cL.pair (cI .i64)))).iso (fun x => (x.s, x.at_, x.groups, x.gap)) (fun p => ⟨p.1, p.2.1, p.2.2.1, p.2.2.2⟩) (fun _ => rfl) (fun _ => rfl)
theorem Zcb (x : Zdh) : At (Zcq.enc x) 0 (cS.enc x.s) := At.fst
theorem ZlP (x : Zdh) (y : ByteArray) : Upd (Zcq.enc x) 0 (cS.enc y) (Zcq.enc (⟨y, x.at_, x.groups, x.gap⟩ : Zdh)) := Upd.fst
theorem Zcl (x : Zdh) : At (Zcq.enc x) 1 ((cI .i64).enc x.at_) := At.snd (At.fst)
theorem Zfm (x : Zdh) (y : Int) : Upd (Zcq.enc x) 1 ((cI .i64).enc y) (Zcq.enc (⟨x.s, y, x.groups, x.gap⟩ : Zdh)) := Upd.snd (Upd.fst)
theorem Zbl (x : Zdh) : At (Zcq.enc x) 2 (cL.enc x.groups) := At.snd (At.snd (At.fst))
theorem Zez (x : Zdh) (y : Sl) : Upd (Zcq.enc x) 2 (cL.enc y) (Zcq.enc (⟨x.s, x.at_, y, x.gap⟩ : Zdh)) := Upd.snd (Upd.snd (Upd.fst))
theorem ZcY (x : Zdh) : At (Zcq.enc x) 3 ((cI .i64).enc x.gap) := At.snd (At.snd (At.last))
theorem Zg2 (x : Zdh) (y : Int) : Upd (Zcq.enc x) 3 ((cI .i64).enc y) (Zcq.enc (⟨x.s, x.at_, x.groups, y⟩ : Zdh)) := Upd.snd (Upd.snd (Upd.last))
structure Zba where
 l : Sl
 i : Int
 end_ : Int
 rule : Zal
 err : Int
 at_ : Int
 deriving DecidableEq
def ZdI : Zba := ⟨Sl.nil, 0, 0, ZaD, 0, 0⟩
instance : Inhabited Zba := ⟨ZdI⟩
def Za7 : Cod Zba := (cL.pair ((cI .i64).pair ((cI .i64).pair (Zak.pair ((cI .i64).pair (cI .i64)))))).iso (fun x => (x.l, x.i, x.end_, x.rule, x.err, x.at_)) (fun p => ⟨p.1, p.2.1, p.2.2.1, p.2.2.2.1, p.2.2.2.2.1, p.2.2.2.2.2⟩) (fun _ => rfl) (fun _ => rfl)
theorem Zb1 (x : Zba) : At (Za7.enc x) 0 (cL.enc x.l) := At.fst
theorem ZiN (x : Zba) (y : Sl) : Upd (Za7.enc x) 0 (cL.enc y) (Za7.enc (⟨y, x.i, x.end_, x.rule, x.err, x.at_⟩ : Zba)) := Upd.fst
theorem Zbk (x : Zba) : At (Za7.enc x) 1 ((cI .i64).enc x.i) := At.snd (At.fst)
theorem ZeF (x : Zba) (y : Int) : Upd (Za7.enc x) 1 ((cI .i64).enc y) (Za7.enc (⟨x.l, y, x.end_, x.rule, x.err, x.at_⟩ : Zba)) := Upd.snd (Upd.fst)
theorem Zhp (x : Zba) : At (Za7.enc x) 2 ((cI .i64).enc x.end_) := At.snd (At.snd (At.fst))
theorem Zhn (x : Zba) (y : Int) : Upd (Za7.enc x) 2 ((cI .i64).enc y) (Za7.enc (⟨x.l, x.i, y, x.rule, x.err, x.at_⟩ : Zba)) := Upd.snd (Upd.snd (Upd.fst))
theorem ZbD (x : Zba) : At (Za7.enc x) 3 (Zak.enc x.rule) := At.snd (At.snd (At.snd (At.fst)))
theorem Zdi (x : Zba) (y : Zal) : Upd (Za7.enc x) 3 (Zak.enc y) (Za7.enc (⟨x.l, x.i, x.end_, y, x.err, x.at_⟩ : Zba)) := Upd.snd (Upd.snd (Upd.snd (Upd.fst)))
theorem ZdD (x : Zba) : At (Za7.enc x) 19 ((cI .i64).enc x.err) := At.snd (At.snd (At.snd (At.snd (At.fst))))
theorem ZhV (x : Zba) (y : Int) : Upd (Za7.enc x) 19 ((cI .i64).enc y) (Za7.enc (⟨x.l, x.i, x.end_, x.rule, y, x.at_⟩ : Zba)) := Upd.snd (Upd.snd (Upd.snd (Upd.snd (Upd.fst))))
theorem Zfn (x : Zba) : At (Za7.enc x) 20 ((cI .i64).enc x.at_) := At.snd (At.snd (At.snd (At.snd (At.last))))
theorem ZhW (x : Zba) (y : Int) : Upd (Za7.enc x) 20 ((cI .i64).enc y) (Za7.enc (⟨x.l, x.i, x.end_, x.rule, x.err, y⟩ : Zba)) := Upd.snd (Upd.snd (Upd.snd (Upd.snd (Upd.last))))
structure Zci where
 addr : (Option Addr)
 buf : Sl
 deriving DecidableEq
def ZdY : Zci := ⟨none, Sl.nil⟩
instance : Inhabited Zci := ⟨ZdY⟩
def Zb0 : Cod Zci := (cP.pair cL).iso (fun x => (x.addr, x.buf)) (fun p => ⟨p.1, p.2⟩) (fun _ => rfl) (fun _ => rfl)
theorem ZeA (x : Zci) : At (Zb0.enc x) 0 (cP.enc x.addr) := At.fst
theorem Zgf (x : Zci) (y : (Option Addr)) : Upd (Zb0.enc x) 0 (cP.enc y) (Zb0.enc (⟨y, x.buf⟩ : Zci)) := Upd.fst
theorem Zbm (x : Zci) : At (Zb0.enc x) 1 (cL.enc x.buf) := At.last
theorem ZeB (x : Zci) (y : Sl) : Upd (Zb0.enc x) 1 (cL.enc y) (Zb0.enc (⟨x.addr, y⟩ : Zci)) := Upd.last
theorem Ty3 : Ty Tryz.prog 3 (cI .i64) 0 := ⟨by kernel_rfl, by kernel_rfl⟩
theorem Ty4 : Ty Tryz.prog 4 cB false := ⟨by kernel_rfl, by kernel_rfl⟩
theorem Ty5 : Ty Tryz.prog 5 (cI .u8) 0 := ⟨by kernel_rfl, by kernel_rfl⟩
theorem Ty9 : Ty Tryz.prog 9 cS ByteArray.empty := ⟨by kernel_rfl, by kernel_rfl⟩
theorem Ty22 : Ty Tryz.prog 22 cL Sl.nil := ⟨by kernel_rfl, by kernel_rfl⟩
theorem Ty25 : Ty Tryz.prog 25 cL Sl.nil := ⟨by kernel_rfl, by kernel_rfl⟩
theorem Ty26 : Ty Tryz.prog 26 ((cI .u8).arr 16) (Vec.rep 16 0) := ⟨by kernel_rfl, by kernel_rfl⟩
theorem Ty28 : Ty Tryz.prog 28 ZaX Zca := ⟨by kernel_rfl, by kernel_rfl⟩
theorem Ty32 : Ty Tryz.prog 32 cL Sl.nil := ⟨by kernel_rfl, by kernel_rfl⟩
theorem Ty47 : Ty Tryz.prog 47 ZaB Zgz := ⟨by kernel_rfl, by kernel_rfl⟩
theorem Ty49 : Ty Tryz.prog 49 (cI .i64) 0 := ⟨by kernel_rfl, by kernel_rfl⟩
theorem Ty54 : Ty Tryz.prog 54 Zbh ZcJ := ⟨by kernel_rfl, by kernel_rfl⟩
theorem Ty58 : Ty Tryz.prog 58 cL Sl.nil := ⟨by kernel_rfl, by kernel_rfl⟩
theorem Ty59 : Ty Tryz.prog 59 cL Sl.nil := ⟨by kernel_rfl, by kernel_rfl⟩
theorem Ty61 : Ty Tryz.prog 61 ZaC ZaT := ⟨by kernel_rfl, by kernel_rfl⟩
theorem Ty63 : Ty Tryz.prog 63 Zak ZaD := ⟨by kernel_rfl, by kernel_rfl⟩
theorem Ty66 : Ty Tryz.prog 66 cL Sl.nil := ⟨by kernel_rfl, by kernel_rfl⟩
theorem Ty68 : Ty Tryz.prog 68 ZcF ZhA := ⟨by kernel_rfl, by kernel_rfl⟩
theorem Ty71 : Ty Tryz.prog 71 cL Sl.nil := ⟨by kernel_rfl, by kernel_rfl⟩
theorem Ty74 : Ty Tryz.prog 74 cV ⟨.nilIface, rfl⟩ := ⟨by kernel_rfl, by kernel_rfl⟩
theorem Ty91 : Ty Tryz.prog 91 Zaw Zbq := ⟨by kernel_rfl, by kernel_rfl⟩
theorem Ty93 : Ty Tryz.prog 93 ZaV Zfc := ⟨by kernel_rfl, by kernel_rfl⟩
theorem Ty94 : Ty Tryz.prog 94 cL Sl.nil := ⟨by kernel_rfl, by kernel_rfl⟩
theorem Ty99 : Ty Tryz.prog 99 Za7 ZdI := ⟨by kernel_rfl, by kernel_rfl⟩
theorem Zdr : Ty Tryz.prog 102 Zbc Zcu := ⟨by kernel_rfl, by kernel_rfl⟩
theorem Zti : Ty Tryz.prog 119 Zbf Zgj := ⟨by kernel_rfl, by kernel_rfl⟩
theorem Zth : Ty Tryz.prog 122 ZbL ZcO := ⟨by kernel_rfl, by kernel_rfl⟩
theorem Zql : Ty Tryz.prog 124 cL Sl.nil := ⟨by kernel_rfl, by kernel_rfl⟩
theorem Zsf : Ty Tryz.prog 155 cP none := ⟨by kernel_rfl, by kernel_rfl⟩
theorem Ztg : Ty Tryz.prog 157 Zb0 ZdY := ⟨by kernel_rfl, by kernel_rfl⟩
theorem ZsW : Ty Tryz.prog 177 ((cI .u8).arr 12) (Vec.rep 12 0) := ⟨by kernel_rfl, by kernel_rfl⟩
theorem ZiP : Ty Tryz.prog 182 cL Sl.nil := ⟨by kernel_rfl, by kernel_rfl⟩
theorem Zis : Ty Tryz.prog 191 Zbg ZiR := ⟨by kernel_rfl, by kernel_rfl⟩
theorem Zgh : Ty Tryz.prog 201 ((cI .u8).arr 4) (Vec.rep 4 0) := ⟨by kernel_rfl, by kernel_rfl⟩
theorem Ztf : Ty Tryz.prog 206 Zcq Zg3 := ⟨by kernel_rfl, by kernel_rfl⟩
theorem F6 : Fun Tryz.prog 6 Tryz.f6 := ⟨Tryz.func6, by kernel_rfl, by kernel_rfl⟩
theorem F7 : Fun Tryz.prog 7 Tryz.f7 := ⟨Tryz.func7, by kernel_rfl, by kernel_rfl⟩
theorem F8 : Fun Tryz.prog 8 Tryz.f8 := ⟨Tryz.func8, by kernel_rfl, by kernel_rfl⟩
theorem F9 : Fun Tryz.prog 9 Tryz.f9 := ⟨Tryz.func9, by kernel_rfl, by kernel_rfl⟩
theorem F10 : Fun Tryz.prog 10 Tryz.f10 := ⟨Tryz.func10, by kernel_rfl, by kernel_rfl⟩
theorem F11 : Fun Tryz.prog 11 Tryz.f11 := ⟨Tryz.func11, by kernel_rfl, by kernel_rfl⟩
theorem F12 : Fun Tryz.prog 12 Tryz.f12 := ⟨Tryz.func12, by kernel_rfl, by kernel_rfl⟩
theorem F13 : Fun Tryz.prog 13 Tryz.f13 := ⟨Tryz.func13, by kernel_rfl, by kernel_rfl⟩
theorem F14 : Fun Tryz.prog 14 Tryz.f14 := ⟨Tryz.func14, by kernel_rfl, by kernel_rfl⟩
theorem F15 : Fun Tryz.prog 15 Tryz.f15 := ⟨Tryz.func15, by kernel_rfl, by kernel_rfl⟩
theorem F16 : Fun Tryz.prog 16 Tryz.f16 := ⟨Tryz.func16, by kernel_rfl, by kernel_rfl⟩
theorem F17 : Fun Tryz.prog 17 Tryz.f17 := ⟨Tryz.func17, by kernel_rfl, by kernel_rfl⟩
theorem F18 : Fun Tryz.prog 18 Tryz.f18 := ⟨Tryz.func18, by kernel_rfl, by kernel_rfl⟩
theorem F19 : Fun Tryz.prog 19 Tryz.f19 := ⟨Tryz.func19, by kernel_rfl, by kernel_rfl⟩
theorem F20 : Fun Tryz.prog 20 Tryz.f20 := ⟨Tryz.func20, by kernel_rfl, by kernel_rfl⟩
theorem F21 : Fun Tryz.prog 21 Tryz.f21 := ⟨Tryz.func21, by kernel_rfl, by kernel_rfl⟩
theorem F22 : Fun Tryz.prog 22 Tryz.f22 := ⟨Tryz.func22, by kernel_rfl, by kernel_rfl⟩
theorem F23 : Fun Tryz.prog 23 Tryz.f23 := ⟨Tryz.func23, by kernel_rfl, by kernel_rfl⟩
theorem F24 : Fun Tryz.prog 24 Tryz.f24 := ⟨Tryz.func24, by kernel_rfl, by kernel_rfl⟩
theorem F25 : Fun Tryz.prog 25 Tryz.f25 := ⟨Tryz.func25, by kernel_rfl, by kernel_rfl⟩
theorem F26 : Fun Tryz.prog 26 Tryz.f26 := ⟨Tryz.func26, by kernel_rfl, by kernel_rfl⟩
theorem F27 : Fun Tryz.prog 27 Tryz.f27 := ⟨Tryz.func27, by kernel_rfl, by kernel_rfl⟩
theorem F28 : Fun Tryz.prog 28 Tryz.f28 := ⟨Tryz.func28, by kernel_rfl, by kernel_rfl⟩
theorem F29 : Fun Tryz.prog 29 Tryz.f29 := ⟨Tryz.func29, by kernel_rfl, by kernel_rfl⟩
theorem F30 : Fun Tryz.prog 30 Tryz.f30 := ⟨Tryz.func30, by kernel_rfl, by kernel_rfl⟩
theorem F31 : Fun Tryz.prog 31 Tryz.f31 := ⟨Tryz.func31, by kernel_rfl, by kernel_rfl⟩
theorem F32 : Fun Tryz.prog 32 Tryz.f32 := ⟨Tryz.func32, by kernel_rfl, by kernel_rfl⟩
theorem F33 : Fun Tryz.prog 33 Tryz.f33 := ⟨Tryz.func33, by kernel_rfl, by kernel_rfl⟩
theorem F34 : Fun Tryz.prog 34 Tryz.f34 := ⟨Tryz.func34, by kernel_rfl, by kernel_rfl⟩
theorem F35 : Fun Tryz.prog 35 Tryz.f35 := ⟨Tryz.func35, by kernel_rfl, by kernel_rfl⟩
theorem F36 : Fun Tryz.prog 36 Tryz.f36 := ⟨Tryz.func36, by kernel_rfl, by kernel_rfl⟩
theorem F37 : Fun Tryz.prog 37 Tryz.f37 := ⟨Tryz.func37, by kernel_rfl, by kernel_rfl⟩
theorem F38 : Fun Tryz.prog 38 Tryz.f38 := ⟨Tryz.func38, by kernel_rfl, by kernel_rfl⟩
theorem F39 : Fun Tryz.prog 39 Tryz.f39 := ⟨Tryz.func39, by kernel_rfl, by kernel_rfl⟩
theorem F40 : Fun Tryz.prog 40 Tryz.f40 := ⟨Tryz.func40, by kernel_rfl, by kernel_rfl⟩
theorem F41 : Fun Tryz.prog 41 Tryz.f41 := ⟨Tryz.func41, by kernel_rfl, by kernel_rfl⟩
theorem F42 : Fun Tryz.prog 42 Tryz.f42 := ⟨Tryz.func42, by kernel_rfl, by kernel_rfl⟩
theorem F43 : Fun Tryz.prog 43 Tryz.f43 := ⟨Tryz.func43, by kernel_rfl, by kernel_rfl⟩
theorem F44 : Fun Tryz.prog 44 Tryz.f44 := ⟨Tryz.func44, by kernel_rfl, by kernel_rfl⟩
theorem F45 : Fun Tryz.prog 45 Tryz.f45 := ⟨Tryz.func45, by kernel_rfl, by kernel_rfl⟩
theorem F46 : Fun Tryz.prog 46 Tryz.f46 := ⟨Tryz.func46, by kernel_rfl, by kernel_rfl⟩
theorem F47 : Fun Tryz.prog 47 Tryz.f47 := ⟨Tryz.func47, by kernel_rfl, by kernel_rfl⟩
theorem F48 : Fun Tryz.prog 48 Tryz.f48 := ⟨Tryz.func48, by kernel_rfl, by kernel_rfl⟩
theorem F49 : Fun Tryz.prog 49 Tryz.f49 := ⟨Tryz.func49, by kernel_rfl, by kernel_rfl⟩
theorem F50 : Fun Tryz.prog 50 Tryz.f50 := ⟨Tryz.func50, by kernel_rfl, by kernel_rfl⟩
theorem F51 : Fun Tryz.prog 51 Tryz.f51 := ⟨Tryz.func51, by kernel_rfl, by kernel_rfl⟩
theorem F52 : Fun Tryz.prog 52 Tryz.f52 := ⟨Tryz.func52, by kernel_rfl, by kernel_rfl⟩
theorem F53 : Fun Tryz.prog 53 Tryz.f53 := ⟨Tryz.func53, by kernel_rfl, by kernel_rfl⟩
theorem F54 : Fun Tryz.prog 54 Tryz.f54 := ⟨Tryz.func54, by kernel_rfl, by kernel_rfl⟩
theorem F55 : Fun Tryz.prog 55 Tryz.f55 := ⟨Tryz.func55, by kernel_rfl, by kernel_rfl⟩
theorem F56 : Fun Tryz.prog 56 Tryz.f56 := ⟨Tryz.func56, by kernel_rfl, by kernel_rfl⟩
theorem F57 : Fun Tryz.prog 57 Tryz.f57 := ⟨Tryz.func57, by kernel_rfl, by kernel_rfl⟩
theorem F58 : Fun Tryz.prog 58 Tryz.f58 := ⟨Tryz.func58, by kernel_rfl, by kernel_rfl⟩
theorem F59 : Fun Tryz.prog 59 Tryz.f59 := ⟨Tryz.func59, by kernel_rfl, by kernel_rfl⟩
theorem F60 : Fun Tryz.prog 60 Tryz.f60 := ⟨Tryz.func60, by kernel_rfl, by kernel_rfl⟩
theorem F61 : Fun Tryz.prog 61 Tryz.f61 := ⟨Tryz.func61, by kernel_rfl, by kernel_rfl⟩
theorem F62 : Fun Tryz.prog 62 Tryz.f62 := ⟨Tryz.func62, by kernel_rfl, by kernel_rfl⟩
theorem F63 : Fun Tryz.prog 63 Tryz.f63 := ⟨Tryz.func63, by kernel_rfl, by kernel_rfl⟩
theorem F64 : Fun Tryz.prog 64 Tryz.f64 := ⟨Tryz.func64, by kernel_rfl, by kernel_rfl⟩
theorem F65 : Fun Tryz.prog 65 Tryz.f65 := ⟨Tryz.func65, by kernel_rfl, by kernel_rfl⟩
theorem F66 : Fun Tryz.prog 66 Tryz.f66 := ⟨Tryz.func66, by kernel_rfl, by kernel_rfl⟩
theorem F67 : Fun Tryz.prog 67 Tryz.f67 := ⟨Tryz.func67, by kernel_rfl, by kernel_rfl⟩
theorem F68 : Fun Tryz.prog 68 Tryz.f68 := ⟨Tryz.func68, by kernel_rfl, by kernel_rfl⟩
theorem F69 : Fun Tryz.prog 69 Tryz.f69 := ⟨Tryz.func69, by kernel_rfl, by kernel_rfl⟩
theorem F70 : Fun Tryz.prog 70 Tryz.f70 := ⟨Tryz.func70, by kernel_rfl, by kernel_rfl⟩
theorem F71 : Fun Tryz.prog 71 Tryz.f71 := ⟨Tryz.func71, by kernel_rfl, by kernel_rfl⟩
theorem F72 : Fun Tryz.prog 72 Tryz.f72 := ⟨Tryz.func72, by kernel_rfl, by kernel_rfl⟩
theorem F73 : Fun Tryz.prog 73 Tryz.f73 := ⟨Tryz.func73, by kernel_rfl, by kernel_rfl⟩
theorem F74 : Fun Tryz.prog 74 Tryz.f74 := ⟨Tryz.func74, by kernel_rfl, by kernel_rfl⟩
theorem F75 : Fun Tryz.prog 75 Tryz.f75 := ⟨Tryz.func75, by kernel_rfl, by kernel_rfl⟩
theorem F76 : Fun Tryz.prog 76 Tryz.f76 := ⟨Tryz.func76, by kernel_rfl, by kernel_rfl⟩
theorem F77 : Fun Tryz.prog 77 Tryz.f77 := ⟨Tryz.func77, by kernel_rfl, by kernel_rfl⟩
theorem F78 : Fun Tryz.prog 78 Tryz.f78 := ⟨Tryz.func78, by kernel_rfl, by kernel_rfl⟩
theorem F79 : Fun Tryz.prog 79 Tryz.f79 := ⟨Tryz.func79, by kernel_rfl, by kernel_rfl⟩
theorem F80 : Fun Tryz.prog 80 Tryz.f80 := ⟨Tryz.func80, by kernel_rfl, by kernel_rfl⟩
theorem F81 : Fun Tryz.prog 81 Tryz.f81 := ⟨Tryz.func81, by kernel_rfl, by kernel_rfl⟩
theorem F82 : Fun Tryz.prog 82 Tryz.f82 := ⟨Tryz.func82, by kernel_rfl, by kernel_rfl⟩
theorem F83 : Fun Tryz.prog 83 Tryz.f83 := ⟨Tryz.func83, by kernel_rfl, by kernel_rfl⟩
theorem F84 : Fun Tryz.prog 84 Tryz.f84 := ⟨Tryz.func84, by kernel_rfl, by kernel_rfl⟩
theorem F85 : Fun Tryz.prog 85 Tryz.f85 := ⟨Tryz.func85, by kernel_rfl, by kernel_rfl⟩
theorem F86 : Fun Tryz.prog 86 Tryz.f86 := ⟨Tryz.func86, by kernel_rfl, by kernel_rfl⟩
theorem F87 : Fun Tryz.prog 87 Tryz.f87 := ⟨Tryz.func87, by kernel_rfl, by kernel_rfl⟩
theorem F90 : Fun Tryz.prog 90 Tryz.f90 := ⟨Tryz.func90, by kernel_rfl, by kernel_rfl⟩
theorem F91 : Fun Tryz.prog 91 Tryz.f91 := ⟨Tryz.func91, by kernel_rfl, by kernel_rfl⟩
theorem F92 : Fun Tryz.prog 92 Tryz.f92 := ⟨Tryz.func92, by kernel_rfl, by kernel_rfl⟩
theorem F93 : Fun Tryz.prog 93 Tryz.f93 := ⟨Tryz.func93, by kernel_rfl, by kernel_rfl⟩
theorem F94 : Fun Tryz.prog 94 Tryz.f94 := ⟨Tryz.func94, by kernel_rfl, by kernel_rfl⟩
theorem F95 : Fun Tryz.prog 95 Tryz.f95 := ⟨Tryz.func95, by kernel_rfl, by kernel_rfl⟩
theorem F96 : Fun Tryz.prog 96 Tryz.f96 := ⟨Tryz.func96, by kernel_rfl, by kernel_rfl⟩
theorem F103 : Fun Tryz.prog 103 Tryz.f103 := ⟨Tryz.func103, by kernel_rfl, by kernel_rfl⟩
theorem F104 : Fun Tryz.prog 104 Tryz.f104 := ⟨Tryz.func104, by kernel_rfl, by kernel_rfl⟩
theorem F105 : Fun Tryz.prog 105 Tryz.f105 := ⟨Tryz.func105, by kernel_rfl, by kernel_rfl⟩
theorem F106 : Fun Tryz.prog 106 Tryz.f106 := ⟨Tryz.func106, by kernel_rfl, by kernel_rfl⟩
theorem F107 : Fun Tryz.prog 107 Tryz.f107 := ⟨Tryz.func107, by kernel_rfl, by kernel_rfl⟩
theorem F108 : Fun Tryz.prog 108 Tryz.f108 := ⟨Tryz.func108, by kernel_rfl, by kernel_rfl⟩
theorem F109 : Fun Tryz.prog 109 Tryz.f109 := ⟨Tryz.func109, by kernel_rfl, by kernel_rfl⟩
theorem F115 : Fun Tryz.prog 115 Tryz.f115 := ⟨Tryz.func115, by kernel_rfl, by kernel_rfl⟩
theorem F116 : Fun Tryz.prog 116 Tryz.f116 := ⟨Tryz.func116, by kernel_rfl, by kernel_rfl⟩
theorem F117 : Fun Tryz.prog 117 Tryz.f117 := ⟨Tryz.func117, by kernel_rfl, by kernel_rfl⟩
theorem F118 : Fun Tryz.prog 118 Tryz.f118 := ⟨Tryz.func118, by kernel_rfl, by kernel_rfl⟩
theorem F124 : Fun Tryz.prog 124 Tryz.f124 := ⟨Tryz.func124, by kernel_rfl, by kernel_rfl⟩
theorem F125 : Fun Tryz.prog 125 Tryz.f125 := ⟨Tryz.func125, by kernel_rfl, by kernel_rfl⟩
theorem F126 : Fun Tryz.prog 126 Tryz.f126 := ⟨Tryz.func126, by kernel_rfl, by kernel_rfl⟩
theorem F146 : Fun Tryz.prog 146 Tryz.f146 := ⟨Tryz.func146, by kernel_rfl, by kernel_rfl⟩
theorem F147 : Fun Tryz.prog 147 Tryz.f147 := ⟨Tryz.func147, by kernel_rfl, by kernel_rfl⟩
theorem F148 : Fun Tryz.prog 148 Tryz.f148 := ⟨Tryz.func148, by kernel_rfl, by kernel_rfl⟩
theorem F149 : Fun Tryz.prog 149 Tryz.f149 := ⟨Tryz.func149, by kernel_rfl, by kernel_rfl⟩
theorem F150 : Fun Tryz.prog 150 Tryz.f150 := ⟨Tryz.func150, by kernel_rfl, by kernel_rfl⟩
theorem F151 : Fun Tryz.prog 151 Tryz.f151 := ⟨Tryz.func151, by kernel_rfl, by kernel_rfl⟩
theorem F152 : Fun Tryz.prog 152 Tryz.f152 := ⟨Tryz.func152, by kernel_rfl, by kernel_rfl⟩
theorem F153 : Fun Tryz.prog 153 Tryz.f153 := ⟨Tryz.func153, by kernel_rfl, by kernel_rfl⟩
def str0 : ByteArray := ⟨#[112, 101, 114, 109, 105, 116, 32, 116, 99, 112, 32, 102, 114, 111, 109, 32, 49, 48, 46, 48, 46, 48, 46, 48, 47, 56, 32, 116, 111, 32, 97, 110, 121, 32, 112, 111, 114, 116, 32, 56, 48]⟩
def str1 : ByteArray := ⟨#[44]⟩
def str2 : ByteArray := ⟨#[116, 99, 112]⟩
def str3 : ByteArray := ⟨#[117, 100, 112]⟩
def str4 : ByteArray := ⟨#[105, 99, 109, 112]⟩
def str5 : ByteArray := ⟨#[105, 99, 109, 112, 54]⟩
def str6 : ByteArray := ⟨#[112, 114, 111, 116, 111]⟩
def str7 : ByteArray := ⟨#[99, 108, 97, 115, 115]⟩
def str8 : ByteArray := ⟨#[97, 110, 121]⟩
def str9 : ByteArray := ⟨#[112]⟩
def Zpa : ByteArray := ⟨#[58, 58]⟩
def Zs7 : ByteArray := ⟨#[58]⟩
def Zok : ByteArray := ⟨#[47]⟩
def ZrJ : ByteArray := ⟨#[45]⟩
def Zss : ByteArray := ⟨#[110, 111, 116]⟩
def Zsr : ByteArray := ⟨#[112, 111, 114, 116]⟩
def Zsq : ByteArray := ⟨#[33]⟩
def ZrI : ByteArray := ⟨#[111, 110]⟩
def ZrH : ByteArray := ⟨#[118, 105, 100]⟩
def ZmX : ByteArray := ⟨#[102, 114, 111, 109]⟩
def Zo9 : ByteArray := ⟨#[116, 111]⟩
def ZmW : ByteArray := ⟨#[102, 108, 97, 103, 115]⟩
def ZmV : ByteArray := ⟨#[116, 121, 112, 101]⟩
def ZrG : ByteArray := ⟨#[112, 105, 101, 99, 101, 115]⟩
def ZqF : ByteArray := ⟨#[48, 49, 50, 51, 52, 53, 54, 55, 56, 57, 97, 98, 99, 100, 101, 102, 103, 104, 105, 106, 107, 108, 109, 110, 111, 112, 113, 114, 115, 116, 117, 118, 119, 120, 121, 122]⟩
def ZqE : ByteArray := ⟨#[48, 48, 48, 49, 48, 50, 48, 51, 48, 52, 48, 53, 48, 54, 48, 55, 48, 56, 48, 57, 49, 48, 49, 49, 49, 50, 49, 51, 49, 52, 49, 53, 49, 54, 49, 55, 49, 56, 49, 57, 50, 48, 50, 49, 50, 50, 50, 51, 50, 52, 50, 53, 50, 54, 50, 55, 50, 56, 50, 57, 51, 48, 51, 49, 51, 50, 51, 51, 51, 52, 51, 53, 51, 54, 51, 55, 51, 56, 51, 57, 52, 48, 52, 49, 52, 50, 52, 51, 52, 52, 52, 53, 52, 54, 52, 55, 52, 56, 52, 57, 53, 48, 53, 49, 53, 50, 53, 51, 53, 52, 53, 53, 53, 54, 53, 55, 53, 56, 53, 57, 54, 48, 54, 49, 54, 50, 54, 51, 54, 52, 54, 53, 54, 54, 54, 55, 54, 56, 54, 57, 55, 48, 55, 49, 55, 50, 55, 51, 55, 52, 55, 53, 55, 54, 55, 55, 55, 56, 55, 57, 56, 48, 56, 49, 56, 50, 56, 51, 56, 52, 56, 53, 56, 54, 56, 55, 56, 56, 56, 57, 57, 48, 57, 49, 57, 50, 57, 51, 57, 52, 57, 53, 57, 54, 57, 55, 57, 56, 57, 57]⟩
def Zf4 : ByteArray := ⟨#[32]⟩
def Zsp : ByteArray := ⟨#[46]⟩
def ZqD : ByteArray := ⟨#[32, 112, 111, 114, 116, 32]⟩
theorem Eq5 : EqT Tryz.prog 5 1 (cI .u8) := EqT.int Tryz.underlying5
theorem Ztn : EqT Tryz.prog 177 2 ((cI .u8).arr 12) := EqT.arr Tryz.underlying177 Ty5 Eq5
theorem Eq26 : EqT Tryz.prog 26 2 ((cI .u8).arr 16) := EqT.arr Tryz.underlying26 Ty5 Eq5
theorem Eq9 : EqT Tryz.prog 9 1 cS := EqT.string Tryz.underlying9
theorem Ck9 : CkT Tryz.prog 9 1 cS := CkT.string Tryz.underlying9
theorem Zs1 : KeyT Tryz.prog 100 9 1 cS (cI .i64) 0 := ⟨NowK.string Tryz.underlying9, Eq9, Ck9, SbC.string, by decide, ⟨3, by kernel_rfl, Ty3⟩, ⟨_, Tryz.underlying9⟩⟩
theorem Eq3 : EqT Tryz.prog 3 1 (cI .i64) := EqT.int Tryz.underlying3
theorem Eq28 : EqT Tryz.prog 28 3 ZaX := EqT.struct (D := 2) Tryz.underlying28 (by kernel_rfl) rfl (fun d hd x y w => EqFs.congr (EqFs.cons rfl Ty3 (Zde x) (Zde y) Eq3 (by omega) (EqFs.cons rfl Ty26 (Zdf x) (Zdf y) Eq26 (by omega) EqFs.nil)) (by obtain ⟨⟩ := x; obtain ⟨⟩ := y; simp))
theorem Eq91 : EqT Tryz.prog 91 4 Zaw := EqT.struct (D := 3) Tryz.underlying91 (by kernel_rfl) rfl (fun d hd x y w => EqFs.congr (EqFs.cons rfl Ty28 (ZbE x) (ZbE y) Eq28 (by omega) (EqFs.cons rfl Ty3 (Zb2 x) (Zb2 y) Eq3 (by omega) EqFs.nil)) (by obtain ⟨⟩ := x; obtain ⟨⟩ := y; simp))
theorem Eq93 : EqT Tryz.prog 93 2 ZaV := EqT.struct (D := 1) Tryz.underlying93 (by kernel_rfl) rfl (fun d hd x y w => EqFs.congr (EqFs.cons rfl Ty3 (ZcX x) (ZcX y) Eq3 (by omega) (EqFs.cons rfl Ty3 (Zdn x) (Zdn y) Eq3 (by omega) EqFs.nil)) (by obtain ⟨⟩ := x; obtain ⟨⟩ := y; simp))
theorem Eq54 : EqT Tryz.prog 54 2 Zbh := EqT.struct (D := 1) Tryz.underlying54 (by kernel_rfl) rfl (fun d hd x y w => EqFs.congr (EqFs.cons rfl Ty3 (ZfB x) (ZfB y) Eq3 (by omega) (EqFs.cons rfl Ty3 (Ze5 x) (Ze5 y) Eq3 (by omega) (EqFs.cons rfl Ty3 (Zcr x) (Zcr y) Eq3 (by omega) EqFs.nil))) (by obtain ⟨⟩ := x; obtain ⟨⟩ := y; simp))
theorem Zc0 : Tryz.prog.follows .mixedOrders = true := by kernel_rfl
end Go.Proofs.YtjceipelgkdoaaaGreatDoor.Lx
