/- The types of the translation that the programs use. -/
import Derived.Test.YtjceipelgkdoaaaGreatDoorProg
import Derived.Test.YtjceipelgkdoaaaGreatDoorLxNv
set_option linter.unusedVariables false
set_option linter.unusedSimpArgs false
set_option linter.unusedSectionVars false
namespace Go.Proofs.YtjceipelgkdoaaaGreatDoor.Lx
open Go Go.Proofs
structure Zbn where
 V : Int
 A : (Vec Int 16)
 deriving DecidableEq
def Zcb : Zbn := ⟨0, (Vec.rep 16 0)⟩
instance : Inhabited Zbn := ⟨Zcb⟩
def ZaW : Cod Zbn := ((cI .i64).pair ((cI .u8).arr 16)).iso (fun x => (x.V, x.A)) (fun p => ⟨p.1, p.2⟩) (fun _ => rfl) (fun _ => rfl)
theorem Zdb (x : Zbn) : At (ZaW.enc x) 0 ((cI .i64).enc x.V) := At.fst
theorem ZhY (x : Zbn) (y : Int) : Upd (ZaW.enc x) 0 ((cI .i64).enc y) (ZaW.enc (⟨y, x.A⟩ : Zbn)) := Upd.fst
theorem Zdc (x : Zbn) : At (ZaW.enc x) 1 (((cI .u8).arr 16).enc x.A) := At.last
theorem ZhZ (x : Zbn) (y : (Vec Int 16)) : Upd (ZaW.enc x) 1 (((cI .u8).arr 16).enc y) (ZaW.enc (⟨x.V, y⟩ : Zbn)) := Upd.last
structure Zab where
 IP : Zbn
 Len : Int
 deriving DecidableEq
def Zbp : Zab := ⟨Zcb, 0⟩
instance : Inhabited Zab := ⟨Zbp⟩
def Zax : Cod Zab := (ZaW.pair (cI .i64)).iso (fun x => (x.IP, x.Len)) (fun p => ⟨p.1, p.2⟩) (fun _ => rfl) (fun _ => rfl)
theorem ZbE (x : Zab) : At (Zax.enc x) 0 (ZaW.enc x.IP) := At.fst
theorem ZeY (x : Zab) (y : Zbn) : Upd (Zax.enc x) 0 (ZaW.enc y) (Zax.enc (⟨y, x.Len⟩ : Zab)) := Upd.fst
theorem Zb4 (x : Zab) : At (Zax.enc x) 17 ((cI .i64).enc x.Len) := At.last
theorem Zd1 (x : Zab) (y : Int) : Upd (Zax.enc x) 17 ((cI .i64).enc y) (Zax.enc (⟨x.IP, y⟩ : Zab)) := Upd.last
structure Zal where
 Not : Bool
 Nets : Sl
 Ports : Sl
 deriving DecidableEq
def ZaM : Zal := ⟨false, Sl.nil, Sl.nil⟩
instance : Inhabited Zal := ⟨ZaM⟩
def ZaA : Cod Zal := (cB.pair (cL.pair cL)).iso (fun x => (x.Not, x.Nets, x.Ports)) (fun p => ⟨p.1, p.2.1, p.2.2⟩) (fun _ => rfl) (fun _ => rfl)
theorem ZaI (x : Zal) : At (ZaA.enc x) 0 (cB.enc x.Not) := At.fst
theorem Zko (x : Zal) (y : Bool) : Upd (ZaA.enc x) 0 (cB.enc y) (ZaA.enc (⟨y, x.Nets, x.Ports⟩ : Zal)) := Upd.fst
theorem Zaw (x : Zal) : At (ZaA.enc x) 1 (cL.enc x.Nets) := At.snd (At.fst)
theorem Zd9 (x : Zal) (y : Sl) : Upd (ZaA.enc x) 1 (cL.enc y) (ZaA.enc (⟨x.Not, y, x.Ports⟩ : Zal)) := Upd.snd (Upd.fst)
theorem ZaT (x : Zal) : At (ZaA.enc x) 2 (cL.enc x.Ports) := At.snd (At.last)
theorem ZdZ (x : Zal) (y : Sl) : Upd (ZaA.enc x) 2 (cL.enc y) (ZaA.enc (⟨x.Not, x.Nets, y⟩ : Zal)) := Upd.snd (Upd.last)
structure ZaC where
 Lo : Int
 Hi : Int
 deriving DecidableEq
def Zfc : ZaC := ⟨0, 0⟩
instance : Inhabited ZaC := ⟨Zfc⟩
def ZaU : Cod ZaC := ((cI .i64).pair (cI .i64)).iso (fun x => (x.Lo, x.Hi)) (fun p => ⟨p.1, p.2⟩) (fun _ => rfl) (fun _ => rfl)
theorem ZcT (x : ZaC) : At (ZaU.enc x) 0 ((cI .i64).enc x.Lo) := At.fst
theorem Zew (x : ZaC) (y : Int) : Upd (ZaU.enc x) 0 ((cI .i64).enc y) (ZaU.enc (⟨y, x.Hi⟩ : ZaC)) := Upd.fst
theorem Zdm (x : ZaC) : At (ZaU.enc x) 1 ((cI .i64).enc x.Hi) := At.last
theorem Zex (x : ZaC) (y : Int) : Upd (ZaU.enc x) 1 ((cI .i64).enc y) (ZaU.enc (⟨x.Lo, y⟩ : ZaC)) := Upd.last
structure Zaf where
 Act : Int
 Class : Int
 Kind : Int
 Proto : Int
 In : Int
 Vid : Int
 From : Zal
 To : Zal
 Set : Int
 Clear : Int
 Type_ : Int
 Pieces : Bool
 deriving DecidableEq
def Zaq : Zaf := ⟨0, 0, 0, 0, 0, 0, ZaM, ZaM, 0, 0, 0, false⟩
instance : Inhabited Zaf := ⟨Zaq⟩
def Zai : Cod Zaf := ((cI .i64).pair ((cI .i64).pair ((cI .i64).pair ((cI .i64).pair ((cI .i64).pair ((cI .i64).pair (ZaA.pair (ZaA.pair ((cI .i64).pair ((cI .i64).pair ((cI .i64).pair cB))))))))))).iso (fun x => (x.Act, x.Class, x.Kind, x.Proto, x.In, x.Vid, x.From, x.To, x.Set, x.Clear, x.Type_, x.Pieces)) (fun p => ⟨p.1, p.2.1, p.2.2.1, p.2.2.2.1, p.2.2.2.2.1, p.2.2.2.2.2.1, p.2.2.2.2.2.2.1, p.2.2.2.2.2.2.2.1, p.2.2.2.2.2.2.2.2.1, p.2.2.2.2.2.2.2.2.2.1, p.2.2.2.2.2.2.2.2.2.2.1, p.2.2.2.2.2.2.2.2.2.2.2⟩) (fun _ => rfl) (fun _ => rfl)
theorem ZbH (x : Zaf) : At (Zai.enc x) 0 ((cI .i64).enc x.Act) := At.fst
theorem Zdk (x : Zaf) (y : Int) : Upd (Zai.enc x) 0 ((cI .i64).enc y) (Zai.enc (⟨y, x.Class, x.Kind, x.Proto, x.In, x.Vid, x.From, x.To, x.Set, x.Clear, x.Type_, x.Pieces⟩ : Zaf)) := Upd.fst
theorem Zb3 (x : Zaf) : At (Zai.enc x) 1 ((cI .i64).enc x.Class) := At.snd (At.fst)
theorem ZeH (x : Zaf) (y : Int) : Upd (Zai.enc x) 1 ((cI .i64).enc y) (Zai.enc (⟨x.Act, y, x.Kind, x.Proto, x.In, x.Vid, x.From, x.To, x.Set, x.Clear, x.Type_, x.Pieces⟩ : Zaf)) := Upd.snd (Upd.fst)
theorem ZbV (x : Zaf) : At (Zai.enc x) 2 ((cI .i64).enc x.Kind) := At.snd (At.snd (At.fst))
theorem Zgt (x : Zaf) (y : Int) : Upd (Zai.enc x) 2 ((cI .i64).enc y) (Zai.enc (⟨x.Act, x.Class, y, x.Proto, x.In, x.Vid, x.From, x.To, x.Set, x.Clear, x.Type_, x.Pieces⟩ : Zaf)) := Upd.snd (Upd.snd (Upd.fst))
theorem Zbu (x : Zaf) : At (Zai.enc x) 3 ((cI .i64).enc x.Proto) := At.snd (At.snd (At.snd (At.fst)))
theorem Zd0 (x : Zaf) (y : Int) : Upd (Zai.enc x) 3 ((cI .i64).enc y) (Zai.enc (⟨x.Act, x.Class, x.Kind, y, x.In, x.Vid, x.From, x.To, x.Set, x.Clear, x.Type_, x.Pieces⟩ : Zaf)) := Upd.snd (Upd.snd (Upd.snd (Upd.fst)))
theorem ZdI (x : Zaf) : At (Zai.enc x) 4 ((cI .i64).enc x.In) := At.snd (At.snd (At.snd (At.snd (At.fst))))
theorem ZfP (x : Zaf) (y : Int) : Upd (Zai.enc x) 4 ((cI .i64).enc y) (Zai.enc (⟨x.Act, x.Class, x.Kind, x.Proto, y, x.Vid, x.From, x.To, x.Set, x.Clear, x.Type_, x.Pieces⟩ : Zaf)) := Upd.snd (Upd.snd (Upd.snd (Upd.snd (Upd.fst))))
theorem Zdl (x : Zaf) : At (Zai.enc x) 5 ((cI .i64).enc x.Vid) := At.snd (At.snd (At.snd (At.snd (At.snd (At.fst)))))
theorem Zfp (x : Zaf) (y : Int) : Upd (Zai.enc x) 5 ((cI .i64).enc y) (Zai.enc (⟨x.Act, x.Class, x.Kind, x.Proto, x.In, y, x.From, x.To, x.Set, x.Clear, x.Type_, x.Pieces⟩ : Zaf)) := Upd.snd (Upd.snd (Upd.snd (Upd.snd (Upd.snd (Upd.fst)))))
theorem ZbK (x : Zaf) : At (Zai.enc x) 6 (ZaA.enc x.From) := At.snd (At.snd (At.snd (At.snd (At.snd (At.snd (At.fst))))))
theorem ZcZ (x : Zaf) (y : Zal) : Upd (Zai.enc x) 6 (ZaA.enc y) (Zai.enc (⟨x.Act, x.Class, x.Kind, x.Proto, x.In, x.Vid, y, x.To, x.Set, x.Clear, x.Type_, x.Pieces⟩ : Zaf)) := Upd.snd (Upd.snd (Upd.snd (Upd.snd (Upd.snd (Upd.snd (Upd.fst))))))
theorem ZbM (x : Zaf) : At (Zai.enc x) 9 (ZaA.enc x.To) := At.snd (At.snd (At.snd (At.snd (At.snd (At.snd (At.snd (At.fst)))))))
theorem ZdH (x : Zaf) (y : Zal) : Upd (Zai.enc x) 9 (ZaA.enc y) (Zai.enc (⟨x.Act, x.Class, x.Kind, x.Proto, x.In, x.Vid, x.From, y, x.Set, x.Clear, x.Type_, x.Pieces⟩ : Zaf)) := Upd.snd (Upd.snd (Upd.snd (Upd.snd (Upd.snd (Upd.snd (Upd.snd (Upd.fst)))))))
theorem Zca (x : Zaf) : At (Zai.enc x) 12 ((cI .i64).enc x.Set) := At.snd (At.snd (At.snd (At.snd (At.snd (At.snd (At.snd (At.snd (At.fst))))))))
theorem Zg4 (x : Zaf) (y : Int) : Upd (Zai.enc x) 12 ((cI .i64).enc y) (Zai.enc (⟨x.Act, x.Class, x.Kind, x.Proto, x.In, x.Vid, x.From, x.To, y, x.Clear, x.Type_, x.Pieces⟩ : Zaf)) := Upd.snd (Upd.snd (Upd.snd (Upd.snd (Upd.snd (Upd.snd (Upd.snd (Upd.snd (Upd.fst))))))))
theorem ZbN (x : Zaf) : At (Zai.enc x) 13 ((cI .i64).enc x.Clear) := At.snd (At.snd (At.snd (At.snd (At.snd (At.snd (At.snd (At.snd (At.snd (At.fst)))))))))
theorem Zf4 (x : Zaf) (y : Int) : Upd (Zai.enc x) 13 ((cI .i64).enc y) (Zai.enc (⟨x.Act, x.Class, x.Kind, x.Proto, x.In, x.Vid, x.From, x.To, x.Set, y, x.Type_, x.Pieces⟩ : Zaf)) := Upd.snd (Upd.snd (Upd.snd (Upd.snd (Upd.snd (Upd.snd (Upd.snd (Upd.snd (Upd.snd (Upd.fst)))))))))
theorem Zcs (x : Zaf) : At (Zai.enc x) 14 ((cI .i64).enc x.Type_) := At.snd (At.snd (At.snd (At.snd (At.snd (At.snd (At.snd (At.snd (At.snd (At.snd (At.fst))))))))))
theorem ZeG (x : Zaf) (y : Int) : Upd (Zai.enc x) 14 ((cI .i64).enc y) (Zai.enc (⟨x.Act, x.Class, x.Kind, x.Proto, x.In, x.Vid, x.From, x.To, x.Set, x.Clear, y, x.Pieces⟩ : Zaf)) := Upd.snd (Upd.snd (Upd.snd (Upd.snd (Upd.snd (Upd.snd (Upd.snd (Upd.snd (Upd.snd (Upd.snd (Upd.fst))))))))))
theorem ZdQ (x : Zaf) : At (Zai.enc x) 15 (cB.enc x.Pieces) := At.snd (At.snd (At.snd (At.snd (At.snd (At.snd (At.snd (At.snd (At.snd (At.snd (At.last))))))))))
theorem ZfF (x : Zaf) (y : Bool) : Upd (Zai.enc x) 15 (cB.enc y) (Zai.enc (⟨x.Act, x.Class, x.Kind, x.Proto, x.In, x.Vid, x.From, x.To, x.Set, x.Clear, x.Type_, y⟩ : Zaf)) := Upd.snd (Upd.snd (Upd.snd (Upd.snd (Upd.snd (Upd.snd (Upd.snd (Upd.snd (Upd.snd (Upd.snd (Upd.last))))))))))
structure ZhT where
 Op : Int
 SMac : (Vec Int 6)
 SIP : Zbn
 TMac : (Vec Int 6)
 TIP : Zbn
 deriving DecidableEq
def ZlV : ZhT := ⟨0, (Vec.rep 6 0), Zcb, (Vec.rep 6 0), Zcb⟩
instance : Inhabited ZhT := ⟨ZlV⟩
def ZgX : Cod ZhT := ((cI .i64).pair (((cI .u8).arr 6).pair (ZaW.pair (((cI .u8).arr 6).pair ZaW)))).iso (fun x => (x.Op, x.SMac, x.SIP, x.TMac, x.TIP)) (fun p => ⟨p.1, p.2.1, p.2.2.1, p.2.2.2.1, p.2.2.2.2⟩) (fun _ => rfl) (fun _ => rfl)
theorem ZkK (x : ZhT) : At (ZgX.enc x) 7 (ZaW.enc x.SIP) := At.snd (At.snd (At.fst))
theorem ZhB (x : ZhT) : At (ZgX.enc x) 30 (ZaW.enc x.TIP) := At.snd (At.snd (At.snd (At.last)))
structure ZfN where
 Tos : Int
 ID : Int
 DF : Bool
 MF : Bool
 Off : Int
 TTL : Int
 Proto : Int
 Src : Zbn
 Dst : Zbn
 Opts : Sl
 Data : Sl
 deriving DecidableEq
def ZlU : ZfN := ⟨0, 0, false, false, 0, 0, 0, Zcb, Zcb, Sl.nil, Sl.nil⟩
instance : Inhabited ZfN := ⟨ZlU⟩
def ZeS : Cod ZfN := ((cI .i64).pair ((cI .i64).pair (cB.pair (cB.pair ((cI .i64).pair ((cI .i64).pair ((cI .i64).pair (ZaW.pair (ZaW.pair (cL.pair cL)))))))))).iso (fun x => (x.Tos, x.ID, x.DF, x.MF, x.Off, x.TTL, x.Proto, x.Src, x.Dst, x.Opts, x.Data)) (fun p => ⟨p.1, p.2.1, p.2.2.1, p.2.2.2.1, p.2.2.2.2.1, p.2.2.2.2.2.1, p.2.2.2.2.2.2.1, p.2.2.2.2.2.2.2.1, p.2.2.2.2.2.2.2.2.1, p.2.2.2.2.2.2.2.2.2.1, p.2.2.2.2.2.2.2.2.2.2⟩) (fun _ => rfl) (fun _ => rfl)
theorem ZlQ (x : ZfN) : At (ZeS.enc x) 3 (cB.enc x.MF) := At.snd (At.snd (At.snd (At.fst)))
theorem ZkJ (x : ZfN) : At (ZeS.enc x) 4 ((cI .i64).enc x.Off) := At.snd (At.snd (At.snd (At.snd (At.fst))))
theorem Zjt (x : ZfN) : At (ZeS.enc x) 6 ((cI .i64).enc x.Proto) := At.snd (At.snd (At.snd (At.snd (At.snd (At.snd (At.fst))))))
theorem ZkI (x : ZfN) : At (ZeS.enc x) 7 (ZaW.enc x.Src) := At.snd (At.snd (At.snd (At.snd (At.snd (At.snd (At.snd (At.fst)))))))
theorem ZhA (x : ZfN) : At (ZeS.enc x) 24 (ZaW.enc x.Dst) := At.snd (At.snd (At.snd (At.snd (At.snd (At.snd (At.snd (At.snd (At.fst))))))))
structure Zhi where
 Has : Bool
 More : Bool
 ID : Int
 Off : Int
 deriving DecidableEq
def ZkN : Zhi := ⟨false, false, 0, 0⟩
instance : Inhabited Zhi := ⟨ZkN⟩
def Zhg : Cod Zhi := (cB.pair (cB.pair ((cI .i64).pair (cI .i64)))).iso (fun x => (x.Has, x.More, x.ID, x.Off)) (fun p => ⟨p.1, p.2.1, p.2.2.1, p.2.2.2⟩) (fun _ => rfl) (fun _ => rfl)
theorem Zku (x : Zhi) : At (Zhg.enc x) 0 (cB.enc x.Has) := At.fst
structure Zgi where
 Class : Int
 Flow : Int
 Hop : Int
 Src : Zbn
 Dst : Zbn
 Exts : Sl
 Frag : Zhi
 Next : Int
 Data : Sl
 deriving DecidableEq
def ZlT : Zgi := ⟨0, 0, 0, Zcb, Zcb, Sl.nil, ZkN, 0, Sl.nil⟩
instance : Inhabited Zgi := ⟨ZlT⟩
def Zfl : Cod Zgi := ((cI .i64).pair ((cI .i64).pair ((cI .i64).pair (ZaW.pair (ZaW.pair (cL.pair (Zhg.pair ((cI .i64).pair cL)))))))).iso (fun x => (x.Class, x.Flow, x.Hop, x.Src, x.Dst, x.Exts, x.Frag, x.Next, x.Data)) (fun p => ⟨p.1, p.2.1, p.2.2.1, p.2.2.2.1, p.2.2.2.2.1, p.2.2.2.2.2.1, p.2.2.2.2.2.2.1, p.2.2.2.2.2.2.2.1, p.2.2.2.2.2.2.2.2⟩) (fun _ => rfl) (fun _ => rfl)
theorem ZkH (x : Zgi) : At (Zfl.enc x) 3 (ZaW.enc x.Src) := At.snd (At.snd (At.snd (At.fst)))
theorem Zhz (x : Zgi) : At (Zfl.enc x) 20 (ZaW.enc x.Dst) := At.snd (At.snd (At.snd (At.snd (At.fst))))
theorem Zkt (x : Zgi) : At (Zfl.enc x) 38 (Zhg.enc x.Frag) := At.snd (At.snd (At.snd (At.snd (At.snd (At.snd (At.fst))))))
theorem Zks (x : Zgi) : At (Zfl.enc x) 42 ((cI .i64).enc x.Next) := At.snd (At.snd (At.snd (At.snd (At.snd (At.snd (At.snd (At.fst)))))))
structure Zhh where
 V : Int
 Type_ : Int
 Code : Int
 Rest : Int
 Data : Sl
 deriving DecidableEq
def ZkM : Zhh := ⟨0, 0, 0, 0, Sl.nil⟩
instance : Inhabited Zhh := ⟨ZkM⟩
def Zhf : Cod Zhh := ((cI .i64).pair ((cI .i64).pair ((cI .i64).pair ((cI .i64).pair cL)))).iso (fun x => (x.V, x.Type_, x.Code, x.Rest, x.Data)) (fun p => ⟨p.1, p.2.1, p.2.2.1, p.2.2.2.1, p.2.2.2.2⟩) (fun _ => rfl) (fun _ => rfl)
theorem ZiP (x : Zhh) : At (Zhf.enc x) 1 ((cI .i64).enc x.Type_) := At.snd (At.fst)
structure ZhR where
 Sport : Int
 Dport : Int
 NoSum : Bool
 Data : Sl
 deriving DecidableEq
def ZlR : ZhR := ⟨0, 0, false, Sl.nil⟩
instance : Inhabited ZhR := ⟨ZlR⟩
def ZgV : Cod ZhR := ((cI .i64).pair ((cI .i64).pair (cB.pair cL))).iso (fun x => (x.Sport, x.Dport, x.NoSum, x.Data)) (fun p => ⟨p.1, p.2.1, p.2.2.1, p.2.2.2⟩) (fun _ => rfl) (fun _ => rfl)
theorem Zjp (x : ZhR) : At (ZgV.enc x) 0 ((cI .i64).enc x.Sport) := At.fst
theorem Zjq (x : ZhR) : At (ZgV.enc x) 1 ((cI .i64).enc x.Dport) := At.snd (At.fst)
structure ZgY where
 Sport : Int
 Dport : Int
 Seq : Int
 Ack : Int
 Flags : Int
 Win : Int
 Urg : Int
 Opts : Sl
 Data : Sl
 deriving DecidableEq
def ZlS : ZgY := ⟨0, 0, 0, 0, 0, 0, 0, Sl.nil, Sl.nil⟩
instance : Inhabited ZgY := ⟨ZlS⟩
def Zf1 : Cod ZgY := ((cI .i64).pair ((cI .i64).pair ((cI .i64).pair ((cI .i64).pair ((cI .i64).pair ((cI .i64).pair ((cI .i64).pair (cL.pair cL)))))))).iso (fun x => (x.Sport, x.Dport, x.Seq, x.Ack, x.Flags, x.Win, x.Urg, x.Opts, x.Data)) (fun p => ⟨p.1, p.2.1, p.2.2.1, p.2.2.2.1, p.2.2.2.2.1, p.2.2.2.2.2.1, p.2.2.2.2.2.2.1, p.2.2.2.2.2.2.2.1, p.2.2.2.2.2.2.2.2⟩) (fun _ => rfl) (fun _ => rfl)
theorem Zjr (x : ZgY) : At (Zf1.enc x) 0 ((cI .i64).enc x.Sport) := At.fst
theorem Zjs (x : ZgY) : At (Zf1.enc x) 1 ((cI .i64).enc x.Dport) := At.snd (At.fst)
theorem Zgu (x : ZgY) : At (Zf1.enc x) 4 ((cI .i64).enc x.Flags) := At.snd (At.snd (At.snd (At.snd (At.fst))))
structure Zas where
 Dst : (Vec Int 6)
 Src : (Vec Int 6)
 Tags : Sl
 Kind : Int
 Arp : ZhT
 Ip4 : ZfN
 Ip6 : Zgi
 L4 : Int
 Icmp : Zhh
 Udp : ZhR
 Tcp : ZgY
 deriving DecidableEq
def ZgA : Zas := ⟨(Vec.rep 6 0), (Vec.rep 6 0), Sl.nil, 0, ZlV, ZlU, ZlT, 0, ZkM, ZlR, ZlS⟩
instance : Inhabited Zas := ⟨ZgA⟩
def ZaB : Cod Zas := (((cI .u8).arr 6).pair (((cI .u8).arr 6).pair (cL.pair ((cI .i64).pair (ZgX.pair (ZeS.pair (Zfl.pair ((cI .i64).pair (Zhf.pair (ZgV.pair Zf1)))))))))).iso (fun x => (x.Dst, x.Src, x.Tags, x.Kind, x.Arp, x.Ip4, x.Ip6, x.L4, x.Icmp, x.Udp, x.Tcp)) (fun p => ⟨p.1, p.2.1, p.2.2.1, p.2.2.2.1, p.2.2.2.2.1, p.2.2.2.2.2.1, p.2.2.2.2.2.2.1, p.2.2.2.2.2.2.2.1, p.2.2.2.2.2.2.2.2.1, p.2.2.2.2.2.2.2.2.2.1, p.2.2.2.2.2.2.2.2.2.2⟩) (fun _ => rfl) (fun _ => rfl)
theorem ZfH (x : Zas) : At (ZaB.enc x) 12 (cL.enc x.Tags) := At.snd (At.snd (At.fst))
theorem ZcA (x : Zas) : At (ZaB.enc x) 13 ((cI .i64).enc x.Kind) := At.snd (At.snd (At.snd (At.fst)))
theorem ZeI (x : Zas) : At (ZaB.enc x) 14 (ZgX.enc x.Arp) := At.snd (At.snd (At.snd (At.snd (At.fst))))
theorem ZcN (x : Zas) : At (ZaB.enc x) 61 (ZeS.enc x.Ip4) := At.snd (At.snd (At.snd (At.snd (At.snd (At.fst)))))
theorem Zdn (x : Zas) : At (ZaB.enc x) 104 (Zfl.enc x.Ip6) := At.snd (At.snd (At.snd (At.snd (At.snd (At.snd (At.fst))))))
theorem ZeZ (x : Zas) : At (ZaB.enc x) 148 ((cI .i64).enc x.L4) := At.snd (At.snd (At.snd (At.snd (At.snd (At.snd (At.snd (At.fst)))))))
theorem Zit (x : Zas) : At (ZaB.enc x) 149 (Zhf.enc x.Icmp) := At.snd (At.snd (At.snd (At.snd (At.snd (At.snd (At.snd (At.snd (At.fst))))))))
theorem Zf5 (x : Zas) : At (ZaB.enc x) 154 (ZgV.enc x.Udp) := At.snd (At.snd (At.snd (At.snd (At.snd (At.snd (At.snd (At.snd (At.snd (At.fst)))))))))
theorem Zd2 (x : Zas) : At (ZaB.enc x) 158 (Zf1.enc x.Tcp) := At.snd (At.snd (At.snd (At.snd (At.snd (At.snd (At.snd (At.snd (At.snd (At.last)))))))))
structure Zby where
 set : Int
 clear : Int
 deriving DecidableEq
def Zgn : Zby := ⟨0, 0⟩
instance : Inhabited Zby := ⟨Zgn⟩
def Zbf : Cod Zby := ((cI .i64).pair (cI .i64)).iso (fun x => (x.set, x.clear)) (fun p => ⟨p.1, p.2⟩) (fun _ => rfl) (fun _ => rfl)
theorem ZeU (x : Zby) : At (Zbf.enc x) 0 ((cI .i64).enc x.set) := At.fst
theorem Zg3 (x : Zby) (y : Int) : Upd (Zbf.enc x) 0 ((cI .i64).enc y) (Zbf.enc (⟨y, x.clear⟩ : Zby)) := Upd.fst
theorem Zgm (x : Zby) : At (Zbf.enc x) 1 ((cI .i64).enc x.clear) := At.last
theorem Zgk (x : Zby) (y : Int) : Upd (Zbf.enc x) 1 ((cI .i64).enc y) (Zbf.enc (⟨x.set, y⟩ : Zby)) := Upd.last
structure Zdi where
 deriving DecidableEq
def ZcL : Zdi := ⟨⟩
instance : Inhabited Zdi := ⟨ZcL⟩
def ZbL : Cod Zdi := Cod.unit.iso (fun _ => ()) (fun _ => ⟨⟩) (fun _ => rfl) (fun _ => rfl)
structure Zeq where
 rules : Sl
 tests : Sl
 deriving DecidableEq
def ZhC : Zeq := ⟨Sl.nil, Sl.nil⟩
instance : Inhabited Zeq := ⟨ZhC⟩
def ZcE : Cod Zeq := (cL.pair cL).iso (fun x => (x.rules, x.tests)) (fun p => ⟨p.1, p.2⟩) (fun _ => rfl) (fun _ => rfl)
theorem ZdP (x : Zeq) : At (ZcE.enc x) 0 (cL.enc x.rules) := At.fst
theorem Zir (x : Zeq) (y : Sl) : Upd (ZcE.enc x) 0 (cL.enc y) (ZcE.enc (⟨y, x.tests⟩ : Zeq)) := Upd.fst
theorem ZdO (x : Zeq) : At (ZcE.enc x) 1 (cL.enc x.tests) := At.last
theorem Ziq (x : Zeq) (y : Sl) : Upd (ZcE.enc x) 1 (cL.enc y) (ZcE.enc (⟨x.rules, y⟩ : Zeq)) := Upd.last
structure ZaX where
 Act : Int
 Class : Int
 Rule : Int
 deriving DecidableEq
def Zdt : ZaX := ⟨0, 0, 0⟩
instance : Inhabited ZaX := ⟨Zdt⟩
def ZbC : Cod ZaX := ((cI .i64).pair ((cI .i64).pair (cI .i64))).iso (fun x => (x.Act, x.Class, x.Rule)) (fun p => ⟨p.1, p.2.1, p.2.2⟩) (fun _ => rfl) (fun _ => rfl)
theorem ZfG (x : ZaX) : At (ZbC.enc x) 0 ((cI .i64).enc x.Act) := At.fst
theorem Zev (x : ZaX) (y : Int) : Upd (ZbC.enc x) 0 ((cI .i64).enc y) (ZbC.enc (⟨y, x.Class, x.Rule⟩ : ZaX)) := Upd.fst
theorem Ze5 (x : ZaX) : At (ZbC.enc x) 1 ((cI .i64).enc x.Class) := At.snd (At.fst)
theorem Ze4 (x : ZaX) (y : Int) : Upd (ZbC.enc x) 1 ((cI .i64).enc y) (ZbC.enc (⟨x.Act, y, x.Rule⟩ : ZaX)) := Upd.snd (Upd.fst)
theorem ZdD (x : ZaX) : At (ZbC.enc x) 2 ((cI .i64).enc x.Rule) := At.snd (At.last)
theorem Zfo (x : ZaX) (y : Int) : Upd (ZbC.enc x) 2 ((cI .i64).enc y) (ZbC.enc (⟨x.Act, x.Class, y⟩ : ZaX)) := Upd.snd (Upd.last)
structure Zaz where
 s : ByteArray
 at_ : Int
 deriving DecidableEq
def Zcu : Zaz := ⟨ByteArray.empty, 0⟩
instance : Inhabited Zaz := ⟨Zcu⟩
def Zbc : Cod Zaz := (cS.pair (cI .i64)).iso (fun x => (x.s, x.at_)) (fun p => ⟨p.1, p.2⟩) (fun _ => rfl) (fun _ => rfl)
theorem Zbb (x : Zaz) : At (Zbc.enc x) 0 (cS.enc x.s) := At.fst
theorem Zg2 (x : Zaz) (y : ByteArray) : Upd (Zbc.enc x) 0 (cS.enc y) (Zbc.enc (⟨y, x.at_⟩ : Zaz)) := Upd.fst
theorem Zbs (x : Zaz) : At (Zbc.enc x) 1 ((cI .i64).enc x.at_) := At.last
theorem Zf3 (x : Zaz) (y : Int) : Upd (Zbc.enc x) 1 ((cI .i64).enc y) (Zbc.enc (⟨x.s, y⟩ : Zaz)) := Upd.last
structure ZbA where
 why : Int
 at_ : Int
 deriving DecidableEq
def ZiQ : ZbA := ⟨0, 0⟩
instance : Inhabited ZbA := ⟨ZiQ⟩
def Zbg : Cod ZbA := ((cI .i64).pair (cI .i64)).iso (fun x => (x.why, x.at_)) (fun p => ⟨p.1, p.2⟩) (fun _ => rfl) (fun _ => rfl)
theorem Zd3 (x : ZbA) : At (Zbg.enc x) 0 ((cI .i64).enc x.why) := At.fst
theorem Zbh (x : ZbA) (y : Int) : Upd (Zbg.enc x) 0 ((cI .i64).enc y) (Zbg.enc (⟨y, x.at_⟩ : ZbA)) := Upd.fst
theorem Zd4 (x : ZbA) : At (Zbg.enc x) 1 ((cI .i64).enc x.at_) := At.last
theorem Zbi (x : ZbA) (y : Int) : Upd (Zbg.enc x) 1 ((cI .i64).enc y) (Zbg.enc (⟨x.why, y⟩ : ZbA)) := Upd.last
structure Zdf where
 s : ByteArray
 at_ : Int
 groups : Sl
 gap : Int
 deriving DecidableEq
def Zg7 : Zdf := ⟨ByteArray.empty, 0, Sl.nil, 0⟩
instance : Inhabited Zdf := ⟨Zg7⟩
def Zcr : Cod Zdf := (cS.pair ((cI .i64).pair (cL.pair (cI .i64)))).iso (fun x => (x.s, x.at_, x.groups, x.gap)) (fun p => ⟨p.1, p.2.1, p.2.2.1, p.2.2.2⟩) (fun _ => rfl) (fun _ => rfl)
theorem Zcc (x : Zdf) : At (Zcr.enc x) 0 (cS.enc x.s) := At.fst
theorem ZlK (x : Zdf) (y : ByteArray) : Upd (Zcr.enc x) 0 (cS.enc y) (Zcr.enc (⟨y, x.at_, x.groups, x.gap⟩ : Zdf)) := Upd.fst
theorem Zcm (x : Zdf) : At (Zcr.enc x) 1 ((cI .i64).enc x.at_) := At.snd (At.fst)
theorem Zfq (x : Zdf) (y : Int) : Upd (Zcr.enc x) 1 ((cI .i64).enc y) (Zcr.enc (⟨x.s, y, x.groups, x.gap⟩ : Zdf)) := Upd.snd (Upd.fst)
theorem Zbk (x : Zdf) : At (Zcr.enc x) 2 (cL.enc x.groups) := At.snd (At.snd (At.fst))
theorem Zey (x : Zdf) (y : Sl) : Upd (Zcr.enc x) 2 (cL.enc y) (Zcr.enc (⟨x.s, x.at_, y, x.gap⟩ : Zdf)) := Upd.snd (Upd.snd (Upd.fst))
theorem ZcU (x : Zdf) : At (Zcr.enc x) 3 ((cI .i64).enc x.gap) := At.snd (At.snd (At.last))
theorem Zg5 (x : Zdf) (y : Int) : Upd (Zcr.enc x) 3 ((cI .i64).enc y) (Zcr.enc (⟨x.s, x.at_, x.groups, y⟩ : Zdf)) := Upd.snd (Upd.snd (Upd.last))
structure Zba where
 l : Sl
 i : Int
 end_ : Int
 rule : Zaf
 err : Int
 at_ : Int
 deriving DecidableEq
def ZdG : Zba := ⟨Sl.nil, 0, 0, Zaq, 0, 0⟩
instance : Inhabited Zba := ⟨ZdG⟩
def Za7 : Cod Zba := (cL.pair ((cI .i64).pair ((cI .i64).pair (Zai.pair ((cI .i64).pair (cI .i64)))))).iso (fun x => (x.l, x.i, x.end_, x.rule, x.err, x.at_)) (fun p => ⟨p.1, p.2.1, p.2.2.1, p.2.2.2.1, p.2.2.2.2.1, p.2.2.2.2.2⟩) (fun _ => rfl) (fun _ => rfl)
theorem Zb2 (x : Zba) : At (Za7.enc x) 0 (cL.enc x.l) := At.fst
theorem ZiN (x : Zba) (y : Sl) : Upd (Za7.enc x) 0 (cL.enc y) (Za7.enc (⟨y, x.i, x.end_, x.rule, x.err, x.at_⟩ : Zba)) := Upd.fst
theorem Zbj (x : Zba) : At (Za7.enc x) 1 ((cI .i64).enc x.i) := At.snd (At.fst)
theorem ZeF (x : Zba) (y : Int) : Upd (Za7.enc x) 1 ((cI .i64).enc y) (Za7.enc (⟨x.l, y, x.end_, x.rule, x.err, x.at_⟩ : Zba)) := Upd.snd (Upd.fst)
theorem Zhs (x : Zba) : At (Za7.enc x) 2 ((cI .i64).enc x.end_) := At.snd (At.snd (At.fst))
theorem Zhr (x : Zba) (y : Int) : Upd (Za7.enc x) 2 ((cI .i64).enc y) (Za7.enc (⟨x.l, x.i, y, x.rule, x.err, x.at_⟩ : Zba)) := Upd.snd (Upd.snd (Upd.fst))
theorem ZbD (x : Zba) : At (Za7.enc x) 3 (Zai.enc x.rule) := At.snd (At.snd (At.snd (At.fst)))
theorem Zdg (x : Zba) (y : Zaf) : Upd (Za7.enc x) 3 (Zai.enc y) (Za7.enc (⟨x.l, x.i, x.end_, y, x.err, x.at_⟩ : Zba)) := Upd.snd (Upd.snd (Upd.snd (Upd.fst)))
theorem ZdC (x : Zba) : At (Za7.enc x) 19 ((cI .i64).enc x.err) := At.snd (At.snd (At.snd (At.snd (At.fst))))
theorem ZhW (x : Zba) (y : Int) : Upd (Za7.enc x) 19 ((cI .i64).enc y) (Za7.enc (⟨x.l, x.i, x.end_, x.rule, y, x.at_⟩ : Zba)) := Upd.snd (Upd.snd (Upd.snd (Upd.snd (Upd.fst))))
theorem Zfr (x : Zba) : At (Za7.enc x) 20 ((cI .i64).enc x.at_) := At.snd (At.snd (At.snd (At.snd (At.last))))
theorem ZhX (x : Zba) (y : Int) : Upd (Za7.enc x) 20 ((cI .i64).enc y) (Za7.enc (⟨x.l, x.i, x.end_, x.rule, x.err, y⟩ : Zba)) := Upd.snd (Upd.snd (Upd.snd (Upd.snd (Upd.last))))
structure Zcj where
 addr : (Option Addr)
 buf : Sl
 deriving DecidableEq
def ZdW : Zcj := ⟨none, Sl.nil⟩
instance : Inhabited Zcj := ⟨ZdW⟩
def Zb1 : Cod Zcj := (cP.pair cL).iso (fun x => (x.addr, x.buf)) (fun p => ⟨p.1, p.2⟩) (fun _ => rfl) (fun _ => rfl)
theorem Zez (x : Zcj) : At (Zb1.enc x) 0 (cP.enc x.addr) := At.fst
theorem Zgj (x : Zcj) (y : (Option Addr)) : Upd (Zb1.enc x) 0 (cP.enc y) (Zb1.enc (⟨y, x.buf⟩ : Zcj)) := Upd.fst
theorem Zbl (x : Zcj) : At (Zb1.enc x) 1 (cL.enc x.buf) := At.last
theorem ZeA (x : Zcj) (y : Sl) : Upd (Zb1.enc x) 1 (cL.enc y) (Zb1.enc (⟨x.addr, y⟩ : Zcj)) := Upd.last
theorem Ty3 : Ty Tryz.prog 3 (cI .i64) 0 := ⟨by kernel_rfl, by kernel_rfl⟩
theorem Ty4 : Ty Tryz.prog 4 cB false := ⟨by kernel_rfl, by kernel_rfl⟩
theorem Ty5 : Ty Tryz.prog 5 (cI .u8) 0 := ⟨by kernel_rfl, by kernel_rfl⟩
theorem Ty9 : Ty Tryz.prog 9 cS ByteArray.empty := ⟨by kernel_rfl, by kernel_rfl⟩
theorem Ty22 : Ty Tryz.prog 22 cL Sl.nil := ⟨by kernel_rfl, by kernel_rfl⟩
theorem Ty25 : Ty Tryz.prog 25 cL Sl.nil := ⟨by kernel_rfl, by kernel_rfl⟩
theorem Ty26 : Ty Tryz.prog 26 ((cI .u8).arr 16) (Vec.rep 16 0) := ⟨by kernel_rfl, by kernel_rfl⟩
theorem Ty28 : Ty Tryz.prog 28 ZaW Zcb := ⟨by kernel_rfl, by kernel_rfl⟩
theorem Ty32 : Ty Tryz.prog 32 cL Sl.nil := ⟨by kernel_rfl, by kernel_rfl⟩
theorem Ty47 : Ty Tryz.prog 47 ZaB ZgA := ⟨by kernel_rfl, by kernel_rfl⟩
theorem Ty49 : Ty Tryz.prog 49 (cI .i64) 0 := ⟨by kernel_rfl, by kernel_rfl⟩
theorem Ty54 : Ty Tryz.prog 54 ZbC Zdt := ⟨by kernel_rfl, by kernel_rfl⟩
theorem Ty58 : Ty Tryz.prog 58 cL Sl.nil := ⟨by kernel_rfl, by kernel_rfl⟩
theorem Ty59 : Ty Tryz.prog 59 cL Sl.nil := ⟨by kernel_rfl, by kernel_rfl⟩
theorem Ty61 : Ty Tryz.prog 61 ZaA ZaM := ⟨by kernel_rfl, by kernel_rfl⟩
theorem Ty63 : Ty Tryz.prog 63 Zai Zaq := ⟨by kernel_rfl, by kernel_rfl⟩
theorem Ty66 : Ty Tryz.prog 66 cL Sl.nil := ⟨by kernel_rfl, by kernel_rfl⟩
theorem Ty68 : Ty Tryz.prog 68 ZcE ZhC := ⟨by kernel_rfl, by kernel_rfl⟩
theorem Ty71 : Ty Tryz.prog 71 cL Sl.nil := ⟨by kernel_rfl, by kernel_rfl⟩
theorem Ty74 : Ty Tryz.prog 74 cV ⟨.nilIface, rfl⟩ := ⟨by kernel_rfl, by kernel_rfl⟩
theorem Ty91 : Ty Tryz.prog 91 Zax Zbp := ⟨by kernel_rfl, by kernel_rfl⟩
theorem Ty93 : Ty Tryz.prog 93 ZaU Zfc := ⟨by kernel_rfl, by kernel_rfl⟩
theorem Ty94 : Ty Tryz.prog 94 cL Sl.nil := ⟨by kernel_rfl, by kernel_rfl⟩
theorem Ty99 : Ty Tryz.prog 99 Za7 ZdG := ⟨by kernel_rfl, by kernel_rfl⟩
theorem Zdq : Ty Tryz.prog 102 Zbc Zcu := ⟨by kernel_rfl, by kernel_rfl⟩
theorem Zth : Ty Tryz.prog 119 Zbf Zgn := ⟨by kernel_rfl, by kernel_rfl⟩
theorem Ztg : Ty Tryz.prog 122 ZbL ZcL := ⟨by kernel_rfl, by kernel_rfl⟩
theorem Zqe : Ty Tryz.prog 124 cL Sl.nil := ⟨by kernel_rfl, by kernel_rfl⟩
theorem Zsd : Ty Tryz.prog 155 cP none := ⟨by kernel_rfl, by kernel_rfl⟩
theorem Ztf : Ty Tryz.prog 157 Zb1 ZdW := ⟨by kernel_rfl, by kernel_rfl⟩
theorem ZsU : Ty Tryz.prog 177 ((cI .u8).arr 12) (Vec.rep 12 0) := ⟨by kernel_rfl, by kernel_rfl⟩
theorem ZiO : Ty Tryz.prog 182 cL Sl.nil := ⟨by kernel_rfl, by kernel_rfl⟩
theorem Zis : Ty Tryz.prog 191 Zbg ZiQ := ⟨by kernel_rfl, by kernel_rfl⟩
theorem Zgl : Ty Tryz.prog 201 ((cI .u8).arr 4) (Vec.rep 4 0) := ⟨by kernel_rfl, by kernel_rfl⟩
theorem Zte : Ty Tryz.prog 206 Zcr Zg7 := ⟨by kernel_rfl, by kernel_rfl⟩
theorem F6 : Fun Tryz.prog 6 Tryz.f6 := ⟨Tryz.func6, by kernel_rfl, by kernel_rfl⟩
theorem F7 : Fun Tryz.prog 7 Tryz.f7 := ⟨Tryz.func7, by kernel_rfl, by kernel_rfl⟩
theorem F8 : Fun Tryz.prog 8 Tryz.f8 := ⟨Tryz.func8, by kernel_rfl, by kernel_rfl⟩
theorem F9 : Fun Tryz.prog 9 Tryz.f9 := ⟨Tryz.func9, by kernel_rfl, by kernel_rfl⟩
theorem F10 : Fun Tryz.prog 10 Tryz.f10 := ⟨Tryz.func10, by kernel_rfl, by kernel_rfl⟩
theorem F11 : Fun Tryz.prog 11 Tryz.f11 := ⟨Tryz.func11, by kernel_rfl, by kernel_rfl⟩
theorem F12 : Fun Tryz.prog 12 Tryz.f12 := ⟨Tryz.func12, by kernel_rfl, by kernel_rfl⟩
theorem F13 : Fun Tryz.prog 13 Tryz.f13 := ⟨Tryz.func13, by kernel_rfl, by kernel_rfl⟩
theorem F14 : Fun Tryz.prog 14 Tryz.f14 := ⟨Tryz.func14, by kernel_rfl, by kernel_rfl⟩
theorem F15 : Fun Tryz.prog 15 Tryz.f15 := ⟨Tryz.func15, by kernel_rfl, by kernel_rfl⟩
theorem F16 : Fun Tryz.prog 16 Tryz.f16 := ⟨Tryz.func16, by kernel_rfl, by kernel_rfl⟩
theorem F17 : Fun Tryz.prog 17 Tryz.f17 := ⟨Tryz.func17, by kernel_rfl, by kernel_rfl⟩
theorem F18 : Fun Tryz.prog 18 Tryz.f18 := ⟨Tryz.func18, by kernel_rfl, by kernel_rfl⟩
theorem F19 : Fun Tryz.prog 19 Tryz.f19 := ⟨Tryz.func19, by kernel_rfl, by kernel_rfl⟩
theorem F20 : Fun Tryz.prog 20 Tryz.f20 := ⟨Tryz.func20, by kernel_rfl, by kernel_rfl⟩
theorem F21 : Fun Tryz.prog 21 Tryz.f21 := ⟨Tryz.func21, by kernel_rfl, by kernel_rfl⟩
theorem F22 : Fun Tryz.prog 22 Tryz.f22 := ⟨Tryz.func22, by kernel_rfl, by kernel_rfl⟩
theorem F23 : Fun Tryz.prog 23 Tryz.f23 := ⟨Tryz.func23, by kernel_rfl, by kernel_rfl⟩
theorem F24 : Fun Tryz.prog 24 Tryz.f24 := ⟨Tryz.func24, by kernel_rfl, by kernel_rfl⟩
theorem F25 : Fun Tryz.prog 25 Tryz.f25 := ⟨Tryz.func25, by kernel_rfl, by kernel_rfl⟩
theorem F26 : Fun Tryz.prog 26 Tryz.f26 := ⟨Tryz.func26, by kernel_rfl, by kernel_rfl⟩
theorem F27 : Fun Tryz.prog 27 Tryz.f27 := ⟨Tryz.func27, by kernel_rfl, by kernel_rfl⟩
theorem F28 : Fun Tryz.prog 28 Tryz.f28 := ⟨Tryz.func28, by kernel_rfl, by kernel_rfl⟩
theorem F29 : Fun Tryz.prog 29 Tryz.f29 := ⟨Tryz.func29, by kernel_rfl, by kernel_rfl⟩
theorem F30 : Fun Tryz.prog 30 Tryz.f30 := ⟨Tryz.func30, by kernel_rfl, by kernel_rfl⟩
theorem F31 : Fun Tryz.prog 31 Tryz.f31 := ⟨Tryz.func31, by kernel_rfl, by kernel_rfl⟩
theorem F32 : Fun Tryz.prog 32 Tryz.f32 := ⟨Tryz.func32, by kernel_rfl, by kernel_rfl⟩
theorem F33 : Fun Tryz.prog 33 Tryz.f33 := ⟨Tryz.func33, by kernel_rfl, by kernel_rfl⟩
theorem F34 : Fun Tryz.prog 34 Tryz.f34 := ⟨Tryz.func34, by kernel_rfl, by kernel_rfl⟩
theorem F35 : Fun Tryz.prog 35 Tryz.f35 := ⟨Tryz.func35, by kernel_rfl, by kernel_rfl⟩
theorem F36 : Fun Tryz.prog 36 Tryz.f36 := ⟨Tryz.func36, by kernel_rfl, by kernel_rfl⟩
theorem F37 : Fun Tryz.prog 37 Tryz.f37 := ⟨Tryz.func37, by kernel_rfl, by kernel_rfl⟩
theorem F38 : Fun Tryz.prog 38 Tryz.f38 := ⟨Tryz.func38, by kernel_rfl, by kernel_rfl⟩
theorem F39 : Fun Tryz.prog 39 Tryz.f39 := ⟨Tryz.func39, by kernel_rfl, by kernel_rfl⟩
theorem F40 : Fun Tryz.prog 40 Tryz.f40 := ⟨Tryz.func40, by kernel_rfl, by kernel_rfl⟩
theorem F41 : Fun Tryz.prog 41 Tryz.f41 := ⟨Tryz.func41, by kernel_rfl, by kernel_rfl⟩
theorem F42 : Fun Tryz.prog 42 Tryz.f42 := ⟨Tryz.func42, by kernel_rfl, by kernel_rfl⟩
theorem F43 : Fun Tryz.prog 43 Tryz.f43 := ⟨Tryz.func43, by kernel_rfl, by kernel_rfl⟩
theorem F44 : Fun Tryz.prog 44 Tryz.f44 := ⟨Tryz.func44, by kernel_rfl, by kernel_rfl⟩
theorem F45 : Fun Tryz.prog 45 Tryz.f45 := ⟨Tryz.func45, by kernel_rfl, by kernel_rfl⟩
theorem F46 : Fun Tryz.prog 46 Tryz.f46 := ⟨Tryz.func46, by kernel_rfl, by kernel_rfl⟩
theorem F47 : Fun Tryz.prog 47 Tryz.f47 := ⟨Tryz.func47, by kernel_rfl, by kernel_rfl⟩
theorem F48 : Fun Tryz.prog 48 Tryz.f48 := ⟨Tryz.func48, by kernel_rfl, by kernel_rfl⟩
theorem F49 : Fun Tryz.prog 49 Tryz.f49 := ⟨Tryz.func49, by kernel_rfl, by kernel_rfl⟩
theorem F50 : Fun Tryz.prog 50 Tryz.f50 := ⟨Tryz.func50, by kernel_rfl, by kernel_rfl⟩
theorem F51 : Fun Tryz.prog 51 Tryz.f51 := ⟨Tryz.func51, by kernel_rfl, by kernel_rfl⟩
theorem F52 : Fun Tryz.prog 52 Tryz.f52 := ⟨Tryz.func52, by kernel_rfl, by kernel_rfl⟩
theorem F53 : Fun Tryz.prog 53 Tryz.f53 := ⟨Tryz.func53, by kernel_rfl, by kernel_rfl⟩
theorem F54 : Fun Tryz.prog 54 Tryz.f54 := ⟨Tryz.func54, by kernel_rfl, by kernel_rfl⟩
theorem F55 : Fun Tryz.prog 55 Tryz.f55 := ⟨Tryz.func55, by kernel_rfl, by kernel_rfl⟩
theorem F56 : Fun Tryz.prog 56 Tryz.f56 := ⟨Tryz.func56, by kernel_rfl, by kernel_rfl⟩
theorem F57 : Fun Tryz.prog 57 Tryz.f57 := ⟨Tryz.func57, by kernel_rfl, by kernel_rfl⟩
theorem F58 : Fun Tryz.prog 58 Tryz.f58 := ⟨Tryz.func58, by kernel_rfl, by kernel_rfl⟩
theorem F59 : Fun Tryz.prog 59 Tryz.f59 := ⟨Tryz.func59, by kernel_rfl, by kernel_rfl⟩
theorem F60 : Fun Tryz.prog 60 Tryz.f60 := ⟨Tryz.func60, by kernel_rfl, by kernel_rfl⟩
theorem F61 : Fun Tryz.prog 61 Tryz.f61 := ⟨Tryz.func61, by kernel_rfl, by kernel_rfl⟩
theorem F62 : Fun Tryz.prog 62 Tryz.f62 := ⟨Tryz.func62, by kernel_rfl, by kernel_rfl⟩
theorem F63 : Fun Tryz.prog 63 Tryz.f63 := ⟨Tryz.func63, by kernel_rfl, by kernel_rfl⟩
theorem F64 : Fun Tryz.prog 64 Tryz.f64 := ⟨Tryz.func64, by kernel_rfl, by kernel_rfl⟩
theorem F65 : Fun Tryz.prog 65 Tryz.f65 := ⟨Tryz.func65, by kernel_rfl, by kernel_rfl⟩
theorem F66 : Fun Tryz.prog 66 Tryz.f66 := ⟨Tryz.func66, by kernel_rfl, by kernel_rfl⟩
theorem F67 : Fun Tryz.prog 67 Tryz.f67 := ⟨Tryz.func67, by kernel_rfl, by kernel_rfl⟩
theorem F68 : Fun Tryz.prog 68 Tryz.f68 := ⟨Tryz.func68, by kernel_rfl, by kernel_rfl⟩
theorem F69 : Fun Tryz.prog 69 Tryz.f69 := ⟨Tryz.func69, by kernel_rfl, by kernel_rfl⟩
theorem F70 : Fun Tryz.prog 70 Tryz.f70 := ⟨Tryz.func70, by kernel_rfl, by kernel_rfl⟩
theorem F71 : Fun Tryz.prog 71 Tryz.f71 := ⟨Tryz.func71, by kernel_rfl, by kernel_rfl⟩
theorem F72 : Fun Tryz.prog 72 Tryz.f72 := ⟨Tryz.func72, by kernel_rfl, by kernel_rfl⟩
theorem F73 : Fun Tryz.prog 73 Tryz.f73 := ⟨Tryz.func73, by kernel_rfl, by kernel_rfl⟩
theorem F74 : Fun Tryz.prog 74 Tryz.f74 := ⟨Tryz.func74, by kernel_rfl, by kernel_rfl⟩
theorem F75 : Fun Tryz.prog 75 Tryz.f75 := ⟨Tryz.func75, by kernel_rfl, by kernel_rfl⟩
theorem F76 : Fun Tryz.prog 76 Tryz.f76 := ⟨Tryz.func76, by kernel_rfl, by kernel_rfl⟩
theorem F77 : Fun Tryz.prog 77 Tryz.f77 := ⟨Tryz.func77, by kernel_rfl, by kernel_rfl⟩
theorem F78 : Fun Tryz.prog 78 Tryz.f78 := ⟨Tryz.func78, by kernel_rfl, by kernel_rfl⟩
theorem F79 : Fun Tryz.prog 79 Tryz.f79 := ⟨Tryz.func79, by kernel_rfl, by kernel_rfl⟩
theorem F80 : Fun Tryz.prog 80 Tryz.f80 := ⟨Tryz.func80, by kernel_rfl, by kernel_rfl⟩
theorem F81 : Fun Tryz.prog 81 Tryz.f81 := ⟨Tryz.func81, by kernel_rfl, by kernel_rfl⟩
theorem F82 : Fun Tryz.prog 82 Tryz.f82 := ⟨Tryz.func82, by kernel_rfl, by kernel_rfl⟩
theorem F83 : Fun Tryz.prog 83 Tryz.f83 := ⟨Tryz.func83, by kernel_rfl, by kernel_rfl⟩
theorem F84 : Fun Tryz.prog 84 Tryz.f84 := ⟨Tryz.func84, by kernel_rfl, by kernel_rfl⟩
theorem F85 : Fun Tryz.prog 85 Tryz.f85 := ⟨Tryz.func85, by kernel_rfl, by kernel_rfl⟩
theorem F86 : Fun Tryz.prog 86 Tryz.f86 := ⟨Tryz.func86, by kernel_rfl, by kernel_rfl⟩
theorem F87 : Fun Tryz.prog 87 Tryz.f87 := ⟨Tryz.func87, by kernel_rfl, by kernel_rfl⟩
theorem F90 : Fun Tryz.prog 90 Tryz.f90 := ⟨Tryz.func90, by kernel_rfl, by kernel_rfl⟩
theorem F91 : Fun Tryz.prog 91 Tryz.f91 := ⟨Tryz.func91, by kernel_rfl, by kernel_rfl⟩
theorem F92 : Fun Tryz.prog 92 Tryz.f92 := ⟨Tryz.func92, by kernel_rfl, by kernel_rfl⟩
theorem F93 : Fun Tryz.prog 93 Tryz.f93 := ⟨Tryz.func93, by kernel_rfl, by kernel_rfl⟩
theorem F94 : Fun Tryz.prog 94 Tryz.f94 := ⟨Tryz.func94, by kernel_rfl, by kernel_rfl⟩
theorem F95 : Fun Tryz.prog 95 Tryz.f95 := ⟨Tryz.func95, by kernel_rfl, by kernel_rfl⟩
theorem F96 : Fun Tryz.prog 96 Tryz.f96 := ⟨Tryz.func96, by kernel_rfl, by kernel_rfl⟩
theorem F103 : Fun Tryz.prog 103 Tryz.f103 := ⟨Tryz.func103, by kernel_rfl, by kernel_rfl⟩
theorem F104 : Fun Tryz.prog 104 Tryz.f104 := ⟨Tryz.func104, by kernel_rfl, by kernel_rfl⟩
theorem F105 : Fun Tryz.prog 105 Tryz.f105 := ⟨Tryz.func105, by kernel_rfl, by kernel_rfl⟩
theorem F106 : Fun Tryz.prog 106 Tryz.f106 := ⟨Tryz.func106, by kernel_rfl, by kernel_rfl⟩
theorem F107 : Fun Tryz.prog 107 Tryz.f107 := ⟨Tryz.func107, by kernel_rfl, by kernel_rfl⟩
theorem F108 : Fun Tryz.prog 108 Tryz.f108 := ⟨Tryz.func108, by kernel_rfl, by kernel_rfl⟩
theorem F109 : Fun Tryz.prog 109 Tryz.f109 := ⟨Tryz.func109, by kernel_rfl, by kernel_rfl⟩
theorem F115 : Fun Tryz.prog 115 Tryz.f115 := ⟨Tryz.func115, by kernel_rfl, by kernel_rfl⟩
theorem F116 : Fun Tryz.prog 116 Tryz.f116 := ⟨Tryz.func116, by kernel_rfl, by kernel_rfl⟩
theorem F117 : Fun Tryz.prog 117 Tryz.f117 := ⟨Tryz.func117, by kernel_rfl, by kernel_rfl⟩
theorem F118 : Fun Tryz.prog 118 Tryz.f118 := ⟨Tryz.func118, by kernel_rfl, by kernel_rfl⟩
theorem F124 : Fun Tryz.prog 124 Tryz.f124 := ⟨Tryz.func124, by kernel_rfl, by kernel_rfl⟩
theorem F125 : Fun Tryz.prog 125 Tryz.f125 := ⟨Tryz.func125, by kernel_rfl, by kernel_rfl⟩
theorem F126 : Fun Tryz.prog 126 Tryz.f126 := ⟨Tryz.func126, by kernel_rfl, by kernel_rfl⟩
theorem F146 : Fun Tryz.prog 146 Tryz.f146 := ⟨Tryz.func146, by kernel_rfl, by kernel_rfl⟩
theorem F147 : Fun Tryz.prog 147 Tryz.f147 := ⟨Tryz.func147, by kernel_rfl, by kernel_rfl⟩
theorem F148 : Fun Tryz.prog 148 Tryz.f148 := ⟨Tryz.func148, by kernel_rfl, by kernel_rfl⟩
theorem F149 : Fun Tryz.prog 149 Tryz.f149 := ⟨Tryz.func149, by kernel_rfl, by kernel_rfl⟩
theorem F150 : Fun Tryz.prog 150 Tryz.f150 := ⟨Tryz.func150, by kernel_rfl, by kernel_rfl⟩
theorem F151 : Fun Tryz.prog 151 Tryz.f151 := ⟨Tryz.func151, by kernel_rfl, by kernel_rfl⟩
theorem F152 : Fun Tryz.prog 152 Tryz.f152 := ⟨Tryz.func152, by kernel_rfl, by kernel_rfl⟩
theorem F153 : Fun Tryz.prog 153 Tryz.f153 := ⟨Tryz.func153, by kernel_rfl, by kernel_rfl⟩
def str0 : ByteArray := ⟨#[112, 101, 114, 109, 105, 116, 32, 116, 99, 112, 32, 102, 114, 111, 109, 32, 49, 48, 46, 48, 46, 48, 46, 48, 47, 56, 32, 116, 111, 32, 97, 110, 121, 32, 112, 111, 114, 116, 32, 56, 48]⟩
def str1 : ByteArray := ⟨#[44]⟩
def str2 : ByteArray := ⟨#[116, 99, 112]⟩
def str3 : ByteArray := ⟨#[117, 100, 112]⟩
def str4 : ByteArray := ⟨#[105, 99, 109, 112]⟩
def str5 : ByteArray := ⟨#[105, 99, 109, 112, 54]⟩
def str6 : ByteArray := ⟨#[112, 114, 111, 116, 111]⟩
def str7 : ByteArray := ⟨#[99, 108, 97, 115, 115]⟩
def str8 : ByteArray := ⟨#[97, 110, 121]⟩
def str9 : ByteArray := ⟨#[112]⟩
def Zo5 : ByteArray := ⟨#[58, 58]⟩
def Zs6 : ByteArray := ⟨#[58]⟩
def Zog : ByteArray := ⟨#[47]⟩
def ZrG : ByteArray := ⟨#[45]⟩
def Zsq : ByteArray := ⟨#[110, 111, 116]⟩
def Zsp : ByteArray := ⟨#[112, 111, 114, 116]⟩
def Zso : ByteArray := ⟨#[33]⟩
def ZrF : ByteArray := ⟨#[111, 110]⟩
def ZrE : ByteArray := ⟨#[118, 105, 100]⟩
def ZmS : ByteArray := ⟨#[102, 114, 111, 109]⟩
def Zo4 : ByteArray := ⟨#[116, 111]⟩
def ZmR : ByteArray := ⟨#[102, 108, 97, 103, 115]⟩
def ZmQ : ByteArray := ⟨#[116, 121, 112, 101]⟩
def ZrD : ByteArray := ⟨#[112, 105, 101, 99, 101, 115]⟩
def Zqx : ByteArray := ⟨#[48, 49, 50, 51, 52, 53, 54, 55, 56, 57, 97, 98, 99, 100, 101, 102, 103, 104, 105, 106, 107, 108, 109, 110, 111, 112, 113, 114, 115, 116, 117, 118, 119, 120, 121, 122]⟩
def Zqw : ByteArray := ⟨#[48, 48, 48, 49, 48, 50, 48, 51, 48, 52, 48, 53, 48, 54, 48, 55, 48, 56, 48, 57, 49, 48, 49, 49, 49, 50, 49, 51, 49, 52, 49, 53, 49, 54, 49, 55, 49, 56, 49, 57, 50, 48, 50, 49, 50, 50, 50, 51, 50, 52, 50, 53, 50, 54, 50, 55, 50, 56, 50, 57, 51, 48, 51, 49, 51, 50, 51, 51, 51, 52, 51, 53, 51, 54, 51, 55, 51, 56, 51, 57, 52, 48, 52, 49, 52, 50, 52, 51, 52, 52, 52, 53, 52, 54, 52, 55, 52, 56, 52, 57, 53, 48, 53, 49, 53, 50, 53, 51, 53, 52, 53, 53, 53, 54, 53, 55, 53, 56, 53, 57, 54, 48, 54, 49, 54, 50, 54, 51, 54, 52, 54, 53, 54, 54, 54, 55, 54, 56, 54, 57, 55, 48, 55, 49, 55, 50, 55, 51, 55, 52, 55, 53, 55, 54, 55, 55, 55, 56, 55, 57, 56, 48, 56, 49, 56, 50, 56, 51, 56, 52, 56, 53, 56, 54, 56, 55, 56, 56, 56, 57, 57, 48, 57, 49, 57, 50, 57, 51, 57, 52, 57, 53, 57, 54, 57, 55, 57, 56, 57, 57]⟩
def Zf8 : ByteArray := ⟨#[32]⟩
def Zsn : ByteArray := ⟨#[46]⟩
def Zqv : ByteArray := ⟨#[32, 112, 111, 114, 116, 32]⟩
theorem Eq5 : EqT Tryz.prog 5 1 (cI .u8) := EqT.int Tryz.underlying5
theorem Ztm : EqT Tryz.prog 177 2 ((cI .u8).arr 12) := EqT.arr Tryz.underlying177 Ty5 Eq5
theorem Eq26 : EqT Tryz.prog 26 2 ((cI .u8).arr 16) := EqT.arr Tryz.underlying26 Ty5 Eq5
theorem Eq9 : EqT Tryz.prog 9 1 cS := EqT.string Tryz.underlying9
theorem Ck9 : CkT Tryz.prog 9 1 cS := CkT.string Tryz.underlying9
theorem ZsZ : KeyT Tryz.prog 100 9 1 cS (cI .i64) 0 := ⟨NowK.string Tryz.underlying9, Eq9, Ck9, SbC.string, by decide, ⟨3, by kernel_rfl, Ty3⟩, ⟨_, Tryz.underlying9⟩⟩
theorem Eq3 : EqT Tryz.prog 3 1 (cI .i64) := EqT.int Tryz.underlying3
theorem Eq28 : EqT Tryz.prog 28 3 ZaW := EqT.struct (D := 2) Tryz.underlying28 (by kernel_rfl) rfl (fun d hd x y w => EqFs.congr (EqFs.cons rfl Ty3 (Zdb x) (Zdb y) Eq3 (by omega) (EqFs.cons rfl Ty26 (Zdc x) (Zdc y) Eq26 (by omega) EqFs.nil)) (by obtain ⟨⟩ := x; obtain ⟨⟩ := y; simp))
theorem Eq91 : EqT Tryz.prog 91 4 Zax := EqT.struct (D := 3) Tryz.underlying91 (by kernel_rfl) rfl (fun d hd x y w => EqFs.congr (EqFs.cons rfl Ty28 (ZbE x) (ZbE y) Eq28 (by omega) (EqFs.cons rfl Ty3 (Zb4 x) (Zb4 y) Eq3 (by omega) EqFs.nil)) (by obtain ⟨⟩ := x; obtain ⟨⟩ := y; simp))
theorem Eq93 : EqT Tryz.prog 93 2 ZaU := EqT.struct (D := 1) Tryz.underlying93 (by kernel_rfl) rfl (fun d hd x y w => EqFs.congr (EqFs.cons rfl Ty3 (ZcT x) (ZcT y) Eq3 (by omega) (EqFs.cons rfl Ty3 (Zdm x) (Zdm y) Eq3 (by omega) EqFs.nil)) (by obtain ⟨⟩ := x; obtain ⟨⟩ := y; simp))
theorem Eq54 : EqT Tryz.prog 54 2 ZbC := EqT.struct (D := 1) Tryz.underlying54 (by kernel_rfl) rfl (fun d hd x y w => EqFs.congr (EqFs.cons rfl Ty3 (ZfG x) (ZfG y) Eq3 (by omega) (EqFs.cons rfl Ty3 (Ze5 x) (Ze5 y) Eq3 (by omega) (EqFs.cons rfl Ty3 (ZdD x) (ZdD y) Eq3 (by omega) EqFs.nil))) (by obtain ⟨⟩ := x; obtain ⟨⟩ := y; simp))
theorem ZcW : Tryz.prog.follows .mixedOrders = true := by kernel_rfl
end Go.Proofs.YtjceipelgkdoaaaGreatDoor.Lx
