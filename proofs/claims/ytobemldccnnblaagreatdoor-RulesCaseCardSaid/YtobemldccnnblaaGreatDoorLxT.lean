/- The types of the translation that the programs use. -/
import Derived.Test.YtobemldccnnblaaGreatDoorProg
import Derived.Test.YtobemldccnnblaaGreatDoorLxNv
set_option linter.unusedVariables false
set_option linter.unusedSimpArgs false
set_option linter.unusedSectionVars false
namespace Go.Proofs.YtobemldccnnblaaGreatDoor.Lx
open Go Go.Proofs
structure Zaf where
 Not : Bool
 Nets : Sl
 Ports : Sl
 deriving DecidableEq
def Za3 : Zaf := ⟨false, Sl.nil, Sl.nil⟩
instance : Inhabited Zaf := ⟨Za3⟩
def ZaA : Cod Zaf := (cB.pair (cL.pair cL)).iso (fun x => (x.Not, x.Nets, x.Ports)) (fun p => ⟨p.1, p.2.1, p.2.2⟩) (fun _ => rfl) (fun _ => rfl)
theorem ZaL (x : Zaf) : At (ZaA.enc x) 0 (cB.enc x.Not) := At.fst
theorem Zm9 (x : Zaf) (y : Bool) : Upd (ZaA.enc x) 0 (cB.enc y) (ZaA.enc (⟨y, x.Nets, x.Ports⟩ : Zaf)) := Upd.fst
theorem Zaw (x : Zaf) : At (ZaA.enc x) 1 (cL.enc x.Nets) := At.snd (At.fst)
theorem ZeS (x : Zaf) (y : Sl) : Upd (ZaA.enc x) 1 (cL.enc y) (ZaA.enc (⟨x.Not, y, x.Ports⟩ : Zaf)) := Upd.snd (Upd.fst)
theorem ZaQ (x : Zaf) : At (ZaA.enc x) 2 (cL.enc x.Ports) := At.snd (At.last)
theorem Zes (x : Zaf) (y : Sl) : Upd (ZaA.enc x) 2 (cL.enc y) (ZaA.enc (⟨x.Not, x.Nets, y⟩ : Zaf)) := Upd.snd (Upd.last)
structure Zba where
 V : Int
 A : (Vec Int 16)
 deriving DecidableEq
def Zci : Zba := ⟨0, (Vec.rep 16 0)⟩
instance : Inhabited Zba := ⟨Zci⟩
def ZaG : Cod Zba := ((cI .i64).pair ((cI .u8).arr 16)).iso (fun x => (x.V, x.A)) (fun p => ⟨p.1, p.2⟩) (fun _ => rfl) (fun _ => rfl)
theorem ZcP (x : Zba) : At (ZaG.enc x) 0 ((cI .i64).enc x.V) := At.fst
theorem Zj9 (x : Zba) (y : Int) : Upd (ZaG.enc x) 0 ((cI .i64).enc y) (ZaG.enc (⟨y, x.A⟩ : Zba)) := Upd.fst
theorem ZdE (x : Zba) : At (ZaG.enc x) 1 (((cI .u8).arr 16).enc x.A) := At.last
theorem Zka (x : Zba) (y : (Vec Int 16)) : Upd (ZaG.enc x) 1 (((cI .u8).arr 16).enc y) (ZaG.enc (⟨x.V, y⟩ : Zba)) := Upd.last
structure Zad where
 IP : Zba
 Len : Int
 deriving DecidableEq
def ZbN : Zad := ⟨Zci, 0⟩
instance : Inhabited Zad := ⟨ZbN⟩
def Zav : Cod Zad := (ZaG.pair (cI .i64)).iso (fun x => (x.IP, x.Len)) (fun p => ⟨p.1, p.2⟩) (fun _ => rfl) (fun _ => rfl)
theorem Zbz (x : Zad) : At (Zav.enc x) 0 (ZaG.enc x.IP) := At.fst
theorem Zgz (x : Zad) (y : Zba) : Upd (Zav.enc x) 0 (ZaG.enc y) (Zav.enc (⟨y, x.Len⟩ : Zad)) := Upd.fst
theorem ZbS (x : Zad) : At (Zav.enc x) 17 ((cI .i64).enc x.Len) := At.last
theorem Zfq (x : Zad) (y : Int) : Upd (Zav.enc x) 17 ((cI .i64).enc y) (Zav.enc (⟨x.IP, y⟩ : Zad)) := Upd.last
structure ZaE where
 Lo : Int
 Hi : Int
 deriving DecidableEq
def Zgd : ZaE := ⟨0, 0⟩
instance : Inhabited ZaE := ⟨Zgd⟩
def Za5 : Cod ZaE := ((cI .i64).pair (cI .i64)).iso (fun x => (x.Lo, x.Hi)) (fun p => ⟨p.1, p.2⟩) (fun _ => rfl) (fun _ => rfl)
theorem Zdu (x : ZaE) : At (Za5.enc x) 0 ((cI .i64).enc x.Lo) := At.fst
theorem Zf2 (x : ZaE) (y : Int) : Upd (Za5.enc x) 0 ((cI .i64).enc y) (Za5.enc (⟨y, x.Hi⟩ : ZaE)) := Upd.fst
theorem ZdW (x : ZaE) : At (Za5.enc x) 1 ((cI .i64).enc x.Hi) := At.last
theorem Zf3 (x : ZaE) (y : Int) : Upd (Za5.enc x) 1 ((cI .i64).enc y) (Za5.enc (⟨x.Lo, y⟩ : ZaE)) := Upd.last
structure Zae where
 Act : Int
 Class : Int
 Kind : Int
 Proto : Int
 In : Int
 Vid : Int
 From : Zaf
 To : Zaf
 Set : Int
 Clear : Int
 Type_ : Int
 Pieces : Bool
 deriving DecidableEq
def ZaH : Zae := ⟨0, 0, 0, 0, 0, 0, Za3, Za3, 0, 0, 0, false⟩
instance : Inhabited Zae := ⟨ZaH⟩
def Zak : Cod Zae := ((cI .i64).pair ((cI .i64).pair ((cI .i64).pair ((cI .i64).pair ((cI .i64).pair ((cI .i64).pair (ZaA.pair (ZaA.pair ((cI .i64).pair ((cI .i64).pair ((cI .i64).pair cB))))))))))).iso (fun x => (x.Act, x.Class, x.Kind, x.Proto, x.In, x.Vid, x.From, x.To, x.Set, x.Clear, x.Type_, x.Pieces)) (fun p => ⟨p.1, p.2.1, p.2.2.1, p.2.2.2.1, p.2.2.2.2.1, p.2.2.2.2.2.1, p.2.2.2.2.2.2.1, p.2.2.2.2.2.2.2.1, p.2.2.2.2.2.2.2.2.1, p.2.2.2.2.2.2.2.2.2.1, p.2.2.2.2.2.2.2.2.2.2.1, p.2.2.2.2.2.2.2.2.2.2.2⟩) (fun _ => rfl) (fun _ => rfl)
theorem Zcq (x : Zae) : At (Zak.enc x) 0 ((cI .i64).enc x.Act) := At.fst
theorem Zfh (x : Zae) (y : Int) : Upd (Zak.enc x) 0 ((cI .i64).enc y) (Zak.enc (⟨y, x.Class, x.Kind, x.Proto, x.In, x.Vid, x.From, x.To, x.Set, x.Clear, x.Type_, x.Pieces⟩ : Zae)) := Upd.fst
theorem Zdj (x : Zae) : At (Zak.enc x) 1 ((cI .i64).enc x.Class) := At.snd (At.fst)
theorem ZhO (x : Zae) (y : Int) : Upd (Zak.enc x) 1 ((cI .i64).enc y) (Zak.enc (⟨x.Act, y, x.Kind, x.Proto, x.In, x.Vid, x.From, x.To, x.Set, x.Clear, x.Type_, x.Pieces⟩ : Zae)) := Upd.snd (Upd.fst)
theorem Zb7 (x : Zae) : At (Zak.enc x) 2 ((cI .i64).enc x.Kind) := At.snd (At.snd (At.fst))
theorem Zih (x : Zae) (y : Int) : Upd (Zak.enc x) 2 ((cI .i64).enc y) (Zak.enc (⟨x.Act, x.Class, y, x.Proto, x.In, x.Vid, x.From, x.To, x.Set, x.Clear, x.Type_, x.Pieces⟩ : Zae)) := Upd.snd (Upd.snd (Upd.fst))
theorem ZbE (x : Zae) : At (Zak.enc x) 3 ((cI .i64).enc x.Proto) := At.snd (At.snd (At.snd (At.fst)))
theorem Zfp (x : Zae) (y : Int) : Upd (Zak.enc x) 3 ((cI .i64).enc y) (Zak.enc (⟨x.Act, x.Class, x.Kind, y, x.In, x.Vid, x.From, x.To, x.Set, x.Clear, x.Type_, x.Pieces⟩ : Zae)) := Upd.snd (Upd.snd (Upd.snd (Upd.fst)))
theorem ZdM (x : Zae) : At (Zak.enc x) 4 ((cI .i64).enc x.In) := At.snd (At.snd (At.snd (At.snd (At.fst))))
theorem ZjD (x : Zae) (y : Int) : Upd (Zak.enc x) 4 ((cI .i64).enc y) (Zak.enc (⟨x.Act, x.Class, x.Kind, x.Proto, y, x.Vid, x.From, x.To, x.Set, x.Clear, x.Type_, x.Pieces⟩ : Zae)) := Upd.snd (Upd.snd (Upd.snd (Upd.snd (Upd.fst))))
theorem Zdt (x : Zae) : At (Zak.enc x) 5 ((cI .i64).enc x.Vid) := At.snd (At.snd (At.snd (At.snd (At.snd (At.fst)))))
theorem Zi1 (x : Zae) (y : Int) : Upd (Zak.enc x) 5 ((cI .i64).enc y) (Zak.enc (⟨x.Act, x.Class, x.Kind, x.Proto, x.In, y, x.From, x.To, x.Set, x.Clear, x.Type_, x.Pieces⟩ : Zae)) := Upd.snd (Upd.snd (Upd.snd (Upd.snd (Upd.snd (Upd.fst)))))
theorem ZbU (x : Zae) : At (Zak.enc x) 6 (ZaA.enc x.From) := At.snd (At.snd (At.snd (At.snd (At.snd (At.snd (At.fst))))))
theorem Zd1 (x : Zae) (y : Zaf) : Upd (Zak.enc x) 6 (ZaA.enc y) (Zak.enc (⟨x.Act, x.Class, x.Kind, x.Proto, x.In, x.Vid, y, x.To, x.Set, x.Clear, x.Type_, x.Pieces⟩ : Zae)) := Upd.snd (Upd.snd (Upd.snd (Upd.snd (Upd.snd (Upd.snd (Upd.fst))))))
theorem ZbW (x : Zae) : At (Zak.enc x) 9 (ZaA.enc x.To) := At.snd (At.snd (At.snd (At.snd (At.snd (At.snd (At.snd (At.fst)))))))
theorem ZeY (x : Zae) (y : Zaf) : Upd (Zak.enc x) 9 (ZaA.enc y) (Zak.enc (⟨x.Act, x.Class, x.Kind, x.Proto, x.In, x.Vid, x.From, y, x.Set, x.Clear, x.Type_, x.Pieces⟩ : Zae)) := Upd.snd (Upd.snd (Upd.snd (Upd.snd (Upd.snd (Upd.snd (Upd.snd (Upd.fst)))))))
theorem Zce (x : Zae) : At (Zak.enc x) 12 ((cI .i64).enc x.Set) := At.snd (At.snd (At.snd (At.snd (At.snd (At.snd (At.snd (At.snd (At.fst))))))))
theorem Zna (x : Zae) (y : Int) : Upd (Zak.enc x) 12 ((cI .i64).enc y) (Zak.enc (⟨x.Act, x.Class, x.Kind, x.Proto, x.In, x.Vid, x.From, x.To, y, x.Clear, x.Type_, x.Pieces⟩ : Zae)) := Upd.snd (Upd.snd (Upd.snd (Upd.snd (Upd.snd (Upd.snd (Upd.snd (Upd.snd (Upd.fst))))))))
theorem ZbY (x : Zae) : At (Zak.enc x) 13 ((cI .i64).enc x.Clear) := At.snd (At.snd (At.snd (At.snd (At.snd (At.snd (At.snd (At.snd (At.snd (At.fst)))))))))
theorem Zlh (x : Zae) (y : Int) : Upd (Zak.enc x) 13 ((cI .i64).enc y) (Zak.enc (⟨x.Act, x.Class, x.Kind, x.Proto, x.In, x.Vid, x.From, x.To, x.Set, y, x.Type_, x.Pieces⟩ : Zae)) := Upd.snd (Upd.snd (Upd.snd (Upd.snd (Upd.snd (Upd.snd (Upd.snd (Upd.snd (Upd.snd (Upd.fst)))))))))
theorem ZcA (x : Zae) : At (Zak.enc x) 14 ((cI .i64).enc x.Type_) := At.snd (At.snd (At.snd (At.snd (At.snd (At.snd (At.snd (At.snd (At.snd (At.snd (At.fst))))))))))
theorem ZhN (x : Zae) (y : Int) : Upd (Zak.enc x) 14 ((cI .i64).enc y) (Zak.enc (⟨x.Act, x.Class, x.Kind, x.Proto, x.In, x.Vid, x.From, x.To, x.Set, x.Clear, y, x.Pieces⟩ : Zae)) := Upd.snd (Upd.snd (Upd.snd (Upd.snd (Upd.snd (Upd.snd (Upd.snd (Upd.snd (Upd.snd (Upd.snd (Upd.fst))))))))))
theorem Zed (x : Zae) : At (Zak.enc x) 15 (cB.enc x.Pieces) := At.snd (At.snd (At.snd (At.snd (At.snd (At.snd (At.snd (At.snd (At.snd (At.snd (At.last))))))))))
theorem ZkJ (x : Zae) (y : Bool) : Upd (Zak.enc x) 15 (cB.enc y) (Zak.enc (⟨x.Act, x.Class, x.Kind, x.Proto, x.In, x.Vid, x.From, x.To, x.Set, x.Clear, x.Type_, y⟩ : Zae)) := Upd.snd (Upd.snd (Upd.snd (Upd.snd (Upd.snd (Upd.snd (Upd.snd (Upd.snd (Upd.snd (Upd.snd (Upd.last))))))))))
structure Zhu where
 Op : Int
 SMac : (Vec Int 6)
 SIP : Zba
 TMac : (Vec Int 6)
 TIP : Zba
 deriving DecidableEq
def Zmf : Zhu := ⟨0, (Vec.rep 6 0), Zci, (Vec.rep 6 0), Zci⟩
instance : Inhabited Zhu := ⟨Zmf⟩
def Zff : Cod Zhu := ((cI .i64).pair (((cI .u8).arr 6).pair (ZaG.pair (((cI .u8).arr 6).pair ZaG)))).iso (fun x => (x.Op, x.SMac, x.SIP, x.TMac, x.TIP)) (fun p => ⟨p.1, p.2.1, p.2.2.1, p.2.2.2.1, p.2.2.2.2⟩) (fun _ => rfl) (fun _ => rfl)
theorem ZkQ (x : Zhu) : At (Zff.enc x) 0 ((cI .i64).enc x.Op) := At.fst
theorem Zi8 (x : Zhu) : At (Zff.enc x) 1 (((cI .u8).arr 6).enc x.SMac) := At.snd (At.fst)
theorem Zgq (x : Zhu) : At (Zff.enc x) 7 (ZaG.enc x.SIP) := At.snd (At.snd (At.fst))
theorem Zi7 (x : Zhu) : At (Zff.enc x) 24 (((cI .u8).arr 6).enc x.TMac) := At.snd (At.snd (At.snd (At.fst)))
theorem Ze1 (x : Zhu) : At (Zff.enc x) 30 (ZaG.enc x.TIP) := At.snd (At.snd (At.snd (At.last)))
structure ZcX where
 Tos : Int
 ID : Int
 DF : Bool
 MF : Bool
 Off : Int
 TTL : Int
 Proto : Int
 Src : Zba
 Dst : Zba
 Opts : Sl
 Data : Sl
 deriving DecidableEq
def Zmd : ZcX := ⟨0, 0, false, false, 0, 0, 0, Zci, Zci, Sl.nil, Sl.nil⟩
instance : Inhabited ZcX := ⟨Zmd⟩
def Zck : Cod ZcX := ((cI .i64).pair ((cI .i64).pair (cB.pair (cB.pair ((cI .i64).pair ((cI .i64).pair ((cI .i64).pair (ZaG.pair (ZaG.pair (cL.pair cL)))))))))).iso (fun x => (x.Tos, x.ID, x.DF, x.MF, x.Off, x.TTL, x.Proto, x.Src, x.Dst, x.Opts, x.Data)) (fun p => ⟨p.1, p.2.1, p.2.2.1, p.2.2.2.1, p.2.2.2.2.1, p.2.2.2.2.2.1, p.2.2.2.2.2.2.1, p.2.2.2.2.2.2.2.1, p.2.2.2.2.2.2.2.2.1, p.2.2.2.2.2.2.2.2.2.1, p.2.2.2.2.2.2.2.2.2.2⟩) (fun _ => rfl) (fun _ => rfl)
theorem ZjM (x : ZcX) : At (Zck.enc x) 0 ((cI .i64).enc x.Tos) := At.fst
theorem ZkN (x : ZcX) : At (Zck.enc x) 1 ((cI .i64).enc x.ID) := At.snd (At.fst)
theorem ZkO (x : ZcX) : At (Zck.enc x) 2 (cB.enc x.DF) := At.snd (At.snd (At.fst))
theorem ZgO (x : ZcX) : At (Zck.enc x) 3 (cB.enc x.MF) := At.snd (At.snd (At.snd (At.fst)))
theorem Zgp (x : ZcX) : At (Zck.enc x) 4 ((cI .i64).enc x.Off) := At.snd (At.snd (At.snd (At.snd (At.fst))))
theorem ZjN (x : ZcX) : At (Zck.enc x) 5 ((cI .i64).enc x.TTL) := At.snd (At.snd (At.snd (At.snd (At.snd (At.fst)))))
theorem ZfG (x : ZcX) : At (Zck.enc x) 6 ((cI .i64).enc x.Proto) := At.snd (At.snd (At.snd (At.snd (At.snd (At.snd (At.fst))))))
theorem Zgo (x : ZcX) : At (Zck.enc x) 7 (ZaG.enc x.Src) := At.snd (At.snd (At.snd (At.snd (At.snd (At.snd (At.snd (At.fst)))))))
theorem Ze0 (x : ZcX) : At (Zck.enc x) 24 (ZaG.enc x.Dst) := At.snd (At.snd (At.snd (At.snd (At.snd (At.snd (At.snd (At.snd (At.fst))))))))
theorem Zg8 (x : ZcX) : At (Zck.enc x) 41 (cL.enc x.Opts) := At.snd (At.snd (At.snd (At.snd (At.snd (At.snd (At.snd (At.snd (At.snd (At.fst)))))))))
theorem Znf (x : ZcX) (y : Sl) : Upd (Zck.enc x) 41 (cL.enc y) (Zck.enc (⟨x.Tos, x.ID, x.DF, x.MF, x.Off, x.TTL, x.Proto, x.Src, x.Dst, y, x.Data⟩ : ZcX)) := Upd.snd (Upd.snd (Upd.snd (Upd.snd (Upd.snd (Upd.snd (Upd.snd (Upd.snd (Upd.snd (Upd.fst)))))))))
theorem ZdY (x : ZcX) : At (Zck.enc x) 42 (cL.enc x.Data) := At.snd (At.snd (At.snd (At.snd (At.snd (At.snd (At.snd (At.snd (At.snd (At.last)))))))))
theorem Zng (x : ZcX) (y : Sl) : Upd (Zck.enc x) 42 (cL.enc y) (Zck.enc (⟨x.Tos, x.ID, x.DF, x.MF, x.Off, x.TTL, x.Proto, x.Src, x.Dst, x.Opts, y⟩ : ZcX)) := Upd.snd (Upd.snd (Upd.snd (Upd.snd (Upd.snd (Upd.snd (Upd.snd (Upd.snd (Upd.snd (Upd.last)))))))))
structure ZgN where
 Has : Bool
 More : Bool
 ID : Int
 Off : Int
 deriving DecidableEq
def ZkS : ZgN := ⟨false, false, 0, 0⟩
instance : Inhabited ZgN := ⟨ZkS⟩
def ZeX : Cod ZgN := (cB.pair (cB.pair ((cI .i64).pair (cI .i64)))).iso (fun x => (x.Has, x.More, x.ID, x.Off)) (fun p => ⟨p.1, p.2.1, p.2.2.1, p.2.2.2⟩) (fun _ => rfl) (fun _ => rfl)
theorem Zf8 (x : ZgN) : At (ZeX.enc x) 0 (cB.enc x.Has) := At.fst
theorem Zir (x : ZgN) : At (ZeX.enc x) 1 (cB.enc x.More) := At.snd (At.fst)
theorem ZjO (x : ZgN) : At (ZeX.enc x) 2 ((cI .i64).enc x.ID) := At.snd (At.snd (At.fst))
theorem Zi6 (x : ZgN) : At (ZeX.enc x) 3 ((cI .i64).enc x.Off) := At.snd (At.snd (At.last))
structure ZcW where
 Class : Int
 Flow : Int
 Hop : Int
 Src : Zba
 Dst : Zba
 Exts : Sl
 Frag : ZgN
 Next : Int
 Data : Sl
 deriving DecidableEq
def Zmc : ZcW := ⟨0, 0, 0, Zci, Zci, Sl.nil, ZkS, 0, Sl.nil⟩
instance : Inhabited ZcW := ⟨Zmc⟩
def Zcd : Cod ZcW := ((cI .i64).pair ((cI .i64).pair ((cI .i64).pair (ZaG.pair (ZaG.pair (cL.pair (ZeX.pair ((cI .i64).pair cL)))))))).iso (fun x => (x.Class, x.Flow, x.Hop, x.Src, x.Dst, x.Exts, x.Frag, x.Next, x.Data)) (fun p => ⟨p.1, p.2.1, p.2.2.1, p.2.2.2.1, p.2.2.2.2.1, p.2.2.2.2.2.1, p.2.2.2.2.2.2.1, p.2.2.2.2.2.2.2.1, p.2.2.2.2.2.2.2.2⟩) (fun _ => rfl) (fun _ => rfl)
theorem Zim (x : ZcW) : At (Zcd.enc x) 0 ((cI .i64).enc x.Class) := At.fst
theorem Zi5 (x : ZcW) : At (Zcd.enc x) 1 ((cI .i64).enc x.Flow) := At.snd (At.fst)
theorem ZjL (x : ZcW) : At (Zcd.enc x) 2 ((cI .i64).enc x.Hop) := At.snd (At.snd (At.fst))
theorem Zgn (x : ZcW) : At (Zcd.enc x) 3 (ZaG.enc x.Src) := At.snd (At.snd (At.snd (At.fst)))
theorem ZeZ (x : ZcW) : At (Zcd.enc x) 20 (ZaG.enc x.Dst) := At.snd (At.snd (At.snd (At.snd (At.fst))))
theorem Zfj (x : ZcW) : At (Zcd.enc x) 37 (cL.enc x.Exts) := At.snd (At.snd (At.snd (At.snd (At.snd (At.fst)))))
theorem Znd (x : ZcW) (y : Sl) : Upd (Zcd.enc x) 37 (cL.enc y) (Zcd.enc (⟨x.Class, x.Flow, x.Hop, x.Src, x.Dst, y, x.Frag, x.Next, x.Data⟩ : ZcW)) := Upd.snd (Upd.snd (Upd.snd (Upd.snd (Upd.snd (Upd.fst)))))
theorem Zf7 (x : ZcW) : At (Zcd.enc x) 38 (ZeX.enc x.Frag) := At.snd (At.snd (At.snd (At.snd (At.snd (At.snd (At.fst))))))
theorem Zf6 (x : ZcW) : At (Zcd.enc x) 42 ((cI .i64).enc x.Next) := At.snd (At.snd (At.snd (At.snd (At.snd (At.snd (At.snd (At.fst)))))))
theorem ZdX (x : ZcW) : At (Zcd.enc x) 43 (cL.enc x.Data) := At.snd (At.snd (At.snd (At.snd (At.snd (At.snd (At.snd (At.last)))))))
theorem Zne (x : ZcW) (y : Sl) : Upd (Zcd.enc x) 43 (cL.enc y) (Zcd.enc (⟨x.Class, x.Flow, x.Hop, x.Src, x.Dst, x.Exts, x.Frag, x.Next, y⟩ : ZcW)) := Upd.snd (Upd.snd (Upd.snd (Upd.snd (Upd.snd (Upd.snd (Upd.snd (Upd.last)))))))
structure Zcy where
 V : Int
 Type_ : Int
 Code : Int
 Rest : Int
 Data : Sl
 deriving DecidableEq
def ZkR : Zcy := ⟨0, 0, 0, 0, Sl.nil⟩
instance : Inhabited Zcy := ⟨ZkR⟩
def ZcJ : Cod Zcy := ((cI .i64).pair ((cI .i64).pair ((cI .i64).pair ((cI .i64).pair cL)))).iso (fun x => (x.V, x.Type_, x.Code, x.Rest, x.Data)) (fun p => ⟨p.1, p.2.1, p.2.2.1, p.2.2.2.1, p.2.2.2.2⟩) (fun _ => rfl) (fun _ => rfl)
theorem ZkP (x : Zcy) : At (ZcJ.enc x) 0 ((cI .i64).enc x.V) := At.fst
theorem Zfs (x : Zcy) : At (ZcJ.enc x) 1 ((cI .i64).enc x.Type_) := At.snd (At.fst)
theorem Zio (x : Zcy) : At (ZcJ.enc x) 2 ((cI .i64).enc x.Code) := At.snd (At.snd (At.fst))
theorem Zin (x : Zcy) : At (ZcJ.enc x) 3 ((cI .i64).enc x.Rest) := At.snd (At.snd (At.snd (At.fst)))
theorem Zd2 (x : Zcy) : At (ZcJ.enc x) 4 (cL.enc x.Data) := At.snd (At.snd (At.snd (At.last)))
theorem ZlX (x : Zcy) (y : Sl) : Upd (ZcJ.enc x) 4 (cL.enc y) (ZcJ.enc (⟨x.V, x.Type_, x.Code, x.Rest, y⟩ : Zcy)) := Upd.snd (Upd.snd (Upd.snd (Upd.last)))
structure Zer where
 Sport : Int
 Dport : Int
 NoSum : Bool
 Data : Sl
 deriving DecidableEq
def Zl8 : Zer := ⟨0, 0, false, Sl.nil⟩
instance : Inhabited Zer := ⟨Zl8⟩
def ZdV : Cod Zer := ((cI .i64).pair ((cI .i64).pair (cB.pair cL))).iso (fun x => (x.Sport, x.Dport, x.NoSum, x.Data)) (fun p => ⟨p.1, p.2.1, p.2.2.1, p.2.2.2⟩) (fun _ => rfl) (fun _ => rfl)
theorem ZfC (x : Zer) : At (ZdV.enc x) 0 ((cI .i64).enc x.Sport) := At.fst
theorem ZfD (x : Zer) : At (ZdV.enc x) 1 ((cI .i64).enc x.Dport) := At.snd (At.fst)
theorem Zil (x : Zer) : At (ZdV.enc x) 2 (cB.enc x.NoSum) := At.snd (At.snd (At.fst))
theorem Zg5 (x : Zer) : At (ZdV.enc x) 3 (cL.enc x.Data) := At.snd (At.snd (At.last))
theorem Zm6 (x : Zer) (y : Sl) : Upd (ZdV.enc x) 3 (cL.enc y) (ZdV.enc (⟨x.Sport, x.Dport, x.NoSum, y⟩ : Zer)) := Upd.snd (Upd.snd (Upd.last))
structure Zdd where
 Sport : Int
 Dport : Int
 Seq : Int
 Ack : Int
 Flags : Int
 Win : Int
 Urg : Int
 Opts : Sl
 Data : Sl
 deriving DecidableEq
def Zl9 : Zdd := ⟨0, 0, 0, 0, 0, 0, 0, Sl.nil, Sl.nil⟩
instance : Inhabited Zdd := ⟨Zl9⟩
def ZcB : Cod Zdd := ((cI .i64).pair ((cI .i64).pair ((cI .i64).pair ((cI .i64).pair ((cI .i64).pair ((cI .i64).pair ((cI .i64).pair (cL.pair cL)))))))).iso (fun x => (x.Sport, x.Dport, x.Seq, x.Ack, x.Flags, x.Win, x.Urg, x.Opts, x.Data)) (fun p => ⟨p.1, p.2.1, p.2.2.1, p.2.2.2.1, p.2.2.2.2.1, p.2.2.2.2.2.1, p.2.2.2.2.2.2.1, p.2.2.2.2.2.2.2.1, p.2.2.2.2.2.2.2.2⟩) (fun _ => rfl) (fun _ => rfl)
theorem ZfE (x : Zdd) : At (ZcB.enc x) 0 ((cI .i64).enc x.Sport) := At.fst
theorem ZfF (x : Zdd) : At (ZcB.enc x) 1 ((cI .i64).enc x.Dport) := At.snd (At.fst)
theorem ZjH (x : Zdd) : At (ZcB.enc x) 2 ((cI .i64).enc x.Seq) := At.snd (At.snd (At.fst))
theorem ZjI (x : Zdd) : At (ZcB.enc x) 3 ((cI .i64).enc x.Ack) := At.snd (At.snd (At.snd (At.fst)))
theorem ZeU (x : Zdd) : At (ZcB.enc x) 4 ((cI .i64).enc x.Flags) := At.snd (At.snd (At.snd (At.snd (At.fst))))
theorem ZjF (x : Zdd) : At (ZcB.enc x) 5 ((cI .i64).enc x.Win) := At.snd (At.snd (At.snd (At.snd (At.snd (At.fst)))))
theorem ZjG (x : Zdd) : At (ZcB.enc x) 6 ((cI .i64).enc x.Urg) := At.snd (At.snd (At.snd (At.snd (At.snd (At.snd (At.fst))))))
theorem Zg6 (x : Zdd) : At (ZcB.enc x) 7 (cL.enc x.Opts) := At.snd (At.snd (At.snd (At.snd (At.snd (At.snd (At.snd (At.fst)))))))
theorem Zm7 (x : Zdd) (y : Sl) : Upd (ZcB.enc x) 7 (cL.enc y) (ZcB.enc (⟨x.Sport, x.Dport, x.Seq, x.Ack, x.Flags, x.Win, x.Urg, y, x.Data⟩ : Zdd)) := Upd.snd (Upd.snd (Upd.snd (Upd.snd (Upd.snd (Upd.snd (Upd.snd (Upd.fst)))))))
theorem Zg7 (x : Zdd) : At (ZcB.enc x) 8 (cL.enc x.Data) := At.snd (At.snd (At.snd (At.snd (At.snd (At.snd (At.snd (At.last)))))))
theorem Zm8 (x : Zdd) (y : Sl) : Upd (ZcB.enc x) 8 (cL.enc y) (ZcB.enc (⟨x.Sport, x.Dport, x.Seq, x.Ack, x.Flags, x.Win, x.Urg, x.Opts, y⟩ : Zdd)) := Upd.snd (Upd.snd (Upd.snd (Upd.snd (Upd.snd (Upd.snd (Upd.snd (Upd.last)))))))
structure Zac where
 Dst : (Vec Int 6)
 Src : (Vec Int 6)
 Tags : Sl
 Kind : Int
 Arp : Zhu
 Ip4 : ZcX
 Ip6 : ZcW
 L4 : Int
 Icmp : Zcy
 Udp : Zer
 Tcp : Zdd
 deriving DecidableEq
def Ziy : Zac := ⟨(Vec.rep 6 0), (Vec.rep 6 0), Sl.nil, 0, Zmf, Zmd, Zmc, 0, ZkR, Zl8, Zl9⟩
instance : Inhabited Zac := ⟨Ziy⟩
def Zag : Cod Zac := (((cI .u8).arr 6).pair (((cI .u8).arr 6).pair (cL.pair ((cI .i64).pair (Zff.pair (Zck.pair (Zcd.pair ((cI .i64).pair (ZcJ.pair (ZdV.pair ZcB)))))))))).iso (fun x => (x.Dst, x.Src, x.Tags, x.Kind, x.Arp, x.Ip4, x.Ip6, x.L4, x.Icmp, x.Udp, x.Tcp)) (fun p => ⟨p.1, p.2.1, p.2.2.1, p.2.2.2.1, p.2.2.2.2.1, p.2.2.2.2.2.1, p.2.2.2.2.2.2.1, p.2.2.2.2.2.2.2.1, p.2.2.2.2.2.2.2.2.1, p.2.2.2.2.2.2.2.2.2.1, p.2.2.2.2.2.2.2.2.2.2⟩) (fun _ => rfl) (fun _ => rfl)
theorem ZhT (x : Zac) : At (Zag.enc x) 0 (((cI .u8).arr 6).enc x.Dst) := At.fst
theorem ZhS (x : Zac) : At (Zag.enc x) 6 (((cI .u8).arr 6).enc x.Src) := At.snd (At.fst)
theorem Zcl (x : Zac) : At (Zag.enc x) 12 (cL.enc x.Tags) := At.snd (At.snd (At.fst))
theorem ZkK (x : Zac) (y : Sl) : Upd (Zag.enc x) 12 (cL.enc y) (Zag.enc (⟨x.Dst, x.Src, y, x.Kind, x.Arp, x.Ip4, x.Ip6, x.L4, x.Icmp, x.Udp, x.Tcp⟩ : Zac)) := Upd.snd (Upd.snd (Upd.fst))
theorem ZbC (x : Zac) : At (Zag.enc x) 13 ((cI .i64).enc x.Kind) := At.snd (At.snd (At.snd (At.fst)))
theorem ZcV (x : Zac) : At (Zag.enc x) 14 (Zff.enc x.Arp) := At.snd (At.snd (At.snd (At.snd (At.fst))))
theorem Za4 (x : Zac) : At (Zag.enc x) 61 (Zck.enc x.Ip4) := At.snd (At.snd (At.snd (At.snd (At.snd (At.fst)))))
theorem ZhQ (x : Zac) (y : ZcX) : Upd (Zag.enc x) 61 (Zck.enc y) (Zag.enc (⟨x.Dst, x.Src, x.Tags, x.Kind, x.Arp, y, x.Ip6, x.L4, x.Icmp, x.Udp, x.Tcp⟩ : Zac)) := Upd.snd (Upd.snd (Upd.snd (Upd.snd (Upd.snd (Upd.fst)))))
theorem Zbh (x : Zac) : At (Zag.enc x) 104 (Zcd.enc x.Ip6) := At.snd (At.snd (At.snd (At.snd (At.snd (At.snd (At.fst))))))
theorem Zlj (x : Zac) (y : ZcW) : Upd (Zag.enc x) 104 (Zcd.enc y) (Zag.enc (⟨x.Dst, x.Src, x.Tags, x.Kind, x.Arp, x.Ip4, y, x.L4, x.Icmp, x.Udp, x.Tcp⟩ : Zac)) := Upd.snd (Upd.snd (Upd.snd (Upd.snd (Upd.snd (Upd.snd (Upd.fst))))))
theorem Zdb (x : Zac) : At (Zag.enc x) 148 ((cI .i64).enc x.L4) := At.snd (At.snd (At.snd (At.snd (At.snd (At.snd (At.snd (At.fst)))))))
theorem Zdv (x : Zac) : At (Zag.enc x) 149 (ZcJ.enc x.Icmp) := At.snd (At.snd (At.snd (At.snd (At.snd (At.snd (At.snd (At.snd (At.fst))))))))
theorem ZkL (x : Zac) (y : Zcy) : Upd (Zag.enc x) 149 (ZcJ.enc y) (Zag.enc (⟨x.Dst, x.Src, x.Tags, x.Kind, x.Arp, x.Ip4, x.Ip6, x.L4, y, x.Udp, x.Tcp⟩ : Zac)) := Upd.snd (Upd.snd (Upd.snd (Upd.snd (Upd.snd (Upd.snd (Upd.snd (Upd.snd (Upd.fst))))))))
theorem ZcU (x : Zac) : At (Zag.enc x) 154 (ZdV.enc x.Udp) := At.snd (At.snd (At.snd (At.snd (At.snd (At.snd (At.snd (At.snd (At.snd (At.fst)))))))))
theorem Zli (x : Zac) (y : Zer) : Upd (Zag.enc x) 154 (ZdV.enc y) (Zag.enc (⟨x.Dst, x.Src, x.Tags, x.Kind, x.Arp, x.Ip4, x.Ip6, x.L4, x.Icmp, y, x.Tcp⟩ : Zac)) := Upd.snd (Upd.snd (Upd.snd (Upd.snd (Upd.snd (Upd.snd (Upd.snd (Upd.snd (Upd.snd (Upd.fst)))))))))
theorem ZbT (x : Zac) : At (Zag.enc x) 158 (ZcB.enc x.Tcp) := At.snd (At.snd (At.snd (At.snd (At.snd (At.snd (At.snd (At.snd (At.snd (At.last)))))))))
theorem ZhP (x : Zac) (y : Zdd) : Upd (Zag.enc x) 158 (ZcB.enc y) (Zag.enc (⟨x.Dst, x.Src, x.Tags, x.Kind, x.Arp, x.Ip4, x.Ip6, x.L4, x.Icmp, x.Udp, y⟩ : Zac)) := Upd.snd (Upd.snd (Upd.snd (Upd.snd (Upd.snd (Upd.snd (Upd.snd (Upd.snd (Upd.snd (Upd.last)))))))))
structure Zb3 where
 set : Int
 clear : Int
 deriving DecidableEq
def Zib : Zb3 := ⟨0, 0⟩
instance : Inhabited Zb3 := ⟨Zib⟩
def ZbF : Cod Zb3 := ((cI .i64).pair (cI .i64)).iso (fun x => (x.set, x.clear)) (fun p => ⟨p.1, p.2⟩) (fun _ => rfl) (fun _ => rfl)
theorem Zgv (x : Zb3) : At (ZbF.enc x) 0 ((cI .i64).enc x.set) := At.fst
theorem Zi0 (x : Zb3) (y : Int) : Upd (ZbF.enc x) 0 ((cI .i64).enc y) (ZbF.enc (⟨y, x.clear⟩ : Zb3)) := Upd.fst
theorem Zia (x : Zb3) : At (ZbF.enc x) 1 ((cI .i64).enc x.clear) := At.last
theorem Zh8 (x : Zb3) (y : Int) : Upd (ZbF.enc x) 1 ((cI .i64).enc y) (ZbF.enc (⟨x.set, y⟩ : Zb3)) := Upd.last
structure Zep where
 deriving DecidableEq
def ZdN : Zep := ⟨⟩
instance : Inhabited Zep := ⟨ZdN⟩
def Zcf : Cod Zep := Cod.unit.iso (fun _ => ()) (fun _ => ⟨⟩) (fun _ => rfl) (fun _ => rfl)
structure ZfW where
 rules : Sl
 tests : Sl
 deriving DecidableEq
def ZjP : ZfW := ⟨Sl.nil, Sl.nil⟩
instance : Inhabited ZfW := ⟨ZjP⟩
def ZdB : Cod ZfW := (cL.pair cL).iso (fun x => (x.rules, x.tests)) (fun p => ⟨p.1, p.2⟩) (fun _ => rfl) (fun _ => rfl)
theorem Ze9 (x : ZfW) : At (ZdB.enc x) 0 (cL.enc x.rules) := At.fst
theorem ZkI (x : ZfW) (y : Sl) : Upd (ZdB.enc x) 0 (cL.enc y) (ZdB.enc (⟨y, x.tests⟩ : ZfW)) := Upd.fst
theorem Ze8 (x : ZfW) : At (ZdB.enc x) 1 (cL.enc x.tests) := At.last
theorem ZkH (x : ZfW) (y : Sl) : Upd (ZdB.enc x) 1 (cL.enc y) (ZdB.enc (⟨x.rules, y⟩ : ZfW)) := Upd.last
structure ZaD where
 s : ByteArray
 at_ : Int
 deriving DecidableEq
def Zdm : ZaD := ⟨ByteArray.empty, 0⟩
instance : Inhabited ZaD := ⟨Zdm⟩
def Zbw : Cod ZaD := (cS.pair (cI .i64)).iso (fun x => (x.s, x.at_)) (fun p => ⟨p.1, p.2⟩) (fun _ => rfl) (fun _ => rfl)
theorem Zbt (x : ZaD) : At (Zbw.enc x) 0 (cS.enc x.s) := At.fst
theorem ZiZ (x : ZaD) (y : ByteArray) : Upd (Zbw.enc x) 0 (cS.enc y) (Zbw.enc (⟨y, x.at_⟩ : ZaD)) := Upd.fst
theorem ZbR (x : ZaD) : At (Zbw.enc x) 1 ((cI .i64).enc x.at_) := At.last
theorem ZhM (x : ZaD) (y : Int) : Upd (Zbw.enc x) 1 ((cI .i64).enc y) (Zbw.enc (⟨x.s, y⟩ : ZaD)) := Upd.last
structure Zb5 where
 why : Int
 at_ : Int
 deriving DecidableEq
def Zlk : Zb5 := ⟨0, 0⟩
instance : Inhabited Zb5 := ⟨Zlk⟩
def ZbG : Cod Zb5 := ((cI .i64).pair (cI .i64)).iso (fun x => (x.why, x.at_)) (fun p => ⟨p.1, p.2⟩) (fun _ => rfl) (fun _ => rfl)
theorem Zft (x : Zb5) : At (ZbG.enc x) 0 ((cI .i64).enc x.why) := At.fst
theorem ZbH (x : Zb5) (y : Int) : Upd (ZbG.enc x) 0 ((cI .i64).enc y) (ZbG.enc (⟨y, x.at_⟩ : Zb5)) := Upd.fst
theorem Zfu (x : Zb5) : At (ZbG.enc x) 1 ((cI .i64).enc x.at_) := At.last
theorem ZbI (x : Zb5) (y : Int) : Upd (ZbG.enc x) 1 ((cI .i64).enc y) (ZbG.enc (⟨x.why, y⟩ : Zb5)) := Upd.last
structure Zem where
 s : ByteArray
 at_ : Int
 groups : Sl
 gap : Int
 deriving DecidableEq
def Zi9 : Zem := ⟨ByteArray.empty, 0, Sl.nil, 0⟩
instance : Inhabited Zem := ⟨Zi9⟩
def Zdi : Cod Zem := (cS.pair ((cI .i64).pair (cL.pair (cI .i64)))).iso (fun x => (x.s, x.at_, x.groups, x.gap)) (fun p => ⟨p.1, p.2.1, p.2.2.1, p.2.2.2⟩) (fun _ => rfl) (fun _ => rfl)
theorem ZcM (x : Zem) : At (Zdi.enc x) 0 (cS.enc x.s) := At.fst
theorem ZoB (x : Zem) (y : ByteArray) : Upd (Zdi.enc x) 0 (cS.enc y) (Zdi.enc (⟨y, x.at_, x.groups, x.gap⟩ : Zem)) := Upd.fst
theorem Zc7 (x : Zem) : At (Zdi.enc x) 1 ((cI .i64).enc x.at_) := At.snd (At.fst)
theorem Zg2 (x : Zem) (y : Int) : Upd (Zdi.enc x) 1 ((cI .i64).enc y) (Zdi.enc (⟨x.s, y, x.groups, x.gap⟩ : Zem)) := Upd.snd (Upd.fst)
theorem ZbK (x : Zem) : At (Zdi.enc x) 2 (cL.enc x.groups) := At.snd (At.snd (At.fst))
theorem Zf4 (x : Zem) (y : Sl) : Upd (Zdi.enc x) 2 (cL.enc y) (Zdi.enc (⟨x.s, x.at_, y, x.gap⟩ : Zem)) := Upd.snd (Upd.snd (Upd.fst))
theorem ZdZ (x : Zem) : At (Zdi.enc x) 3 ((cI .i64).enc x.gap) := At.snd (At.snd (At.last))
theorem Zi3 (x : Zem) (y : Int) : Upd (Zdi.enc x) 3 ((cI .i64).enc y) (Zdi.enc (⟨x.s, x.at_, x.groups, y⟩ : Zem)) := Upd.snd (Upd.snd (Upd.last))
structure Zbs where
 l : Sl
 i : Int
 end_ : Int
 rule : Zae
 err : Int
 at_ : Int
 deriving DecidableEq
def ZeV : Zbs := ⟨Sl.nil, 0, 0, ZaH, 0, 0⟩
instance : Inhabited Zbs := ⟨ZeV⟩
def Zbp : Cod Zbs := (cL.pair ((cI .i64).pair ((cI .i64).pair (Zak.pair ((cI .i64).pair (cI .i64)))))).iso (fun x => (x.l, x.i, x.end_, x.rule, x.err, x.at_)) (fun p => ⟨p.1, p.2.1, p.2.2.1, p.2.2.2.1, p.2.2.2.2.1, p.2.2.2.2.2⟩) (fun _ => rfl) (fun _ => rfl)
theorem Zcz (x : Zbs) : At (Zbp.enc x) 0 (cL.enc x.l) := At.fst
theorem Zlg (x : Zbs) (y : Sl) : Upd (Zbp.enc x) 0 (cL.enc y) (Zbp.enc (⟨y, x.i, x.end_, x.rule, x.err, x.at_⟩ : Zbs)) := Upd.fst
theorem ZbJ (x : Zbs) : At (Zbp.enc x) 1 ((cI .i64).enc x.i) := At.snd (At.fst)
theorem Zgi (x : Zbs) (y : Int) : Upd (Zbp.enc x) 1 ((cI .i64).enc y) (Zbp.enc (⟨x.l, y, x.end_, x.rule, x.err, x.at_⟩ : Zbs)) := Upd.snd (Upd.fst)
theorem Zjx (x : Zbs) : At (Zbp.enc x) 2 ((cI .i64).enc x.end_) := At.snd (At.snd (At.fst))
theorem Zjw (x : Zbs) (y : Int) : Upd (Zbp.enc x) 2 ((cI .i64).enc y) (Zbp.enc (⟨x.l, x.i, y, x.rule, x.err, x.at_⟩ : Zbs)) := Upd.snd (Upd.snd (Upd.fst))
theorem Zb6 (x : Zbs) : At (Zbp.enc x) 3 (Zak.enc x.rule) := At.snd (At.snd (At.snd (At.fst)))
theorem Zen (x : Zbs) (y : Zae) : Upd (Zbp.enc x) 3 (Zak.enc y) (Zbp.enc (⟨x.l, x.i, x.end_, y, x.err, x.at_⟩ : Zbs)) := Upd.snd (Upd.snd (Upd.snd (Upd.fst)))
theorem ZeP (x : Zbs) : At (Zbp.enc x) 19 ((cI .i64).enc x.err) := At.snd (At.snd (At.snd (At.snd (At.fst))))
theorem Zj7 (x : Zbs) (y : Int) : Upd (Zbp.enc x) 19 ((cI .i64).enc y) (Zbp.enc (⟨x.l, x.i, x.end_, x.rule, y, x.at_⟩ : Zbs)) := Upd.snd (Upd.snd (Upd.snd (Upd.snd (Upd.fst))))
theorem Zg3 (x : Zbs) : At (Zbp.enc x) 20 ((cI .i64).enc x.at_) := At.snd (At.snd (At.snd (At.snd (At.last))))
theorem Zj8 (x : Zbs) (y : Int) : Upd (Zbp.enc x) 20 ((cI .i64).enc y) (Zbp.enc (⟨x.l, x.i, x.end_, x.rule, x.err, y⟩ : Zbs)) := Upd.snd (Upd.snd (Upd.snd (Upd.snd (Upd.last))))
structure Zc4 where
 addr : (Option Addr)
 buf : Sl
 deriving DecidableEq
def Zfl : Zc4 := ⟨none, Sl.nil⟩
instance : Inhabited Zc4 := ⟨Zfl⟩
def Zcx : Cod Zc4 := (cP.pair cL).iso (fun x => (x.addr, x.buf)) (fun p => ⟨p.1, p.2⟩) (fun _ => rfl) (fun _ => rfl)
theorem Zf5 (x : Zc4) : At (Zcx.enc x) 0 (cP.enc x.addr) := At.fst
theorem Zh7 (x : Zc4) (y : (Option Addr)) : Upd (Zcx.enc x) 0 (cP.enc y) (Zcx.enc (⟨y, x.buf⟩ : Zc4)) := Upd.fst
theorem ZbL (x : Zc4) : At (Zcx.enc x) 1 (cL.enc x.buf) := At.last
theorem Zgc (x : Zc4) (y : Sl) : Upd (Zcx.enc x) 1 (cL.enc y) (Zcx.enc (⟨x.addr, y⟩ : Zc4)) := Upd.last
structure ZdC where
 Kind : Int
 Data : Sl
 deriving DecidableEq
def Zmb : ZdC := ⟨0, Sl.nil⟩
instance : Inhabited ZdC := ⟨Zmb⟩
def ZbB : Cod ZdC := ((cI .i64).pair cL).iso (fun x => (x.Kind, x.Data)) (fun p => ⟨p.1, p.2⟩) (fun _ => rfl) (fun _ => rfl)
theorem Zet (x : ZdC) : At (ZbB.enc x) 0 ((cI .i64).enc x.Kind) := At.fst
theorem Znb (x : ZdC) (y : Int) : Upd (ZbB.enc x) 0 ((cI .i64).enc y) (ZbB.enc (⟨y, x.Data⟩ : ZdC)) := Upd.fst
theorem Zfi (x : ZdC) : At (ZbB.enc x) 1 (cL.enc x.Data) := At.last
theorem Znc (x : ZdC) (y : Sl) : Upd (ZbB.enc x) 1 (cL.enc y) (ZbB.enc (⟨x.Kind, y⟩ : ZdC)) := Upd.last
structure ZcK where
 Kind : Int
 Opts : Sl
 Data : Sl
 deriving DecidableEq
def Zme : ZcK := ⟨0, Sl.nil, Sl.nil⟩
instance : Inhabited ZcK := ⟨Zme⟩
def ZcC : Cod ZcK := ((cI .i64).pair (cL.pair cL)).iso (fun x => (x.Kind, x.Opts, x.Data)) (fun p => ⟨p.1, p.2.1, p.2.2⟩) (fun _ => rfl) (fun _ => rfl)
theorem Zfk (x : ZcK) : At (ZcC.enc x) 0 ((cI .i64).enc x.Kind) := At.fst
theorem Zi2 (x : ZcK) (y : Int) : Upd (ZcC.enc x) 0 ((cI .i64).enc y) (ZcC.enc (⟨y, x.Opts, x.Data⟩ : ZcK)) := Upd.fst
theorem Zg9 (x : ZcK) : At (ZcC.enc x) 1 (cL.enc x.Opts) := At.snd (At.fst)
theorem Znh (x : ZcK) (y : Sl) : Upd (ZcC.enc x) 1 (cL.enc y) (ZcC.enc (⟨x.Kind, y, x.Data⟩ : ZcK)) := Upd.snd (Upd.fst)
theorem Zf9 (x : ZcK) : At (ZcC.enc x) 2 (cL.enc x.Data) := At.snd (At.last)
theorem Zni (x : ZcK) (y : Sl) : Upd (ZcC.enc x) 2 (cL.enc y) (ZcC.enc (⟨x.Kind, x.Opts, y⟩ : ZcK)) := Upd.snd (Upd.last)
structure Zfv where
 TPID : Int
 PCP : Int
 DEI : Bool
 VID : Int
 deriving DecidableEq
def Zma : Zfv := ⟨0, 0, false, 0⟩
instance : Inhabited Zfv := ⟨Zma⟩
def Zde : Cod Zfv := ((cI .i64).pair ((cI .i64).pair (cB.pair (cI .i64)))).iso (fun x => (x.TPID, x.PCP, x.DEI, x.VID)) (fun p => ⟨p.1, p.2.1, p.2.2.1, p.2.2.2⟩) (fun _ => rfl) (fun _ => rfl)
theorem Zi4 (x : Zfv) : At (Zde.enc x) 0 ((cI .i64).enc x.TPID) := At.fst
theorem ZjJ (x : Zfv) : At (Zde.enc x) 1 ((cI .i64).enc x.PCP) := At.snd (At.fst)
theorem ZjK (x : Zfv) : At (Zde.enc x) 2 (cB.enc x.DEI) := At.snd (At.snd (At.fst))
theorem Zhx (x : Zfv) : At (Zde.enc x) 3 ((cI .i64).enc x.VID) := At.snd (At.snd (At.last))
theorem Znw (x : Zfv) (y : Int) : Upd (Zde.enc x) 3 ((cI .i64).enc y) (Zde.enc (⟨x.TPID, x.PCP, x.DEI, y⟩ : Zfv)) := Upd.snd (Upd.snd (Upd.last))
structure Za2 where
 Act : Int
 Class : Int
 Rule : Int
 deriving DecidableEq
def Zd3 : Za2 := ⟨0, 0, 0⟩
instance : Inhabited Za2 := ⟨Zd3⟩
def Zb1 : Cod Za2 := ((cI .i64).pair ((cI .i64).pair (cI .i64))).iso (fun x => (x.Act, x.Class, x.Rule)) (fun p => ⟨p.1, p.2.1, p.2.2⟩) (fun _ => rfl) (fun _ => rfl)
theorem Zhm (x : Za2) : At (Zb1.enc x) 0 ((cI .i64).enc x.Act) := At.fst
theorem Ze7 (x : Za2) (y : Int) : Upd (Zb1.enc x) 0 ((cI .i64).enc y) (Zb1.enc (⟨y, x.Class, x.Rule⟩ : Za2)) := Upd.fst
theorem ZgJ (x : Za2) : At (Zb1.enc x) 1 ((cI .i64).enc x.Class) := At.snd (At.fst)
theorem ZgI (x : Za2) (y : Int) : Upd (Zb1.enc x) 1 ((cI .i64).enc y) (Zb1.enc (⟨x.Act, y, x.Rule⟩ : Za2)) := Upd.snd (Upd.fst)
theorem Zg4 (x : Za2) : At (Zb1.enc x) 2 ((cI .i64).enc x.Rule) := At.snd (At.last)
theorem ZeO (x : Za2) (y : Int) : Upd (Zb1.enc x) 2 ((cI .i64).enc y) (Zb1.enc (⟨x.Act, x.Class, y⟩ : Za2)) := Upd.snd (Upd.last)
structure Zbu where
 Dst : (Vec Int 6)
 Src : (Vec Int 6)
 Tags : Sl
 Type_ : Int
 Data : Sl
 deriving DecidableEq
def Zc0 : Zbu := ⟨(Vec.rep 6 0), (Vec.rep 6 0), Sl.nil, 0, Sl.nil⟩
instance : Inhabited Zbu := ⟨Zc0⟩
def ZbX : Cod Zbu := (((cI .u8).arr 6).pair (((cI .u8).arr 6).pair (cL.pair ((cI .i64).pair cL)))).iso (fun x => (x.Dst, x.Src, x.Tags, x.Type_, x.Data)) (fun p => ⟨p.1, p.2.1, p.2.2.1, p.2.2.2.1, p.2.2.2.2⟩) (fun _ => rfl) (fun _ => rfl)
theorem Ziq (x : Zbu) : At (ZbX.enc x) 0 (((cI .u8).arr 6).enc x.Dst) := At.fst
theorem Zij (x : Zbu) (y : (Vec Int 6)) : Upd (ZbX.enc x) 0 (((cI .u8).arr 6).enc y) (ZbX.enc (⟨y, x.Src, x.Tags, x.Type_, x.Data⟩ : Zbu)) := Upd.fst
theorem Zip (x : Zbu) : At (ZbX.enc x) 6 (((cI .u8).arr 6).enc x.Src) := At.snd (At.fst)
theorem Zii (x : Zbu) (y : (Vec Int 6)) : Upd (ZbX.enc x) 6 (((cI .u8).arr 6).enc y) (ZbX.enc (⟨x.Dst, y, x.Tags, x.Type_, x.Data⟩ : Zbu)) := Upd.snd (Upd.fst)
theorem Zeu (x : Zbu) : At (ZbX.enc x) 12 (cL.enc x.Tags) := At.snd (At.snd (At.fst))
theorem ZhR (x : Zbu) (y : Sl) : Upd (ZbX.enc x) 12 (cL.enc y) (ZbX.enc (⟨x.Dst, x.Src, y, x.Type_, x.Data⟩ : Zbu)) := Upd.snd (Upd.snd (Upd.fst))
theorem Zhn (x : Zbu) : At (ZbX.enc x) 13 ((cI .i64).enc x.Type_) := At.snd (At.snd (At.snd (At.fst)))
theorem Zev (x : Zbu) : At (ZbX.enc x) 14 (cL.enc x.Data) := At.snd (At.snd (At.snd (At.last)))
theorem Ty3 : Ty Tryz.prog 3 (cI .i64) 0 := ⟨by kernel_rfl, by kernel_rfl⟩
theorem Ty4 : Ty Tryz.prog 4 cB false := ⟨by kernel_rfl, by kernel_rfl⟩
theorem Ty5 : Ty Tryz.prog 5 (cI .u8) 0 := ⟨by kernel_rfl, by kernel_rfl⟩
theorem Ty9 : Ty Tryz.prog 9 cS ByteArray.empty := ⟨by kernel_rfl, by kernel_rfl⟩
theorem Ty22 : Ty Tryz.prog 22 cL Sl.nil := ⟨by kernel_rfl, by kernel_rfl⟩
theorem Ty24 : Ty Tryz.prog 24 ((cI .u8).arr 6) (Vec.rep 6 0) := ⟨by kernel_rfl, by kernel_rfl⟩
theorem Ty25 : Ty Tryz.prog 25 cL Sl.nil := ⟨by kernel_rfl, by kernel_rfl⟩
theorem Ty26 : Ty Tryz.prog 26 ((cI .u8).arr 16) (Vec.rep 16 0) := ⟨by kernel_rfl, by kernel_rfl⟩
theorem Ty28 : Ty Tryz.prog 28 ZaG Zci := ⟨by kernel_rfl, by kernel_rfl⟩
theorem Ty30 : Ty Tryz.prog 30 Zff Zmf := ⟨by kernel_rfl, by kernel_rfl⟩
theorem Ty31 : Ty Tryz.prog 31 cL Sl.nil := ⟨by kernel_rfl, by kernel_rfl⟩
theorem Ty32 : Ty Tryz.prog 32 cL Sl.nil := ⟨by kernel_rfl, by kernel_rfl⟩
theorem Ty34 : Ty Tryz.prog 34 Zck Zmd := ⟨by kernel_rfl, by kernel_rfl⟩
theorem Ty35 : Ty Tryz.prog 35 cL Sl.nil := ⟨by kernel_rfl, by kernel_rfl⟩
theorem Ty37 : Ty Tryz.prog 37 ZeX ZkS := ⟨by kernel_rfl, by kernel_rfl⟩
theorem Ty39 : Ty Tryz.prog 39 Zcd Zmc := ⟨by kernel_rfl, by kernel_rfl⟩
theorem Ty41 : Ty Tryz.prog 41 ZcJ ZkR := ⟨by kernel_rfl, by kernel_rfl⟩
theorem Ty43 : Ty Tryz.prog 43 ZdV Zl8 := ⟨by kernel_rfl, by kernel_rfl⟩
theorem Ty45 : Ty Tryz.prog 45 ZcB Zl9 := ⟨by kernel_rfl, by kernel_rfl⟩
theorem Ty47 : Ty Tryz.prog 47 Zag Ziy := ⟨by kernel_rfl, by kernel_rfl⟩
theorem Ty48 : Ty Tryz.prog 48 cL Sl.nil := ⟨by kernel_rfl, by kernel_rfl⟩
theorem Ty50 : Ty Tryz.prog 50 (cI .i64) 0 := ⟨by kernel_rfl, by kernel_rfl⟩
theorem Ty58 : Ty Tryz.prog 58 Zb1 Zd3 := ⟨by kernel_rfl, by kernel_rfl⟩
theorem Ty63 : Ty Tryz.prog 63 Zde Zma := ⟨by kernel_rfl, by kernel_rfl⟩
theorem Ty66 : Ty Tryz.prog 66 ZcC Zme := ⟨by kernel_rfl, by kernel_rfl⟩
theorem Ty68 : Ty Tryz.prog 68 cL Sl.nil := ⟨by kernel_rfl, by kernel_rfl⟩
theorem Ty70 : Ty Tryz.prog 70 ZdB ZjP := ⟨by kernel_rfl, by kernel_rfl⟩
theorem Ty71 : Ty Tryz.prog 71 cL Sl.nil := ⟨by kernel_rfl, by kernel_rfl⟩
theorem Ty72 : Ty Tryz.prog 72 cL Sl.nil := ⟨by kernel_rfl, by kernel_rfl⟩
theorem Ty74 : Ty Tryz.prog 74 ZaA Za3 := ⟨by kernel_rfl, by kernel_rfl⟩
theorem Ty76 : Ty Tryz.prog 76 Zak ZaH := ⟨by kernel_rfl, by kernel_rfl⟩
theorem Ty90 : Ty Tryz.prog 90 cL Sl.nil := ⟨by kernel_rfl, by kernel_rfl⟩
theorem Ty93 : Ty Tryz.prog 93 cV ⟨.nilIface, rfl⟩ := ⟨by kernel_rfl, by kernel_rfl⟩
theorem Ty98 : Ty Tryz.prog 98 ZbX Zc0 := ⟨by kernel_rfl, by kernel_rfl⟩
theorem ZcY : Ty Tryz.prog 111 Zav ZbN := ⟨by kernel_rfl, by kernel_rfl⟩
theorem ZgA : Ty Tryz.prog 113 Za5 Zgd := ⟨by kernel_rfl, by kernel_rfl⟩
theorem Zqp : Ty Tryz.prog 114 cL Sl.nil := ⟨by kernel_rfl, by kernel_rfl⟩
theorem Zw2 : Ty Tryz.prog 119 Zbp ZeV := ⟨by kernel_rfl, by kernel_rfl⟩
theorem Zey : Ty Tryz.prog 122 Zbw Zdm := ⟨by kernel_rfl, by kernel_rfl⟩
theorem ZvU : Ty Tryz.prog 129 ZbB Zmb := ⟨by kernel_rfl, by kernel_rfl⟩
theorem Zw1 : Ty Tryz.prog 152 ZbF Zib := ⟨by kernel_rfl, by kernel_rfl⟩
theorem Zw0 : Ty Tryz.prog 155 Zcf ZdN := ⟨by kernel_rfl, by kernel_rfl⟩
theorem Ztx : Ty Tryz.prog 157 cL Sl.nil := ⟨by kernel_rfl, by kernel_rfl⟩
theorem ZvT : Ty Tryz.prog 188 cP none := ⟨by kernel_rfl, by kernel_rfl⟩
theorem ZwZ : Ty Tryz.prog 190 Zcx Zfl := ⟨by kernel_rfl, by kernel_rfl⟩
theorem ZwF : Ty Tryz.prog 212 ((cI .u8).arr 12) (Vec.rep 12 0) := ⟨by kernel_rfl, by kernel_rfl⟩
theorem ZkM : Ty Tryz.prog 225 ZbG Zlk := ⟨by kernel_rfl, by kernel_rfl⟩
theorem Zh9 : Ty Tryz.prog 235 ((cI .u8).arr 4) (Vec.rep 4 0) := ⟨by kernel_rfl, by kernel_rfl⟩
theorem ZwY : Ty Tryz.prog 240 Zdi Zi9 := ⟨by kernel_rfl, by kernel_rfl⟩
theorem F4 : Fun Tryz.prog 4 Tryz.f4 := ⟨Tryz.func4, by kernel_rfl, by kernel_rfl⟩
theorem F5 : Fun Tryz.prog 5 Tryz.f5 := ⟨Tryz.func5, by kernel_rfl, by kernel_rfl⟩
theorem F6 : Fun Tryz.prog 6 Tryz.f6 := ⟨Tryz.func6, by kernel_rfl, by kernel_rfl⟩
theorem F7 : Fun Tryz.prog 7 Tryz.f7 := ⟨Tryz.func7, by kernel_rfl, by kernel_rfl⟩
theorem F8 : Fun Tryz.prog 8 Tryz.f8 := ⟨Tryz.func8, by kernel_rfl, by kernel_rfl⟩
theorem F9 : Fun Tryz.prog 9 Tryz.f9 := ⟨Tryz.func9, by kernel_rfl, by kernel_rfl⟩
theorem F10 : Fun Tryz.prog 10 Tryz.f10 := ⟨Tryz.func10, by kernel_rfl, by kernel_rfl⟩
theorem F11 : Fun Tryz.prog 11 Tryz.f11 := ⟨Tryz.func11, by kernel_rfl, by kernel_rfl⟩
theorem F12 : Fun Tryz.prog 12 Tryz.f12 := ⟨Tryz.func12, by kernel_rfl, by kernel_rfl⟩
theorem F13 : Fun Tryz.prog 13 Tryz.f13 := ⟨Tryz.func13, by kernel_rfl, by kernel_rfl⟩
theorem F14 : Fun Tryz.prog 14 Tryz.f14 := ⟨Tryz.func14, by kernel_rfl, by kernel_rfl⟩
theorem F15 : Fun Tryz.prog 15 Tryz.f15 := ⟨Tryz.func15, by kernel_rfl, by kernel_rfl⟩
theorem F16 : Fun Tryz.prog 16 Tryz.f16 := ⟨Tryz.func16, by kernel_rfl, by kernel_rfl⟩
theorem F17 : Fun Tryz.prog 17 Tryz.f17 := ⟨Tryz.func17, by kernel_rfl, by kernel_rfl⟩
theorem F18 : Fun Tryz.prog 18 Tryz.f18 := ⟨Tryz.func18, by kernel_rfl, by kernel_rfl⟩
theorem F19 : Fun Tryz.prog 19 Tryz.f19 := ⟨Tryz.func19, by kernel_rfl, by kernel_rfl⟩
theorem F20 : Fun Tryz.prog 20 Tryz.f20 := ⟨Tryz.func20, by kernel_rfl, by kernel_rfl⟩
theorem F21 : Fun Tryz.prog 21 Tryz.f21 := ⟨Tryz.func21, by kernel_rfl, by kernel_rfl⟩
theorem F22 : Fun Tryz.prog 22 Tryz.f22 := ⟨Tryz.func22, by kernel_rfl, by kernel_rfl⟩
theorem F23 : Fun Tryz.prog 23 Tryz.f23 := ⟨Tryz.func23, by kernel_rfl, by kernel_rfl⟩
theorem F24 : Fun Tryz.prog 24 Tryz.f24 := ⟨Tryz.func24, by kernel_rfl, by kernel_rfl⟩
theorem F25 : Fun Tryz.prog 25 Tryz.f25 := ⟨Tryz.func25, by kernel_rfl, by kernel_rfl⟩
theorem F26 : Fun Tryz.prog 26 Tryz.f26 := ⟨Tryz.func26, by kernel_rfl, by kernel_rfl⟩
theorem F27 : Fun Tryz.prog 27 Tryz.f27 := ⟨Tryz.func27, by kernel_rfl, by kernel_rfl⟩
theorem F28 : Fun Tryz.prog 28 Tryz.f28 := ⟨Tryz.func28, by kernel_rfl, by kernel_rfl⟩
theorem F29 : Fun Tryz.prog 29 Tryz.f29 := ⟨Tryz.func29, by kernel_rfl, by kernel_rfl⟩
theorem F30 : Fun Tryz.prog 30 Tryz.f30 := ⟨Tryz.func30, by kernel_rfl, by kernel_rfl⟩
theorem F31 : Fun Tryz.prog 31 Tryz.f31 := ⟨Tryz.func31, by kernel_rfl, by kernel_rfl⟩
theorem F32 : Fun Tryz.prog 32 Tryz.f32 := ⟨Tryz.func32, by kernel_rfl, by kernel_rfl⟩
theorem F33 : Fun Tryz.prog 33 Tryz.f33 := ⟨Tryz.func33, by kernel_rfl, by kernel_rfl⟩
theorem F34 : Fun Tryz.prog 34 Tryz.f34 := ⟨Tryz.func34, by kernel_rfl, by kernel_rfl⟩
theorem F35 : Fun Tryz.prog 35 Tryz.f35 := ⟨Tryz.func35, by kernel_rfl, by kernel_rfl⟩
theorem F36 : Fun Tryz.prog 36 Tryz.f36 := ⟨Tryz.func36, by kernel_rfl, by kernel_rfl⟩
theorem F37 : Fun Tryz.prog 37 Tryz.f37 := ⟨Tryz.func37, by kernel_rfl, by kernel_rfl⟩
theorem F38 : Fun Tryz.prog 38 Tryz.f38 := ⟨Tryz.func38, by kernel_rfl, by kernel_rfl⟩
theorem F39 : Fun Tryz.prog 39 Tryz.f39 := ⟨Tryz.func39, by kernel_rfl, by kernel_rfl⟩
theorem F40 : Fun Tryz.prog 40 Tryz.f40 := ⟨Tryz.func40, by kernel_rfl, by kernel_rfl⟩
theorem F41 : Fun Tryz.prog 41 Tryz.f41 := ⟨Tryz.func41, by kernel_rfl, by kernel_rfl⟩
theorem F42 : Fun Tryz.prog 42 Tryz.f42 := ⟨Tryz.func42, by kernel_rfl, by kernel_rfl⟩
theorem F43 : Fun Tryz.prog 43 Tryz.f43 := ⟨Tryz.func43, by kernel_rfl, by kernel_rfl⟩
theorem F44 : Fun Tryz.prog 44 Tryz.f44 := ⟨Tryz.func44, by kernel_rfl, by kernel_rfl⟩
theorem F45 : Fun Tryz.prog 45 Tryz.f45 := ⟨Tryz.func45, by kernel_rfl, by kernel_rfl⟩
theorem F46 : Fun Tryz.prog 46 Tryz.f46 := ⟨Tryz.func46, by kernel_rfl, by kernel_rfl⟩
theorem F47 : Fun Tryz.prog 47 Tryz.f47 := ⟨Tryz.func47, by kernel_rfl, by kernel_rfl⟩
theorem F48 : Fun Tryz.prog 48 Tryz.f48 := ⟨Tryz.func48, by kernel_rfl, by kernel_rfl⟩
theorem F49 : Fun Tryz.prog 49 Tryz.f49 := ⟨Tryz.func49, by kernel_rfl, by kernel_rfl⟩
theorem F50 : Fun Tryz.prog 50 Tryz.f50 := ⟨Tryz.func50, by kernel_rfl, by kernel_rfl⟩
theorem F51 : Fun Tryz.prog 51 Tryz.f51 := ⟨Tryz.func51, by kernel_rfl, by kernel_rfl⟩
theorem F52 : Fun Tryz.prog 52 Tryz.f52 := ⟨Tryz.func52, by kernel_rfl, by kernel_rfl⟩
theorem F53 : Fun Tryz.prog 53 Tryz.f53 := ⟨Tryz.func53, by kernel_rfl, by kernel_rfl⟩
theorem F54 : Fun Tryz.prog 54 Tryz.f54 := ⟨Tryz.func54, by kernel_rfl, by kernel_rfl⟩
theorem F55 : Fun Tryz.prog 55 Tryz.f55 := ⟨Tryz.func55, by kernel_rfl, by kernel_rfl⟩
theorem F56 : Fun Tryz.prog 56 Tryz.f56 := ⟨Tryz.func56, by kernel_rfl, by kernel_rfl⟩
theorem F57 : Fun Tryz.prog 57 Tryz.f57 := ⟨Tryz.func57, by kernel_rfl, by kernel_rfl⟩
theorem F58 : Fun Tryz.prog 58 Tryz.f58 := ⟨Tryz.func58, by kernel_rfl, by kernel_rfl⟩
theorem F59 : Fun Tryz.prog 59 Tryz.f59 := ⟨Tryz.func59, by kernel_rfl, by kernel_rfl⟩
theorem F60 : Fun Tryz.prog 60 Tryz.f60 := ⟨Tryz.func60, by kernel_rfl, by kernel_rfl⟩
theorem F61 : Fun Tryz.prog 61 Tryz.f61 := ⟨Tryz.func61, by kernel_rfl, by kernel_rfl⟩
theorem F62 : Fun Tryz.prog 62 Tryz.f62 := ⟨Tryz.func62, by kernel_rfl, by kernel_rfl⟩
theorem F63 : Fun Tryz.prog 63 Tryz.f63 := ⟨Tryz.func63, by kernel_rfl, by kernel_rfl⟩
theorem F64 : Fun Tryz.prog 64 Tryz.f64 := ⟨Tryz.func64, by kernel_rfl, by kernel_rfl⟩
theorem F65 : Fun Tryz.prog 65 Tryz.f65 := ⟨Tryz.func65, by kernel_rfl, by kernel_rfl⟩
theorem F66 : Fun Tryz.prog 66 Tryz.f66 := ⟨Tryz.func66, by kernel_rfl, by kernel_rfl⟩
theorem F67 : Fun Tryz.prog 67 Tryz.f67 := ⟨Tryz.func67, by kernel_rfl, by kernel_rfl⟩
theorem F68 : Fun Tryz.prog 68 Tryz.f68 := ⟨Tryz.func68, by kernel_rfl, by kernel_rfl⟩
theorem F69 : Fun Tryz.prog 69 Tryz.f69 := ⟨Tryz.func69, by kernel_rfl, by kernel_rfl⟩
theorem F70 : Fun Tryz.prog 70 Tryz.f70 := ⟨Tryz.func70, by kernel_rfl, by kernel_rfl⟩
theorem F71 : Fun Tryz.prog 71 Tryz.f71 := ⟨Tryz.func71, by kernel_rfl, by kernel_rfl⟩
theorem F72 : Fun Tryz.prog 72 Tryz.f72 := ⟨Tryz.func72, by kernel_rfl, by kernel_rfl⟩
theorem F73 : Fun Tryz.prog 73 Tryz.f73 := ⟨Tryz.func73, by kernel_rfl, by kernel_rfl⟩
theorem F74 : Fun Tryz.prog 74 Tryz.f74 := ⟨Tryz.func74, by kernel_rfl, by kernel_rfl⟩
theorem F75 : Fun Tryz.prog 75 Tryz.f75 := ⟨Tryz.func75, by kernel_rfl, by kernel_rfl⟩
theorem F76 : Fun Tryz.prog 76 Tryz.f76 := ⟨Tryz.func76, by kernel_rfl, by kernel_rfl⟩
theorem F77 : Fun Tryz.prog 77 Tryz.f77 := ⟨Tryz.func77, by kernel_rfl, by kernel_rfl⟩
theorem F78 : Fun Tryz.prog 78 Tryz.f78 := ⟨Tryz.func78, by kernel_rfl, by kernel_rfl⟩
theorem F79 : Fun Tryz.prog 79 Tryz.f79 := ⟨Tryz.func79, by kernel_rfl, by kernel_rfl⟩
theorem F80 : Fun Tryz.prog 80 Tryz.f80 := ⟨Tryz.func80, by kernel_rfl, by kernel_rfl⟩
theorem F81 : Fun Tryz.prog 81 Tryz.f81 := ⟨Tryz.func81, by kernel_rfl, by kernel_rfl⟩
theorem F82 : Fun Tryz.prog 82 Tryz.f82 := ⟨Tryz.func82, by kernel_rfl, by kernel_rfl⟩
theorem F83 : Fun Tryz.prog 83 Tryz.f83 := ⟨Tryz.func83, by kernel_rfl, by kernel_rfl⟩
theorem F84 : Fun Tryz.prog 84 Tryz.f84 := ⟨Tryz.func84, by kernel_rfl, by kernel_rfl⟩
theorem F85 : Fun Tryz.prog 85 Tryz.f85 := ⟨Tryz.func85, by kernel_rfl, by kernel_rfl⟩
theorem F86 : Fun Tryz.prog 86 Tryz.f86 := ⟨Tryz.func86, by kernel_rfl, by kernel_rfl⟩
theorem F87 : Fun Tryz.prog 87 Tryz.f87 := ⟨Tryz.func87, by kernel_rfl, by kernel_rfl⟩
theorem F88 : Fun Tryz.prog 88 Tryz.f88 := ⟨Tryz.func88, by kernel_rfl, by kernel_rfl⟩
theorem F89 : Fun Tryz.prog 89 Tryz.f89 := ⟨Tryz.func89, by kernel_rfl, by kernel_rfl⟩
theorem F90 : Fun Tryz.prog 90 Tryz.f90 := ⟨Tryz.func90, by kernel_rfl, by kernel_rfl⟩
theorem F91 : Fun Tryz.prog 91 Tryz.f91 := ⟨Tryz.func91, by kernel_rfl, by kernel_rfl⟩
theorem F92 : Fun Tryz.prog 92 Tryz.f92 := ⟨Tryz.func92, by kernel_rfl, by kernel_rfl⟩
theorem F93 : Fun Tryz.prog 93 Tryz.f93 := ⟨Tryz.func93, by kernel_rfl, by kernel_rfl⟩
theorem F94 : Fun Tryz.prog 94 Tryz.f94 := ⟨Tryz.func94, by kernel_rfl, by kernel_rfl⟩
theorem F95 : Fun Tryz.prog 95 Tryz.f95 := ⟨Tryz.func95, by kernel_rfl, by kernel_rfl⟩
theorem F96 : Fun Tryz.prog 96 Tryz.f96 := ⟨Tryz.func96, by kernel_rfl, by kernel_rfl⟩
theorem F97 : Fun Tryz.prog 97 Tryz.f97 := ⟨Tryz.func97, by kernel_rfl, by kernel_rfl⟩
theorem F98 : Fun Tryz.prog 98 Tryz.f98 := ⟨Tryz.func98, by kernel_rfl, by kernel_rfl⟩
theorem F99 : Fun Tryz.prog 99 Tryz.f99 := ⟨Tryz.func99, by kernel_rfl, by kernel_rfl⟩
theorem F100 : Fun Tryz.prog 100 Tryz.f100 := ⟨Tryz.func100, by kernel_rfl, by kernel_rfl⟩
theorem F101 : Fun Tryz.prog 101 Tryz.f101 := ⟨Tryz.func101, by kernel_rfl, by kernel_rfl⟩
theorem F102 : Fun Tryz.prog 102 Tryz.f102 := ⟨Tryz.func102, by kernel_rfl, by kernel_rfl⟩
theorem F103 : Fun Tryz.prog 103 Tryz.f103 := ⟨Tryz.func103, by kernel_rfl, by kernel_rfl⟩
theorem F104 : Fun Tryz.prog 104 Tryz.f104 := ⟨Tryz.func104, by kernel_rfl, by kernel_rfl⟩
theorem F105 : Fun Tryz.prog 105 Tryz.f105 := ⟨Tryz.func105, by kernel_rfl, by kernel_rfl⟩
theorem F106 : Fun Tryz.prog 106 Tryz.f106 := ⟨Tryz.func106, by kernel_rfl, by kernel_rfl⟩
theorem F107 : Fun Tryz.prog 107 Tryz.f107 := ⟨Tryz.func107, by kernel_rfl, by kernel_rfl⟩
theorem F108 : Fun Tryz.prog 108 Tryz.f108 := ⟨Tryz.func108, by kernel_rfl, by kernel_rfl⟩
theorem F109 : Fun Tryz.prog 109 Tryz.f109 := ⟨Tryz.func109, by kernel_rfl, by kernel_rfl⟩
theorem F110 : Fun Tryz.prog 110 Tryz.f110 := ⟨Tryz.func110, by kernel_rfl, by kernel_rfl⟩
theorem F111 : Fun Tryz.prog 111 Tryz.f111 := ⟨Tryz.func111, by kernel_rfl, by kernel_rfl⟩
theorem F112 : Fun Tryz.prog 112 Tryz.f112 := ⟨Tryz.func112, by kernel_rfl, by kernel_rfl⟩
theorem F113 : Fun Tryz.prog 113 Tryz.f113 := ⟨Tryz.func113, by kernel_rfl, by kernel_rfl⟩
theorem F114 : Fun Tryz.prog 114 Tryz.f114 := ⟨Tryz.func114, by kernel_rfl, by kernel_rfl⟩
theorem F115 : Fun Tryz.prog 115 Tryz.f115 := ⟨Tryz.func115, by kernel_rfl, by kernel_rfl⟩
theorem F116 : Fun Tryz.prog 116 Tryz.f116 := ⟨Tryz.func116, by kernel_rfl, by kernel_rfl⟩
theorem F117 : Fun Tryz.prog 117 Tryz.f117 := ⟨Tryz.func117, by kernel_rfl, by kernel_rfl⟩
theorem F118 : Fun Tryz.prog 118 Tryz.f118 := ⟨Tryz.func118, by kernel_rfl, by kernel_rfl⟩
theorem F119 : Fun Tryz.prog 119 Tryz.f119 := ⟨Tryz.func119, by kernel_rfl, by kernel_rfl⟩
theorem F120 : Fun Tryz.prog 120 Tryz.f120 := ⟨Tryz.func120, by kernel_rfl, by kernel_rfl⟩
theorem F123 : Fun Tryz.prog 123 Tryz.f123 := ⟨Tryz.func123, by kernel_rfl, by kernel_rfl⟩
theorem F124 : Fun Tryz.prog 124 Tryz.f124 := ⟨Tryz.func124, by kernel_rfl, by kernel_rfl⟩
theorem F125 : Fun Tryz.prog 125 Tryz.f125 := ⟨Tryz.func125, by kernel_rfl, by kernel_rfl⟩
theorem F126 : Fun Tryz.prog 126 Tryz.f126 := ⟨Tryz.func126, by kernel_rfl, by kernel_rfl⟩
theorem F127 : Fun Tryz.prog 127 Tryz.f127 := ⟨Tryz.func127, by kernel_rfl, by kernel_rfl⟩
theorem F128 : Fun Tryz.prog 128 Tryz.f128 := ⟨Tryz.func128, by kernel_rfl, by kernel_rfl⟩
theorem F129 : Fun Tryz.prog 129 Tryz.f129 := ⟨Tryz.func129, by kernel_rfl, by kernel_rfl⟩
theorem F130 : Fun Tryz.prog 130 Tryz.f130 := ⟨Tryz.func130, by kernel_rfl, by kernel_rfl⟩
theorem F137 : Fun Tryz.prog 137 Tryz.f137 := ⟨Tryz.func137, by kernel_rfl, by kernel_rfl⟩
theorem F138 : Fun Tryz.prog 138 Tryz.f138 := ⟨Tryz.func138, by kernel_rfl, by kernel_rfl⟩
theorem F139 : Fun Tryz.prog 139 Tryz.f139 := ⟨Tryz.func139, by kernel_rfl, by kernel_rfl⟩
theorem F140 : Fun Tryz.prog 140 Tryz.f140 := ⟨Tryz.func140, by kernel_rfl, by kernel_rfl⟩
theorem F141 : Fun Tryz.prog 141 Tryz.f141 := ⟨Tryz.func141, by kernel_rfl, by kernel_rfl⟩
theorem F142 : Fun Tryz.prog 142 Tryz.f142 := ⟨Tryz.func142, by kernel_rfl, by kernel_rfl⟩
theorem F143 : Fun Tryz.prog 143 Tryz.f143 := ⟨Tryz.func143, by kernel_rfl, by kernel_rfl⟩
theorem F149 : Fun Tryz.prog 149 Tryz.f149 := ⟨Tryz.func149, by kernel_rfl, by kernel_rfl⟩
theorem F150 : Fun Tryz.prog 150 Tryz.f150 := ⟨Tryz.func150, by kernel_rfl, by kernel_rfl⟩
theorem F151 : Fun Tryz.prog 151 Tryz.f151 := ⟨Tryz.func151, by kernel_rfl, by kernel_rfl⟩
theorem F152 : Fun Tryz.prog 152 Tryz.f152 := ⟨Tryz.func152, by kernel_rfl, by kernel_rfl⟩
theorem F158 : Fun Tryz.prog 158 Tryz.f158 := ⟨Tryz.func158, by kernel_rfl, by kernel_rfl⟩
theorem F159 : Fun Tryz.prog 159 Tryz.f159 := ⟨Tryz.func159, by kernel_rfl, by kernel_rfl⟩
theorem F160 : Fun Tryz.prog 160 Tryz.f160 := ⟨Tryz.func160, by kernel_rfl, by kernel_rfl⟩
theorem F180 : Fun Tryz.prog 180 Tryz.f180 := ⟨Tryz.func180, by kernel_rfl, by kernel_rfl⟩
theorem F181 : Fun Tryz.prog 181 Tryz.f181 := ⟨Tryz.func181, by kernel_rfl, by kernel_rfl⟩
theorem F182 : Fun Tryz.prog 182 Tryz.f182 := ⟨Tryz.func182, by kernel_rfl, by kernel_rfl⟩
theorem F183 : Fun Tryz.prog 183 Tryz.f183 := ⟨Tryz.func183, by kernel_rfl, by kernel_rfl⟩
theorem F184 : Fun Tryz.prog 184 Tryz.f184 := ⟨Tryz.func184, by kernel_rfl, by kernel_rfl⟩
theorem F185 : Fun Tryz.prog 185 Tryz.f185 := ⟨Tryz.func185, by kernel_rfl, by kernel_rfl⟩
theorem F186 : Fun Tryz.prog 186 Tryz.f186 := ⟨Tryz.func186, by kernel_rfl, by kernel_rfl⟩
theorem F187 : Fun Tryz.prog 187 Tryz.f187 := ⟨Tryz.func187, by kernel_rfl, by kernel_rfl⟩
def str0 : ByteArray := ⟨#[112, 101, 114, 109, 105, 116, 32, 116, 99, 112, 32, 102, 114, 111, 109, 32, 49, 48, 46, 48, 46, 48, 46, 48, 47, 56, 32, 116, 111, 32, 97, 110, 121, 32, 112, 111, 114, 116, 32, 56, 48]⟩
def str1 : ByteArray := ⟨#[44]⟩
def str2 : ByteArray := ⟨#[116, 99, 112]⟩
def str3 : ByteArray := ⟨#[117, 100, 112]⟩
def str4 : ByteArray := ⟨#[105, 99, 109, 112]⟩
def str5 : ByteArray := ⟨#[105, 99, 109, 112, 54]⟩
def str6 : ByteArray := ⟨#[112, 114, 111, 116, 111]⟩
def str7 : ByteArray := ⟨#[99, 108, 97, 115, 115]⟩
def str8 : ByteArray := ⟨#[97, 110, 121]⟩
def str9 : ByteArray := ⟨#[112]⟩
def Zsb : ByteArray := ⟨#[58, 58]⟩
def ZwQ : ByteArray := ⟨#[58]⟩
def Zrk : ByteArray := ⟨#[47]⟩
def Zvf : ByteArray := ⟨#[45]⟩
def Zwa : ByteArray := ⟨#[110, 111, 116]⟩
def Zv9 : ByteArray := ⟨#[112, 111, 114, 116]⟩
def Zv8 : ByteArray := ⟨#[33]⟩
def Zve : ByteArray := ⟨#[111, 110]⟩
def Zvd : ByteArray := ⟨#[118, 105, 100]⟩
def ZpO : ByteArray := ⟨#[102, 114, 111, 109]⟩
def Zsa : ByteArray := ⟨#[116, 111]⟩
def ZpN : ByteArray := ⟨#[102, 108, 97, 103, 115]⟩
def ZpM : ByteArray := ⟨#[116, 121, 112, 101]⟩
def Zvc : ByteArray := ⟨#[112, 105, 101, 99, 101, 115]⟩
def ZtT : ByteArray := ⟨#[48, 49, 50, 51, 52, 53, 54, 55, 56, 57, 97, 98, 99, 100, 101, 102, 103, 104, 105, 106, 107, 108, 109, 110, 111, 112, 113, 114, 115, 116, 117, 118, 119, 120, 121, 122]⟩
def ZtS : ByteArray := ⟨#[48, 48, 48, 49, 48, 50, 48, 51, 48, 52, 48, 53, 48, 54, 48, 55, 48, 56, 48, 57, 49, 48, 49, 49, 49, 50, 49, 51, 49, 52, 49, 53, 49, 54, 49, 55, 49, 56, 49, 57, 50, 48, 50, 49, 50, 50, 50, 51, 50, 52, 50, 53, 50, 54, 50, 55, 50, 56, 50, 57, 51, 48, 51, 49, 51, 50, 51, 51, 51, 52, 51, 53, 51, 54, 51, 55, 51, 56, 51, 57, 52, 48, 52, 49, 52, 50, 52, 51, 52, 52, 52, 53, 52, 54, 52, 55, 52, 56, 52, 57, 53, 48, 53, 49, 53, 50, 53, 51, 53, 52, 53, 53, 53, 54, 53, 55, 53, 56, 53, 57, 54, 48, 54, 49, 54, 50, 54, 51, 54, 52, 54, 53, 54, 54, 54, 55, 54, 56, 54, 57, 55, 48, 55, 49, 55, 50, 55, 51, 55, 52, 55, 53, 55, 54, 55, 55, 55, 56, 55, 57, 56, 48, 56, 49, 56, 50, 56, 51, 56, 52, 56, 53, 56, 54, 56, 55, 56, 56, 56, 57, 57, 48, 57, 49, 57, 50, 57, 51, 57, 52, 57, 53, 57, 54, 57, 55, 57, 56, 57, 57]⟩
def ZhX : ByteArray := ⟨#[32]⟩
def Zv7 : ByteArray := ⟨#[46]⟩
def ZtR : ByteArray := ⟨#[32, 112, 111, 114, 116, 32]⟩
theorem Eq5 : EqT Tryz.prog 5 1 (cI .u8) := EqT.int Tryz.underlying5
theorem Zw7 : EqT Tryz.prog 212 2 ((cI .u8).arr 12) := EqT.arr Tryz.underlying212 Ty5 Eq5
theorem Eq26 : EqT Tryz.prog 26 2 ((cI .u8).arr 16) := EqT.arr Tryz.underlying26 Ty5 Eq5
theorem Eq9 : EqT Tryz.prog 9 1 cS := EqT.string Tryz.underlying9
theorem Ck9 : CkT Tryz.prog 9 1 cS := CkT.string Tryz.underlying9
theorem ZwK : KeyT Tryz.prog 120 9 1 cS (cI .i64) 0 := ⟨NowK.string Tryz.underlying9, Eq9, Ck9, SbC.string, by decide, ⟨3, by kernel_rfl, Ty3⟩, ⟨_, Tryz.underlying9⟩⟩
theorem Eq3 : EqT Tryz.prog 3 1 (cI .i64) := EqT.int Tryz.underlying3
theorem Eq28 : EqT Tryz.prog 28 3 ZaG := EqT.struct (D := 2) Tryz.underlying28 (by kernel_rfl) rfl (fun d hd x y w => EqFs.congr (EqFs.cons rfl Ty3 (ZcP x) (ZcP y) Eq3 (by omega) (EqFs.cons rfl Ty26 (ZdE x) (ZdE y) Eq26 (by omega) EqFs.nil)) (by obtain ⟨⟩ := x; obtain ⟨⟩ := y; simp))
theorem Zw9 : EqT Tryz.prog 111 4 Zav := EqT.struct (D := 3) Tryz.underlying111 (by kernel_rfl) rfl (fun d hd x y w => EqFs.congr (EqFs.cons rfl Ty28 (Zbz x) (Zbz y) Eq28 (by omega) (EqFs.cons rfl Ty3 (ZbS x) (ZbS y) Eq3 (by omega) EqFs.nil)) (by obtain ⟨⟩ := x; obtain ⟨⟩ := y; simp))
theorem Zw8 : EqT Tryz.prog 113 2 Za5 := EqT.struct (D := 1) Tryz.underlying113 (by kernel_rfl) rfl (fun d hd x y w => EqFs.congr (EqFs.cons rfl Ty3 (Zdu x) (Zdu y) Eq3 (by omega) (EqFs.cons rfl Ty3 (ZdW x) (ZdW y) Eq3 (by omega) EqFs.nil)) (by obtain ⟨⟩ := x; obtain ⟨⟩ := y; simp))
theorem Eq24 : EqT Tryz.prog 24 2 ((cI .u8).arr 6) := EqT.arr Tryz.underlying24 Ty5 Eq5
theorem Eq4 : EqT Tryz.prog 4 1 cB := EqT.bool Tryz.underlying4
theorem Eq63 : EqT Tryz.prog 63 2 Zde := EqT.struct (D := 1) Tryz.underlying63 (by kernel_rfl) rfl (fun d hd x y w => EqFs.congr (EqFs.cons rfl Ty3 (Zi4 x) (Zi4 y) Eq3 (by omega) (EqFs.cons rfl Ty3 (ZjJ x) (ZjJ y) Eq3 (by omega) (EqFs.cons rfl Ty4 (ZjK x) (ZjK y) Eq4 (by omega) (EqFs.cons rfl Ty3 (Zhx x) (Zhx y) Eq3 (by omega) EqFs.nil)))) (by obtain ⟨⟩ := x; obtain ⟨⟩ := y; simp))
theorem Eq37 : EqT Tryz.prog 37 2 ZeX := EqT.struct (D := 1) Tryz.underlying37 (by kernel_rfl) rfl (fun d hd x y w => EqFs.congr (EqFs.cons rfl Ty4 (Zf8 x) (Zf8 y) Eq4 (by omega) (EqFs.cons rfl Ty4 (Zir x) (Zir y) Eq4 (by omega) (EqFs.cons rfl Ty3 (ZjO x) (ZjO y) Eq3 (by omega) (EqFs.cons rfl Ty3 (Zi6 x) (Zi6 y) Eq3 (by omega) EqFs.nil)))) (by obtain ⟨⟩ := x; obtain ⟨⟩ := y; simp))
theorem Eq30 : EqT Tryz.prog 30 4 Zff := EqT.struct (D := 3) Tryz.underlying30 (by kernel_rfl) rfl (fun d hd x y w => EqFs.congr (EqFs.cons rfl Ty3 (ZkQ x) (ZkQ y) Eq3 (by omega) (EqFs.cons rfl Ty24 (Zi8 x) (Zi8 y) Eq24 (by omega) (EqFs.cons rfl Ty28 (Zgq x) (Zgq y) Eq28 (by omega) (EqFs.cons rfl Ty24 (Zi7 x) (Zi7 y) Eq24 (by omega) (EqFs.cons rfl Ty28 (Ze1 x) (Ze1 y) Eq28 (by omega) EqFs.nil))))) (by obtain ⟨⟩ := x; obtain ⟨⟩ := y; simp))
theorem Eq58 : EqT Tryz.prog 58 2 Zb1 := EqT.struct (D := 1) Tryz.underlying58 (by kernel_rfl) rfl (fun d hd x y w => EqFs.congr (EqFs.cons rfl Ty3 (Zhm x) (Zhm y) Eq3 (by omega) (EqFs.cons rfl Ty3 (ZgJ x) (ZgJ y) Eq3 (by omega) (EqFs.cons rfl Ty3 (Zg4 x) (Zg4 y) Eq3 (by omega) EqFs.nil))) (by obtain ⟨⟩ := x; obtain ⟨⟩ := y; simp))
theorem Zcs : Tryz.prog.follows .mixedOrders = true := by kernel_rfl
end Go.Proofs.YtobemldccnnblaaGreatDoor.Lx
