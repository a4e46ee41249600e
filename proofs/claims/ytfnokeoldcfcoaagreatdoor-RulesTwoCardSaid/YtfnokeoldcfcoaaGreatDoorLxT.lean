/- The types of the translation that the programs use. -/
import Derived.Test.YtfnokeoldcfcoaaGreatDoorProg
import Derived.Test.YtfnokeoldcfcoaaGreatDoorLxNv
set_option maxRecDepth 100000
set_option linter.unusedSectionVars false
set_option linter.unusedSimpArgs false
set_option linter.unusedVariables false
namespace Go.Proofs.YtfnokeoldcfcoaaGreatDoor.Lx
open Go Go.Proofs
structure Zex where
 lo : Int
 hi : Int
 deriving DecidableEq
def ZjY : Zex := ⟨0, 0⟩
instance : Inhabited Zex := ⟨ZjY⟩
def Zfz : Cod Zex := ((cI .u8).pair (cI .u8)).iso (fun x => (x.lo, x.hi)) (fun p => ⟨p.1, p.2⟩) (fun _ => rfl) (fun _ => rfl)
structure ZaG where
 s : ByteArray
 at_ : Int
 deriving DecidableEq
def Zdf : ZaG := ⟨ByteArray.empty, 0⟩
instance : Inhabited ZaG := ⟨Zdf⟩
def Zbr : Cod ZaG := (cS.pair (cI .i64)).iso (fun x => (x.s, x.at_)) (fun p => ⟨p.1, p.2⟩) (fun _ => rfl) (fun _ => rfl)
theorem Zbq (x : ZaG) : At (Zbr.enc x) 0 (cS.enc x.s) := At.fst
theorem ZiM (x : ZaG) (y : ByteArray) : Upd (Zbr.enc x) 0 (cS.enc y) (Zbr.enc (⟨y, x.at_⟩ : ZaG)) := Upd.fst
theorem ZbN (x : ZaG) : At (Zbr.enc x) 1 ((cI .i64).enc x.at_) := At.last
theorem Zhs (x : ZaG) (y : Int) : Upd (Zbr.enc x) 1 ((cI .i64).enc y) (Zbr.enc (⟨x.s, y⟩ : ZaG)) := Upd.last
structure ZbW where
 why : Int
 at_ : Int
 deriving DecidableEq
def Zk4 : ZbW := ⟨0, 0⟩
instance : Inhabited ZbW := ⟨Zk4⟩
def Zby : Cod ZbW := ((cI .i64).pair (cI .i64)).iso (fun x => (x.why, x.at_)) (fun p => ⟨p.1, p.2⟩) (fun _ => rfl) (fun _ => rfl)
theorem Ze1 (x : ZbW) : At (Zby.enc x) 0 ((cI .i64).enc x.why) := At.fst
theorem ZbA (x : ZbW) (y : Int) : Upd (Zby.enc x) 0 ((cI .i64).enc y) (Zby.enc (⟨y, x.at_⟩ : ZbW)) := Upd.fst
theorem Ze2 (x : ZbW) : At (Zby.enc x) 1 ((cI .i64).enc x.at_) := At.last
theorem ZbB (x : ZbW) (y : Int) : Upd (Zby.enc x) 1 ((cI .i64).enc y) (Zby.enc (⟨x.why, y⟩ : ZbW)) := Upd.last
structure Zbw where
 V : Int
 A : (Vec Int 16)
 deriving DecidableEq
def ZcF : Zbw := ⟨0, (Vec.rep 16 0)⟩
instance : Inhabited Zbw := ⟨ZcF⟩
def Za8 : Cod Zbw := ((cI .i64).pair ((cI .u8).arr 16)).iso (fun x => (x.V, x.A)) (fun p => ⟨p.1, p.2⟩) (fun _ => rfl) (fun _ => rfl)
theorem Zd7 (x : Zbw) : At (Za8.enc x) 0 ((cI .i64).enc x.V) := At.fst
theorem ZjU (x : Zbw) (y : Int) : Upd (Za8.enc x) 0 ((cI .i64).enc y) (Za8.enc (⟨y, x.A⟩ : Zbw)) := Upd.fst
theorem Zds (x : Zbw) : At (Za8.enc x) 1 (((cI .u8).arr 16).enc x.A) := At.last
theorem ZjV (x : Zbw) (y : (Vec Int 16)) : Upd (Za8.enc x) 1 (((cI .u8).arr 16).enc y) (Za8.enc (⟨x.V, y⟩ : Zbw)) := Upd.last
structure Zea where
 s : ByteArray
 at_ : Int
 groups : Sl
 gap : Int
 deriving DecidableEq
def ZiS : Zea := ⟨ByteArray.empty, 0, Sl.nil, 0⟩
instance : Inhabited Zea := ⟨ZiS⟩
def Zdb : Cod Zea := (cS.pair ((cI .i64).pair (cL.pair (cI .i64)))).iso (fun x => (x.s, x.at_, x.groups, x.gap)) (fun p => ⟨p.1, p.2.1, p.2.2.1, p.2.2.2⟩) (fun _ => rfl) (fun _ => rfl)
theorem ZcJ (x : Zea) : At (Zdb.enc x) 0 (cS.enc x.s) := At.fst
theorem ZoW (x : Zea) (y : ByteArray) : Upd (Zdb.enc x) 0 (cS.enc y) (Zdb.enc (⟨y, x.at_, x.groups, x.gap⟩ : Zea)) := Upd.fst
theorem Zc0 (x : Zea) : At (Zdb.enc x) 1 ((cI .i64).enc x.at_) := At.snd (At.fst)
theorem ZgB (x : Zea) (y : Int) : Upd (Zdb.enc x) 1 ((cI .i64).enc y) (Zdb.enc (⟨x.s, y, x.groups, x.gap⟩ : Zea)) := Upd.snd (Upd.fst)
theorem ZbE (x : Zea) : At (Zdb.enc x) 2 (cL.enc x.groups) := At.snd (At.snd (At.fst))
theorem ZfH (x : Zea) (y : Sl) : Upd (Zdb.enc x) 2 (cL.enc y) (Zdb.enc (⟨x.s, x.at_, y, x.gap⟩ : Zea)) := Upd.snd (Upd.snd (Upd.fst))
theorem ZdM (x : Zea) : At (Zdb.enc x) 3 ((cI .i64).enc x.gap) := At.snd (At.snd (At.last))
theorem ZiP (x : Zea) (y : Int) : Upd (Zdb.enc x) 3 ((cI .i64).enc y) (Zdb.enc (⟨x.s, x.at_, x.groups, y⟩ : Zea)) := Upd.snd (Upd.snd (Upd.last))
structure Zag where
 IP : Zbw
 Len : Int
 deriving DecidableEq
def ZbP : Zag := ⟨ZcF, 0⟩
instance : Inhabited Zag := ⟨ZbP⟩
def ZaI : Cod Zag := (Za8.pair (cI .i64)).iso (fun x => (x.IP, x.Len)) (fun p => ⟨p.1, p.2⟩) (fun _ => rfl) (fun _ => rfl)
theorem ZbQ (x : Zag) : At (ZaI.enc x) 0 (Za8.enc x.IP) := At.fst
theorem Zf5 (x : Zag) (y : Zbw) : Upd (ZaI.enc x) 0 (Za8.enc y) (ZaI.enc (⟨y, x.Len⟩ : Zag)) := Upd.fst
theorem Zct (x : Zag) : At (ZaI.enc x) 17 ((cI .i64).enc x.Len) := At.last
theorem ZeZ (x : Zag) (y : Int) : Upd (ZaI.enc x) 17 ((cI .i64).enc y) (ZaI.enc (⟨x.IP, y⟩ : Zag)) := Upd.last
structure ZaH where
 Lo : Int
 Hi : Int
 deriving DecidableEq
def Zgn : ZaH := ⟨0, 0⟩
instance : Inhabited ZaH := ⟨Zgn⟩
def Zbd : Cod ZaH := ((cI .i64).pair (cI .i64)).iso (fun x => (x.Lo, x.Hi)) (fun p => ⟨p.1, p.2⟩) (fun _ => rfl) (fun _ => rfl)
theorem ZdK (x : ZaH) : At (Zbd.enc x) 0 ((cI .i64).enc x.Lo) := At.fst
theorem ZfF (x : ZaH) (y : Int) : Upd (Zbd.enc x) 0 ((cI .i64).enc y) (Zbd.enc (⟨y, x.Hi⟩ : ZaH)) := Upd.fst
theorem ZdL (x : ZaH) : At (Zbd.enc x) 1 ((cI .i64).enc x.Hi) := At.last
theorem ZfG (x : ZaH) (y : Int) : Upd (Zbd.enc x) 1 ((cI .i64).enc y) (Zbd.enc (⟨x.Lo, y⟩ : ZaH)) := Upd.last
structure Zar where
 Not : Bool
 Nets : Sl
 Ports : Sl
 deriving DecidableEq
def Za6 : Zar := ⟨false, Sl.nil, Sl.nil⟩
instance : Inhabited Zar := ⟨Za6⟩
def ZaM : Cod Zar := (cB.pair (cL.pair cL)).iso (fun x => (x.Not, x.Nets, x.Ports)) (fun p => ⟨p.1, p.2.1, p.2.2⟩) (fun _ => rfl) (fun _ => rfl)
theorem ZaS (x : Zar) : At (ZaM.enc x) 0 (cB.enc x.Not) := At.fst
theorem ZmZ (x : Zar) (y : Bool) : Upd (ZaM.enc x) 0 (cB.enc y) (ZaM.enc (⟨y, x.Nets, x.Ports⟩ : Zar)) := Upd.fst
theorem ZaF (x : Zar) : At (ZaM.enc x) 1 (cL.enc x.Nets) := At.snd (At.fst)
theorem Ze9 (x : Zar) (y : Sl) : Upd (ZaM.enc x) 1 (cL.enc y) (ZaM.enc (⟨x.Not, y, x.Ports⟩ : Zar)) := Upd.snd (Upd.fst)
theorem Za7 (x : Zar) : At (ZaM.enc x) 2 (cL.enc x.Ports) := At.snd (At.last)
theorem ZeX (x : Zar) (y : Sl) : Upd (ZaM.enc x) 2 (cL.enc y) (ZaM.enc (⟨x.Not, x.Nets, y⟩ : Zar)) := Upd.snd (Upd.last)
structure Zaf where
 Act : Int
 Class : Int
 Kind : Int
 Proto : Int
 In : Int
 Vid : Int
 From : Zar
 To : Zar
 Set : Int
 Clear : Int
 Type_ : Int
 Pieces : Bool
 deriving DecidableEq
def ZaL : Zaf := ⟨0, 0, 0, 0, 0, 0, Za6, Za6, 0, 0, 0, false⟩
instance : Inhabited Zaf := ⟨ZaL⟩
def Zah : Cod Zaf := ((cI .i64).pair ((cI .i64).pair ((cI .i64).pair ((cI .i64).pair ((cI .i64).pair ((cI .i64).pair (ZaM.pair (ZaM.pair ((cI .i64).pair ((cI .i64).pair ((cI .i64).pair cB))))))))))).iso (fun x => (x.Act, x.Class, x.Kind, x.Proto, x.In, x.Vid, x.From, x.To, x.Set, x.Clear, x.Type_, x.Pieces)) (fun p => ⟨p.1, p.2.1, p.2.2.1, p.2.2.2.1, p.2.2.2.2.1, p.2.2.2.2.2.1, p.2.2.2.2.2.2.1, p.2.2.2.2.2.2.2.1, p.2.2.2.2.2.2.2.2.1, p.2.2.2.2.2.2.2.2.2.1, p.2.2.2.2.2.2.2.2.2.2.1, p.2.2.2.2.2.2.2.2.2.2.2⟩) (fun _ => rfl) (fun _ => rfl)
theorem ZcE (x : Zaf) : At (Zah.enc x) 0 ((cI .i64).enc x.Act) := At.fst
theorem ZeR (x : Zaf) (y : Int) : Upd (Zah.enc x) 0 ((cI .i64).enc y) (Zah.enc (⟨y, x.Class, x.Kind, x.Proto, x.In, x.Vid, x.From, x.To, x.Set, x.Clear, x.Type_, x.Pieces⟩ : Zaf)) := Upd.fst
theorem Zdc (x : Zaf) : At (Zah.enc x) 1 ((cI .i64).enc x.Class) := At.snd (At.fst)
theorem Zhu (x : Zaf) (y : Int) : Upd (Zah.enc x) 1 ((cI .i64).enc y) (Zah.enc (⟨x.Act, y, x.Kind, x.Proto, x.In, x.Vid, x.From, x.To, x.Set, x.Clear, x.Type_, x.Pieces⟩ : Zaf)) := Upd.snd (Upd.fst)
theorem ZbY (x : Zaf) : At (Zah.enc x) 2 ((cI .i64).enc x.Kind) := At.snd (At.snd (At.fst))
theorem Zh4 (x : Zaf) (y : Int) : Upd (Zah.enc x) 2 ((cI .i64).enc y) (Zah.enc (⟨x.Act, x.Class, y, x.Proto, x.In, x.Vid, x.From, x.To, x.Set, x.Clear, x.Type_, x.Pieces⟩ : Zaf)) := Upd.snd (Upd.snd (Upd.fst))
theorem ZbD (x : Zaf) : At (Zah.enc x) 3 ((cI .i64).enc x.Proto) := At.snd (At.snd (At.snd (At.fst)))
theorem ZeY (x : Zaf) (y : Int) : Upd (Zah.enc x) 3 ((cI .i64).enc y) (Zah.enc (⟨x.Act, x.Class, x.Kind, y, x.In, x.Vid, x.From, x.To, x.Set, x.Clear, x.Type_, x.Pieces⟩ : Zaf)) := Upd.snd (Upd.snd (Upd.snd (Upd.fst)))
theorem Zd6 (x : Zaf) : At (Zah.enc x) 4 ((cI .i64).enc x.In) := At.snd (At.snd (At.snd (At.snd (At.fst))))
theorem Zjs (x : Zaf) (y : Int) : Upd (Zah.enc x) 4 ((cI .i64).enc y) (Zah.enc (⟨x.Act, x.Class, x.Kind, x.Proto, y, x.Vid, x.From, x.To, x.Set, x.Clear, x.Type_, x.Pieces⟩ : Zaf)) := Upd.snd (Upd.snd (Upd.snd (Upd.snd (Upd.fst))))
theorem ZdJ (x : Zaf) : At (Zah.enc x) 5 ((cI .i64).enc x.Vid) := At.snd (At.snd (At.snd (At.snd (At.snd (At.fst)))))
theorem ZiO (x : Zaf) (y : Int) : Upd (Zah.enc x) 5 ((cI .i64).enc y) (Zah.enc (⟨x.Act, x.Class, x.Kind, x.Proto, x.In, y, x.From, x.To, x.Set, x.Clear, x.Type_, x.Pieces⟩ : Zaf)) := Upd.snd (Upd.snd (Upd.snd (Upd.snd (Upd.snd (Upd.fst)))))
theorem Zb6 (x : Zaf) : At (Zah.enc x) 6 (ZaM.enc x.From) := At.snd (At.snd (At.snd (At.snd (At.snd (At.snd (At.fst))))))
theorem ZeC (x : Zaf) (y : Zar) : Upd (Zah.enc x) 6 (ZaM.enc y) (Zah.enc (⟨x.Act, x.Class, x.Kind, x.Proto, x.In, x.Vid, y, x.To, x.Set, x.Clear, x.Type_, x.Pieces⟩ : Zaf)) := Upd.snd (Upd.snd (Upd.snd (Upd.snd (Upd.snd (Upd.snd (Upd.fst))))))
theorem Zb9 (x : Zaf) : At (Zah.enc x) 9 (ZaM.enc x.To) := At.snd (At.snd (At.snd (At.snd (At.snd (At.snd (At.snd (At.fst)))))))
theorem Ze7 (x : Zaf) (y : Zar) : Upd (Zah.enc x) 9 (ZaM.enc y) (Zah.enc (⟨x.Act, x.Class, x.Kind, x.Proto, x.In, x.Vid, x.From, y, x.Set, x.Clear, x.Type_, x.Pieces⟩ : Zaf)) := Upd.snd (Upd.snd (Upd.snd (Upd.snd (Upd.snd (Upd.snd (Upd.snd (Upd.fst)))))))
theorem ZcD (x : Zaf) : At (Zah.enc x) 12 ((cI .i64).enc x.Set) := At.snd (At.snd (At.snd (At.snd (At.snd (At.snd (At.snd (At.snd (At.fst))))))))
theorem Zm0 (x : Zaf) (y : Int) : Upd (Zah.enc x) 12 ((cI .i64).enc y) (Zah.enc (⟨x.Act, x.Class, x.Kind, x.Proto, x.In, x.Vid, x.From, x.To, y, x.Clear, x.Type_, x.Pieces⟩ : Zaf)) := Upd.snd (Upd.snd (Upd.snd (Upd.snd (Upd.snd (Upd.snd (Upd.snd (Upd.snd (Upd.fst))))))))
theorem Zca (x : Zaf) : At (Zah.enc x) 13 ((cI .i64).enc x.Clear) := At.snd (At.snd (At.snd (At.snd (At.snd (At.snd (At.snd (At.snd (At.snd (At.fst)))))))))
theorem ZkZ (x : Zaf) (y : Int) : Upd (Zah.enc x) 13 ((cI .i64).enc y) (Zah.enc (⟨x.Act, x.Class, x.Kind, x.Proto, x.In, x.Vid, x.From, x.To, x.Set, y, x.Type_, x.Pieces⟩ : Zaf)) := Upd.snd (Upd.snd (Upd.snd (Upd.snd (Upd.snd (Upd.snd (Upd.snd (Upd.snd (Upd.snd (Upd.fst)))))))))
theorem ZcP (x : Zaf) : At (Zah.enc x) 14 ((cI .i64).enc x.Type_) := At.snd (At.snd (At.snd (At.snd (At.snd (At.snd (At.snd (At.snd (At.snd (At.snd (At.fst))))))))))
theorem Zht (x : Zaf) (y : Int) : Upd (Zah.enc x) 14 ((cI .i64).enc y) (Zah.enc (⟨x.Act, x.Class, x.Kind, x.Proto, x.In, x.Vid, x.From, x.To, x.Set, x.Clear, y, x.Pieces⟩ : Zaf)) := Upd.snd (Upd.snd (Upd.snd (Upd.snd (Upd.snd (Upd.snd (Upd.snd (Upd.snd (Upd.snd (Upd.snd (Upd.fst))))))))))
theorem Zd1 (x : Zaf) : At (Zah.enc x) 15 (cB.enc x.Pieces) := At.snd (At.snd (At.snd (At.snd (At.snd (At.snd (At.snd (At.snd (At.snd (At.snd (At.last))))))))))
theorem Zkx (x : Zaf) (y : Bool) : Upd (Zah.enc x) 15 (cB.enc y) (Zah.enc (⟨x.Act, x.Class, x.Kind, x.Proto, x.In, x.Vid, x.From, x.To, x.Set, x.Clear, x.Type_, y⟩ : Zaf)) := Upd.snd (Upd.snd (Upd.snd (Upd.snd (Upd.snd (Upd.snd (Upd.snd (Upd.snd (Upd.snd (Upd.snd (Upd.last))))))))))
structure Zbp where
 l : Sl
 i : Int
 end_ : Int
 rule : Zaf
 err : Int
 at_ : Int
 deriving DecidableEq
def ZeD : Zbp := ⟨Sl.nil, 0, 0, ZaL, 0, 0⟩
instance : Inhabited Zbp := ⟨ZeD⟩
def Zbm : Cod Zbp := (cL.pair ((cI .i64).pair ((cI .i64).pair (Zah.pair ((cI .i64).pair (cI .i64)))))).iso (fun x => (x.l, x.i, x.end_, x.rule, x.err, x.at_)) (fun p => ⟨p.1, p.2.1, p.2.2.1, p.2.2.2.1, p.2.2.2.2.1, p.2.2.2.2.2⟩) (fun _ => rfl) (fun _ => rfl)
theorem Zcs (x : Zbp) : At (Zbm.enc x) 0 (cL.enc x.l) := At.fst
theorem ZkY (x : Zbp) (y : Sl) : Upd (Zbm.enc x) 0 (cL.enc y) (Zbm.enc (⟨y, x.i, x.end_, x.rule, x.err, x.at_⟩ : Zbp)) := Upd.fst
theorem ZbC (x : Zbp) : At (Zbm.enc x) 1 ((cI .i64).enc x.i) := At.snd (At.fst)
theorem ZfR (x : Zbp) (y : Int) : Upd (Zbm.enc x) 1 ((cI .i64).enc y) (Zbm.enc (⟨x.l, y, x.end_, x.rule, x.err, x.at_⟩ : Zbp)) := Upd.snd (Upd.fst)
theorem Zjg (x : Zbp) : At (Zbm.enc x) 2 ((cI .i64).enc x.end_) := At.snd (At.snd (At.fst))
theorem Zjd (x : Zbp) (y : Int) : Upd (Zbm.enc x) 2 ((cI .i64).enc y) (Zbm.enc (⟨x.l, x.i, y, x.rule, x.err, x.at_⟩ : Zbp)) := Upd.snd (Upd.snd (Upd.fst))
theorem ZbX (x : Zbp) : At (Zbm.enc x) 3 (Zah.enc x.rule) := At.snd (At.snd (At.snd (At.fst)))
theorem Zeb (x : Zbp) (y : Zaf) : Upd (Zbm.enc x) 3 (Zah.enc y) (Zbm.enc (⟨x.l, x.i, x.end_, y, x.err, x.at_⟩ : Zbp)) := Upd.snd (Upd.snd (Upd.snd (Upd.fst)))
theorem Zew (x : Zbp) : At (Zbm.enc x) 19 ((cI .i64).enc x.err) := At.snd (At.snd (At.snd (At.snd (At.fst))))
theorem ZjS (x : Zbp) (y : Int) : Upd (Zbm.enc x) 19 ((cI .i64).enc y) (Zbm.enc (⟨x.l, x.i, x.end_, x.rule, y, x.at_⟩ : Zbp)) := Upd.snd (Upd.snd (Upd.snd (Upd.snd (Upd.fst))))
theorem ZgC (x : Zbp) : At (Zbm.enc x) 20 ((cI .i64).enc x.at_) := At.snd (At.snd (At.snd (At.snd (At.last))))
theorem ZjT (x : Zbp) (y : Int) : Upd (Zbm.enc x) 20 ((cI .i64).enc y) (Zbm.enc (⟨x.l, x.i, x.end_, x.rule, x.err, y⟩ : Zbp)) := Upd.snd (Upd.snd (Upd.snd (Upd.snd (Upd.last))))
structure ZjP where
 Op : Int
 SMac : (Vec Int 6)
 SIP : Zbw
 TMac : (Vec Int 6)
 TIP : Zbw
 deriving DecidableEq
def Zo9 : ZjP := ⟨0, (Vec.rep 6 0), ZcF, (Vec.rep 6 0), ZcF⟩
instance : Inhabited ZjP := ⟨Zo9⟩
def ZiH : Cod ZjP := ((cI .i64).pair (((cI .u8).arr 6).pair (Za8.pair (((cI .u8).arr 6).pair Za8)))).iso (fun x => (x.Op, x.SMac, x.SIP, x.TMac, x.TIP)) (fun p => ⟨p.1, p.2.1, p.2.2.1, p.2.2.2.1, p.2.2.2.2⟩) (fun _ => rfl) (fun _ => rfl)
theorem ZnH (x : ZjP) : At (ZiH.enc x) 7 (Za8.enc x.SIP) := At.snd (At.snd (At.fst))
theorem Zjw (x : ZjP) : At (ZiH.enc x) 30 (Za8.enc x.TIP) := At.snd (At.snd (At.snd (At.last)))
structure Zd3 where
 Tos : Int
 ID : Int
 DF : Bool
 MF : Bool
 Off : Int
 TTL : Int
 Proto : Int
 Src : Zbw
 Dst : Zbw
 Opts : Sl
 Data : Sl
 deriving DecidableEq
def Zo8 : Zd3 := ⟨0, 0, false, false, 0, 0, 0, ZcF, ZcF, Sl.nil, Sl.nil⟩
instance : Inhabited Zd3 := ⟨Zo8⟩
def ZdH : Cod Zd3 := ((cI .i64).pair ((cI .i64).pair (cB.pair (cB.pair ((cI .i64).pair ((cI .i64).pair ((cI .i64).pair (Za8.pair (Za8.pair (cL.pair cL)))))))))).iso (fun x => (x.Tos, x.ID, x.DF, x.MF, x.Off, x.TTL, x.Proto, x.Src, x.Dst, x.Opts, x.Data)) (fun p => ⟨p.1, p.2.1, p.2.2.1, p.2.2.2.1, p.2.2.2.2.1, p.2.2.2.2.2.1, p.2.2.2.2.2.2.1, p.2.2.2.2.2.2.2.1, p.2.2.2.2.2.2.2.2.1, p.2.2.2.2.2.2.2.2.2.1, p.2.2.2.2.2.2.2.2.2.2⟩) (fun _ => rfl) (fun _ => rfl)
theorem Zo5 (x : Zd3) : At (ZdH.enc x) 3 (cB.enc x.MF) := At.snd (At.snd (At.snd (At.fst)))
theorem ZnG (x : Zd3) : At (ZdH.enc x) 4 ((cI .i64).enc x.Off) := At.snd (At.snd (At.snd (At.snd (At.fst))))
theorem ZlL (x : Zd3) : At (ZdH.enc x) 6 ((cI .i64).enc x.Proto) := At.snd (At.snd (At.snd (At.snd (At.snd (At.snd (At.fst))))))
theorem ZnF (x : Zd3) : At (ZdH.enc x) 7 (Za8.enc x.Src) := At.snd (At.snd (At.snd (At.snd (At.snd (At.snd (At.snd (At.fst)))))))
theorem Zjv (x : Zd3) : At (ZdH.enc x) 24 (Za8.enc x.Dst) := At.snd (At.snd (At.snd (At.snd (At.snd (At.snd (At.snd (At.snd (At.fst))))))))
theorem Znm (x : Zd3) : At (ZdH.enc x) 41 (cL.enc x.Opts) := At.snd (At.snd (At.snd (At.snd (At.snd (At.snd (At.snd (At.snd (At.snd (At.fst)))))))))
theorem Zm5 (x : Zd3) (y : Sl) : Upd (ZdH.enc x) 41 (cL.enc y) (ZdH.enc (⟨x.Tos, x.ID, x.DF, x.MF, x.Off, x.TTL, x.Proto, x.Src, x.Dst, y, x.Data⟩ : Zd3)) := Upd.snd (Upd.snd (Upd.snd (Upd.snd (Upd.snd (Upd.snd (Upd.snd (Upd.snd (Upd.snd (Upd.fst)))))))))
theorem Znn (x : Zd3) : At (ZdH.enc x) 42 (cL.enc x.Data) := At.snd (At.snd (At.snd (At.snd (At.snd (At.snd (At.snd (At.snd (At.snd (At.last)))))))))
theorem Zm6 (x : Zd3) (y : Sl) : Upd (ZdH.enc x) 42 (cL.enc y) (ZdH.enc (⟨x.Tos, x.ID, x.DF, x.MF, x.Off, x.TTL, x.Proto, x.Src, x.Dst, x.Opts, y⟩ : Zd3)) := Upd.snd (Upd.snd (Upd.snd (Upd.snd (Upd.snd (Upd.snd (Upd.snd (Upd.snd (Upd.snd (Upd.last)))))))))
structure Zi0 where
 Has : Bool
 More : Bool
 ID : Int
 Off : Int
 deriving DecidableEq
def ZnK : Zi0 := ⟨false, false, 0, 0⟩
instance : Inhabited Zi0 := ⟨ZnK⟩
def ZiZ : Cod Zi0 := (cB.pair (cB.pair ((cI .i64).pair (cI .i64)))).iso (fun x => (x.Has, x.More, x.ID, x.Off)) (fun p => ⟨p.1, p.2.1, p.2.2.1, p.2.2.2⟩) (fun _ => rfl) (fun _ => rfl)
theorem Zno (x : Zi0) : At (ZiZ.enc x) 0 (cB.enc x.Has) := At.fst
structure ZdO where
 Class : Int
 Flow : Int
 Hop : Int
 Src : Zbw
 Dst : Zbw
 Exts : Sl
 Frag : Zi0
 Next : Int
 Data : Sl
 deriving DecidableEq
def Zl0 : ZdO := ⟨0, 0, 0, ZcF, ZcF, Sl.nil, ZnK, 0, Sl.nil⟩
instance : Inhabited ZdO := ⟨Zl0⟩
def Zc6 : Cod ZdO := ((cI .i64).pair ((cI .i64).pair ((cI .i64).pair (Za8.pair (Za8.pair (cL.pair (ZiZ.pair ((cI .i64).pair cL)))))))).iso (fun x => (x.Class, x.Flow, x.Hop, x.Src, x.Dst, x.Exts, x.Frag, x.Next, x.Data)) (fun p => ⟨p.1, p.2.1, p.2.2.1, p.2.2.2.1, p.2.2.2.2.1, p.2.2.2.2.2.1, p.2.2.2.2.2.2.1, p.2.2.2.2.2.2.2.1, p.2.2.2.2.2.2.2.2⟩) (fun _ => rfl) (fun _ => rfl)
theorem ZnE (x : ZdO) : At (Zc6.enc x) 3 (Za8.enc x.Src) := At.snd (At.snd (At.snd (At.fst)))
theorem Zju (x : ZdO) : At (Zc6.enc x) 20 (Za8.enc x.Dst) := At.snd (At.snd (At.snd (At.snd (At.fst))))
theorem Znk (x : ZdO) : At (Zc6.enc x) 37 (cL.enc x.Exts) := At.snd (At.snd (At.snd (At.snd (At.snd (At.fst)))))
theorem Zm3 (x : ZdO) (y : Sl) : Upd (Zc6.enc x) 37 (cL.enc y) (Zc6.enc (⟨x.Class, x.Flow, x.Hop, x.Src, x.Dst, y, x.Frag, x.Next, x.Data⟩ : ZdO)) := Upd.snd (Upd.snd (Upd.snd (Upd.snd (Upd.snd (Upd.fst)))))
theorem Znj (x : ZdO) : At (Zc6.enc x) 38 (ZiZ.enc x.Frag) := At.snd (At.snd (At.snd (At.snd (At.snd (At.snd (At.fst))))))
theorem Zni (x : ZdO) : At (Zc6.enc x) 42 ((cI .i64).enc x.Next) := At.snd (At.snd (At.snd (At.snd (At.snd (At.snd (At.snd (At.fst)))))))
theorem Znl (x : ZdO) : At (Zc6.enc x) 43 (cL.enc x.Data) := At.snd (At.snd (At.snd (At.snd (At.snd (At.snd (At.snd (At.last)))))))
theorem Zm4 (x : ZdO) (y : Sl) : Upd (Zc6.enc x) 43 (cL.enc y) (Zc6.enc (⟨x.Class, x.Flow, x.Hop, x.Src, x.Dst, x.Exts, x.Frag, x.Next, y⟩ : ZdO)) := Upd.snd (Upd.snd (Upd.snd (Upd.snd (Upd.snd (Upd.snd (Upd.snd (Upd.last)))))))
structure ZeW where
 V : Int
 Type_ : Int
 Code : Int
 Rest : Int
 Data : Sl
 deriving DecidableEq
def ZnJ : ZeW := ⟨0, 0, 0, 0, Sl.nil⟩
instance : Inhabited ZeW := ⟨ZnJ⟩
def Zfi : Cod ZeW := ((cI .i64).pair ((cI .i64).pair ((cI .i64).pair ((cI .i64).pair cL)))).iso (fun x => (x.V, x.Type_, x.Code, x.Rest, x.Data)) (fun p => ⟨p.1, p.2.1, p.2.2.1, p.2.2.2.1, p.2.2.2.2⟩) (fun _ => rfl) (fun _ => rfl)
theorem Zk3 (x : ZeW) : At (Zfi.enc x) 1 ((cI .i64).enc x.Type_) := At.snd (At.fst)
theorem ZlM (x : ZeW) : At (Zfi.enc x) 4 (cL.enc x.Data) := At.snd (At.snd (At.snd (At.last)))
theorem ZlF (x : ZeW) (y : Sl) : Upd (Zfi.enc x) 4 (cL.enc y) (Zfi.enc (⟨x.V, x.Type_, x.Code, x.Rest, y⟩ : ZeW)) := Upd.snd (Upd.snd (Upd.snd (Upd.last)))
structure ZfC where
 Sport : Int
 Dport : Int
 NoSum : Bool
 Data : Sl
 deriving DecidableEq
def Zo6 : ZfC := ⟨0, 0, false, Sl.nil⟩
instance : Inhabited ZfC := ⟨Zo6⟩
def ZfA : Cod ZfC := ((cI .i64).pair ((cI .i64).pair (cB.pair cL))).iso (fun x => (x.Sport, x.Dport, x.NoSum, x.Data)) (fun p => ⟨p.1, p.2.1, p.2.2.1, p.2.2.2⟩) (fun _ => rfl) (fun _ => rfl)
theorem ZlH (x : ZfC) : At (ZfA.enc x) 0 ((cI .i64).enc x.Sport) := At.fst
theorem ZlI (x : ZfC) : At (ZfA.enc x) 1 ((cI .i64).enc x.Dport) := At.snd (At.fst)
theorem Zne (x : ZfC) : At (ZfA.enc x) 3 (cL.enc x.Data) := At.snd (At.snd (At.last))
theorem ZmW (x : ZfC) (y : Sl) : Upd (ZfA.enc x) 3 (cL.enc y) (ZfA.enc (⟨x.Sport, x.Dport, x.NoSum, y⟩ : ZfC)) := Upd.snd (Upd.snd (Upd.last))
structure Zet where
 Sport : Int
 Dport : Int
 Seq : Int
 Ack : Int
 Flags : Int
 Win : Int
 Urg : Int
 Opts : Sl
 Data : Sl
 deriving DecidableEq
def Zo7 : Zet := ⟨0, 0, 0, 0, 0, 0, 0, Sl.nil, Sl.nil⟩
instance : Inhabited Zet := ⟨Zo7⟩
def Zeh : Cod Zet := ((cI .i64).pair ((cI .i64).pair ((cI .i64).pair ((cI .i64).pair ((cI .i64).pair ((cI .i64).pair ((cI .i64).pair (cL.pair cL)))))))).iso (fun x => (x.Sport, x.Dport, x.Seq, x.Ack, x.Flags, x.Win, x.Urg, x.Opts, x.Data)) (fun p => ⟨p.1, p.2.1, p.2.2.1, p.2.2.2.1, p.2.2.2.2.1, p.2.2.2.2.2.1, p.2.2.2.2.2.2.1, p.2.2.2.2.2.2.2.1, p.2.2.2.2.2.2.2.2⟩) (fun _ => rfl) (fun _ => rfl)
theorem ZlJ (x : Zet) : At (Zeh.enc x) 0 ((cI .i64).enc x.Sport) := At.fst
theorem ZlK (x : Zet) : At (Zeh.enc x) 1 ((cI .i64).enc x.Dport) := At.snd (At.fst)
theorem Zh7 (x : Zet) : At (Zeh.enc x) 4 ((cI .i64).enc x.Flags) := At.snd (At.snd (At.snd (At.snd (At.fst))))
theorem Znf (x : Zet) : At (Zeh.enc x) 7 (cL.enc x.Opts) := At.snd (At.snd (At.snd (At.snd (At.snd (At.snd (At.snd (At.fst)))))))
theorem ZmX (x : Zet) (y : Sl) : Upd (Zeh.enc x) 7 (cL.enc y) (Zeh.enc (⟨x.Sport, x.Dport, x.Seq, x.Ack, x.Flags, x.Win, x.Urg, y, x.Data⟩ : Zet)) := Upd.snd (Upd.snd (Upd.snd (Upd.snd (Upd.snd (Upd.snd (Upd.snd (Upd.fst)))))))
theorem Zng (x : Zet) : At (Zeh.enc x) 8 (cL.enc x.Data) := At.snd (At.snd (At.snd (At.snd (At.snd (At.snd (At.snd (At.last)))))))
theorem ZmY (x : Zet) (y : Sl) : Upd (Zeh.enc x) 8 (cL.enc y) (Zeh.enc (⟨x.Sport, x.Dport, x.Seq, x.Ack, x.Flags, x.Win, x.Urg, x.Opts, y⟩ : Zet)) := Upd.snd (Upd.snd (Upd.snd (Upd.snd (Upd.snd (Upd.snd (Upd.snd (Upd.last)))))))
structure Zat where
 Dst : (Vec Int 6)
 Src : (Vec Int 6)
 Tags : Sl
 Kind : Int
 Arp : ZjP
 Ip4 : Zd3
 Ip6 : ZdO
 L4 : Int
 Icmp : ZeW
 Udp : ZfC
 Tcp : Zet
 deriving DecidableEq
def Zig : Zat := ⟨(Vec.rep 6 0), (Vec.rep 6 0), Sl.nil, 0, Zo9, Zo8, Zl0, 0, ZnJ, Zo6, Zo7⟩
instance : Inhabited Zat := ⟨Zig⟩
def Zaz : Cod Zat := (((cI .u8).arr 6).pair (((cI .u8).arr 6).pair (cL.pair ((cI .i64).pair (ZiH.pair (ZdH.pair (Zc6.pair ((cI .i64).pair (Zfi.pair (ZfA.pair Zeh)))))))))).iso (fun x => (x.Dst, x.Src, x.Tags, x.Kind, x.Arp, x.Ip4, x.Ip6, x.L4, x.Icmp, x.Udp, x.Tcp)) (fun p => ⟨p.1, p.2.1, p.2.2.1, p.2.2.2.1, p.2.2.2.2.1, p.2.2.2.2.2.1, p.2.2.2.2.2.2.1, p.2.2.2.2.2.2.2.1, p.2.2.2.2.2.2.2.2.1, p.2.2.2.2.2.2.2.2.2.1, p.2.2.2.2.2.2.2.2.2.2⟩) (fun _ => rfl) (fun _ => rfl)
theorem ZfJ (x : Zat) : At (Zaz.enc x) 12 (cL.enc x.Tags) := At.snd (At.snd (At.fst))
theorem Zky (x : Zat) (y : Sl) : Upd (Zaz.enc x) 12 (cL.enc y) (Zaz.enc (⟨x.Dst, x.Src, y, x.Kind, x.Arp, x.Ip4, x.Ip6, x.L4, x.Icmp, x.Udp, x.Tcp⟩ : Zat)) := Upd.snd (Upd.snd (Upd.fst))
theorem Zdn (x : Zat) : At (Zaz.enc x) 13 ((cI .i64).enc x.Kind) := At.snd (At.snd (At.snd (At.fst)))
theorem ZfS (x : Zat) : At (Zaz.enc x) 14 (ZiH.enc x.Arp) := At.snd (At.snd (At.snd (At.snd (At.fst))))
theorem Zcb (x : Zat) : At (Zaz.enc x) 61 (ZdH.enc x.Ip4) := At.snd (At.snd (At.snd (At.snd (At.snd (At.fst)))))
theorem Zhw (x : Zat) (y : Zd3) : Upd (Zaz.enc x) 61 (ZdH.enc y) (Zaz.enc (⟨x.Dst, x.Src, x.Tags, x.Kind, x.Arp, y, x.Ip6, x.L4, x.Icmp, x.Udp, x.Tcp⟩ : Zat)) := Upd.snd (Upd.snd (Upd.snd (Upd.snd (Upd.snd (Upd.fst)))))
theorem ZdB (x : Zat) : At (Zaz.enc x) 104 (Zc6.enc x.Ip6) := At.snd (At.snd (At.snd (At.snd (At.snd (At.snd (At.fst))))))
theorem Zk1 (x : Zat) (y : ZdO) : Upd (Zaz.enc x) 104 (Zc6.enc y) (Zaz.enc (⟨x.Dst, x.Src, x.Tags, x.Kind, x.Arp, x.Ip4, y, x.L4, x.Icmp, x.Udp, x.Tcp⟩ : Zat)) := Upd.snd (Upd.snd (Upd.snd (Upd.snd (Upd.snd (Upd.snd (Upd.fst))))))
theorem Zf6 (x : Zat) : At (Zaz.enc x) 148 ((cI .i64).enc x.L4) := At.snd (At.snd (At.snd (At.snd (At.snd (At.snd (At.snd (At.fst)))))))
theorem ZfK (x : Zat) : At (Zaz.enc x) 149 (Zfi.enc x.Icmp) := At.snd (At.snd (At.snd (At.snd (At.snd (At.snd (At.snd (At.snd (At.fst))))))))
theorem Zkz (x : Zat) (y : ZeW) : Upd (Zaz.enc x) 149 (Zfi.enc y) (Zaz.enc (⟨x.Dst, x.Src, x.Tags, x.Kind, x.Arp, x.Ip4, x.Ip6, x.L4, y, x.Udp, x.Tcp⟩ : Zat)) := Upd.snd (Upd.snd (Upd.snd (Upd.snd (Upd.snd (Upd.snd (Upd.snd (Upd.snd (Upd.fst))))))))
theorem Ze0 (x : Zat) : At (Zaz.enc x) 154 (ZfA.enc x.Udp) := At.snd (At.snd (At.snd (At.snd (At.snd (At.snd (At.snd (At.snd (At.snd (At.fst)))))))))
theorem Zk0 (x : Zat) (y : ZfC) : Upd (Zaz.enc x) 154 (ZfA.enc y) (Zaz.enc (⟨x.Dst, x.Src, x.Tags, x.Kind, x.Arp, x.Ip4, x.Ip6, x.L4, x.Icmp, y, x.Tcp⟩ : Zat)) := Upd.snd (Upd.snd (Upd.snd (Upd.snd (Upd.snd (Upd.snd (Upd.snd (Upd.snd (Upd.snd (Upd.fst)))))))))
theorem ZcQ (x : Zat) : At (Zaz.enc x) 158 (Zeh.enc x.Tcp) := At.snd (At.snd (At.snd (At.snd (At.snd (At.snd (At.snd (At.snd (At.snd (At.last)))))))))
theorem Zhv (x : Zat) (y : Zet) : Upd (Zaz.enc x) 158 (Zeh.enc y) (Zaz.enc (⟨x.Dst, x.Src, x.Tags, x.Kind, x.Arp, x.Ip4, x.Ip6, x.L4, x.Icmp, x.Udp, y⟩ : Zat)) := Upd.snd (Upd.snd (Upd.snd (Upd.snd (Upd.snd (Upd.snd (Upd.snd (Upd.snd (Upd.snd (Upd.last)))))))))
structure ZbV where
 set : Int
 clear : Int
 deriving DecidableEq
def ZhX : ZbV := ⟨0, 0⟩
instance : Inhabited ZbV := ⟨ZhX⟩
def Zbx : Cod ZbV := ((cI .i64).pair (cI .i64)).iso (fun x => (x.set, x.clear)) (fun p => ⟨p.1, p.2⟩) (fun _ => rfl) (fun _ => rfl)
theorem Zf2 (x : ZbV) : At (Zbx.enc x) 0 ((cI .i64).enc x.set) := At.fst
theorem ZiN (x : ZbV) (y : Int) : Upd (Zbx.enc x) 0 ((cI .i64).enc y) (Zbx.enc (⟨y, x.clear⟩ : ZbV)) := Upd.fst
theorem ZhW (x : ZbV) : At (Zbx.enc x) 1 ((cI .i64).enc x.clear) := At.last
theorem ZhT (x : ZbV) (y : Int) : Upd (Zbx.enc x) 1 ((cI .i64).enc y) (Zbx.enc (⟨x.set, y⟩ : ZbV)) := Upd.last
structure Zed where
 deriving DecidableEq
def ZdA : Zed := ⟨⟩
instance : Inhabited Zed := ⟨ZdA⟩
def Zb8 : Cod Zed := Cod.unit.iso (fun _ => ()) (fun _ => ⟨⟩) (fun _ => rfl) (fun _ => rfl)
structure Zft where
 rules : Sl
 tests : Sl
 deriving DecidableEq
def Zhx : Zft := ⟨Sl.nil, Sl.nil⟩
instance : Inhabited Zft := ⟨Zhx⟩
def ZcM : Cod Zft := (cL.pair cL).iso (fun x => (x.rules, x.tests)) (fun p => ⟨p.1, p.2⟩) (fun _ => rfl) (fun _ => rfl)
theorem ZcZ (x : Zft) : At (ZcM.enc x) 0 (cL.enc x.rules) := At.fst
theorem Zkw (x : Zft) (y : Sl) : Upd (ZcM.enc x) 0 (cL.enc y) (ZcM.enc (⟨y, x.tests⟩ : Zft)) := Upd.fst
theorem ZeK (x : Zft) : At (ZcM.enc x) 1 (cL.enc x.tests) := At.last
theorem Zkv (x : Zft) (y : Sl) : Upd (ZcM.enc x) 1 (cL.enc y) (ZcM.enc (⟨x.rules, y⟩ : Zft)) := Upd.last
structure ZcT where
 addr : (Option Addr)
 buf : Sl
 deriving DecidableEq
def ZeS : ZcT := ⟨none, Sl.nil⟩
instance : Inhabited ZcT := ⟨ZeS⟩
def Zcr : Cod ZcT := (cP.pair cL).iso (fun x => (x.addr, x.buf)) (fun p => ⟨p.1, p.2⟩) (fun _ => rfl) (fun _ => rfl)
theorem ZfI (x : ZcT) : At (Zcr.enc x) 0 (cP.enc x.addr) := At.fst
theorem ZhS (x : ZcT) (y : (Option Addr)) : Upd (Zcr.enc x) 0 (cP.enc y) (Zcr.enc (⟨y, x.buf⟩ : ZcT)) := Upd.fst
theorem ZbF (x : ZcT) : At (Zcr.enc x) 1 (cL.enc x.buf) := At.last
theorem ZfO (x : ZcT) (y : Sl) : Upd (Zcr.enc x) 1 (cL.enc y) (Zcr.enc (⟨x.addr, y⟩ : ZcT)) := Upd.last
structure Zdv where
 Kind : Int
 Data : Sl
 deriving DecidableEq
def ZlZ : Zdv := ⟨0, Sl.nil⟩
instance : Inhabited Zdv := ⟨ZlZ⟩
def ZcC : Cod Zdv := ((cI .i64).pair cL).iso (fun x => (x.Kind, x.Data)) (fun p => ⟨p.1, p.2⟩) (fun _ => rfl) (fun _ => rfl)
theorem ZiQ (x : Zdv) : At (ZcC.enc x) 0 ((cI .i64).enc x.Kind) := At.fst
theorem Zm1 (x : Zdv) (y : Int) : Upd (ZcC.enc x) 0 ((cI .i64).enc y) (ZcC.enc (⟨y, x.Data⟩ : Zdv)) := Upd.fst
theorem Znh (x : Zdv) : At (ZcC.enc x) 1 (cL.enc x.Data) := At.last
theorem Zm2 (x : Zdv) (y : Sl) : Upd (ZcC.enc x) 1 (cL.enc y) (ZcC.enc (⟨x.Kind, y⟩ : Zdv)) := Upd.last
structure ZcR where
 Kind : Int
 Opts : Sl
 Data : Sl
 deriving DecidableEq
def Zl1 : ZcR := ⟨0, Sl.nil, Sl.nil⟩
instance : Inhabited ZcR := ⟨Zl1⟩
def Zcu : Cod ZcR := ((cI .i64).pair (cL.pair cL)).iso (fun x => (x.Kind, x.Opts, x.Data)) (fun p => ⟨p.1, p.2.1, p.2.2⟩) (fun _ => rfl) (fun _ => rfl)
theorem ZgE (x : ZcR) : At (Zcu.enc x) 0 ((cI .i64).enc x.Kind) := At.fst
theorem Zm8 (x : ZcR) (y : Int) : Upd (Zcu.enc x) 0 ((cI .i64).enc y) (Zcu.enc (⟨y, x.Opts, x.Data⟩ : ZcR)) := Upd.fst
theorem Znp (x : ZcR) : At (Zcu.enc x) 1 (cL.enc x.Opts) := At.snd (At.fst)
theorem Zm7 (x : ZcR) (y : Sl) : Upd (Zcu.enc x) 1 (cL.enc y) (Zcu.enc (⟨x.Kind, y, x.Data⟩ : ZcR)) := Upd.snd (Upd.fst)
theorem ZiR (x : ZcR) : At (Zcu.enc x) 2 (cL.enc x.Data) := At.snd (At.last)
theorem Zm9 (x : ZcR) (y : Sl) : Upd (Zcu.enc x) 2 (cL.enc y) (Zcu.enc (⟨x.Kind, x.Opts, y⟩ : ZcR)) := Upd.snd (Upd.last)
structure Zg5 where
 TPID : Int
 PCP : Int
 DEI : Bool
 VID : Int
 deriving DecidableEq
def ZlY : Zg5 := ⟨0, 0, false, 0⟩
instance : Inhabited Zg5 := ⟨ZlY⟩
def ZfB : Cod Zg5 := ((cI .i64).pair ((cI .i64).pair (cB.pair (cI .i64)))).iso (fun x => (x.TPID, x.PCP, x.DEI, x.VID)) (fun p => ⟨p.1, p.2.1, p.2.2.1, p.2.2.2⟩) (fun _ => rfl) (fun _ => rfl)
theorem ZnD (x : Zg5) : At (ZfB.enc x) 3 ((cI .i64).enc x.VID) := At.snd (At.snd (At.last))
structure Zbv where
 Act : Int
 Class : Int
 Rule : Int
 deriving DecidableEq
def Zfo : Zbv := ⟨0, 0, 0⟩
instance : Inhabited Zbv := ⟨Zfo⟩
def Zcf : Cod Zbv := ((cI .i64).pair ((cI .i64).pair (cI .i64))).iso (fun x => (x.Act, x.Class, x.Rule)) (fun p => ⟨p.1, p.2.1, p.2.2⟩) (fun _ => rfl) (fun _ => rfl)
theorem ZgW (x : Zbv) : At (Zcf.enc x) 0 ((cI .i64).enc x.Act) := At.fst
theorem ZgV (x : Zbv) (y : Int) : Upd (Zcf.enc x) 0 ((cI .i64).enc y) (Zcf.enc (⟨y, x.Class, x.Rule⟩ : Zbv)) := Upd.fst
theorem Zgf (x : Zbv) : At (Zcf.enc x) 1 ((cI .i64).enc x.Class) := At.snd (At.fst)
theorem Zje (x : Zbv) (y : Int) : Upd (Zcf.enc x) 1 ((cI .i64).enc y) (Zcf.enc (⟨x.Act, y, x.Rule⟩ : Zbv)) := Upd.snd (Upd.fst)
theorem ZgD (x : Zbv) : At (Zcf.enc x) 2 ((cI .i64).enc x.Rule) := At.snd (At.last)
theorem ZgA (x : Zbv) (y : Int) : Upd (Zcf.enc x) 2 ((cI .i64).enc y) (Zcf.enc (⟨x.Act, x.Class, y⟩ : Zbv)) := Upd.snd (Upd.last)
theorem Ty3 : Ty Tryz.prog 3 (cI .i64) 0 := ⟨by kernel_rfl, by kernel_rfl⟩
theorem Ty4 : Ty Tryz.prog 4 cB false := ⟨by kernel_rfl, by kernel_rfl⟩
theorem Ty5 : Ty Tryz.prog 5 (cI .u8) 0 := ⟨by kernel_rfl, by kernel_rfl⟩
theorem Ty9 : Ty Tryz.prog 9 cS ByteArray.empty := ⟨by kernel_rfl, by kernel_rfl⟩
theorem Ty22 : Ty Tryz.prog 22 cL Sl.nil := ⟨by kernel_rfl, by kernel_rfl⟩
theorem Ty25 : Ty Tryz.prog 25 (cI .i64) 0 := ⟨by kernel_rfl, by kernel_rfl⟩
theorem Ty28 : Ty Tryz.prog 28 cL Sl.nil := ⟨by kernel_rfl, by kernel_rfl⟩
theorem Ty30 : Ty Tryz.prog 30 cL Sl.nil := ⟨by kernel_rfl, by kernel_rfl⟩
theorem Ty31 : Ty Tryz.prog 31 cL Sl.nil := ⟨by kernel_rfl, by kernel_rfl⟩
theorem Ty33 : Ty Tryz.prog 33 ZaM Za6 := ⟨by kernel_rfl, by kernel_rfl⟩
theorem Ty35 : Ty Tryz.prog 35 Zah ZaL := ⟨by kernel_rfl, by kernel_rfl⟩
theorem Ty47 : Ty Tryz.prog 47 cL Sl.nil := ⟨by kernel_rfl, by kernel_rfl⟩
theorem Ty48 : Ty Tryz.prog 48 ((cI .u8).arr 16) (Vec.rep 16 0) := ⟨by kernel_rfl, by kernel_rfl⟩
theorem Ty50 : Ty Tryz.prog 50 Za8 ZcF := ⟨by kernel_rfl, by kernel_rfl⟩
theorem Ty53 : Ty Tryz.prog 53 cL Sl.nil := ⟨by kernel_rfl, by kernel_rfl⟩
theorem Ty54 : Ty Tryz.prog 54 cL Sl.nil := ⟨by kernel_rfl, by kernel_rfl⟩
theorem Ty57 : Ty Tryz.prog 57 cL Sl.nil := ⟨by kernel_rfl, by kernel_rfl⟩
theorem Ty61 : Ty Tryz.prog 61 Zc6 Zl0 := ⟨by kernel_rfl, by kernel_rfl⟩
theorem Ty69 : Ty Tryz.prog 69 Zaz Zig := ⟨by kernel_rfl, by kernel_rfl⟩
theorem Ty74 : Ty Tryz.prog 74 Zcf Zfo := ⟨by kernel_rfl, by kernel_rfl⟩
theorem Ty77 : Ty Tryz.prog 77 cL Sl.nil := ⟨by kernel_rfl, by kernel_rfl⟩
theorem Ty79 : Ty Tryz.prog 79 ZcM Zhx := ⟨by kernel_rfl, by kernel_rfl⟩
theorem Ty82 : Ty Tryz.prog 82 cL Sl.nil := ⟨by kernel_rfl, by kernel_rfl⟩
theorem Ty87 : Ty Tryz.prog 87 Zbm ZeD := ⟨by kernel_rfl, by kernel_rfl⟩
theorem Ty90 : Ty Tryz.prog 90 Zbr Zdf := ⟨by kernel_rfl, by kernel_rfl⟩
theorem Zq2 : Ty Tryz.prog 106 cL Sl.nil := ⟨by kernel_rfl, by kernel_rfl⟩
theorem ZwL : Ty Tryz.prog 109 cV ⟨.nilIface, rfl⟩ := ⟨by kernel_rfl, by kernel_rfl⟩
theorem ZoX : Ty Tryz.prog 114 (cB.arr 256) (Vec.rep 256 false) := ⟨by kernel_rfl, by kernel_rfl⟩
theorem Zc5 : Ty Tryz.prog 129 ZaI ZbP := ⟨by kernel_rfl, by kernel_rfl⟩
theorem Zgj : Ty Tryz.prog 131 Zbd Zgn := ⟨by kernel_rfl, by kernel_rfl⟩
theorem ZwK : Ty Tryz.prog 139 ZcC ZlZ := ⟨by kernel_rfl, by kernel_rfl⟩
theorem Zx4 : Ty Tryz.prog 155 Zbx ZhX := ⟨by kernel_rfl, by kernel_rfl⟩
theorem Zx3 : Ty Tryz.prog 158 Zb8 ZdA := ⟨by kernel_rfl, by kernel_rfl⟩
theorem ZwJ : Ty Tryz.prog 171 cP none := ⟨by kernel_rfl, by kernel_rfl⟩
theorem Zx2 : Ty Tryz.prog 173 Zcr ZeS := ⟨by kernel_rfl, by kernel_rfl⟩
theorem ZwI : Ty Tryz.prog 181 Zcu Zl1 := ⟨by kernel_rfl, by kernel_rfl⟩
theorem Zvv : Ty Tryz.prog 202 ((cI .u8).arr 12) (Vec.rep 12 0) := ⟨by kernel_rfl, by kernel_rfl⟩
theorem ZxB : Ty Tryz.prog 203 ((cI .i64).arr 8) (Vec.rep 8 0) := ⟨by kernel_rfl, by kernel_rfl⟩
theorem Zk2 : Ty Tryz.prog 207 cL Sl.nil := ⟨by kernel_rfl, by kernel_rfl⟩
theorem ZkA : Ty Tryz.prog 227 Zby Zk4 := ⟨by kernel_rfl, by kernel_rfl⟩
theorem Zx1 : Ty Tryz.prog 228 ((cI .u8).arr 24) (Vec.rep 24 0) := ⟨by kernel_rfl, by kernel_rfl⟩
theorem Zx0 : Ty Tryz.prog 229 (cI .u64) 0 := ⟨by kernel_rfl, by kernel_rfl⟩
theorem ZhU : Ty Tryz.prog 237 ((cI .u8).arr 4) (Vec.rep 4 0) := ⟨by kernel_rfl, by kernel_rfl⟩
theorem ZxZ : Ty Tryz.prog 242 Zdb ZiS := ⟨by kernel_rfl, by kernel_rfl⟩
theorem ZxY : Ty Tryz.prog 249 ((cI .u8).arr 65) (Vec.rep 65 0) := ⟨by kernel_rfl, by kernel_rfl⟩
theorem ZxX : Ty Tryz.prog 272 ZfB ZlY := ⟨by kernel_rfl, by kernel_rfl⟩
theorem F4 : Fun Tryz.prog 4 Tryz.f4 := ⟨Tryz.func4, by kernel_rfl, by kernel_rfl⟩
theorem F5 : Fun Tryz.prog 5 Tryz.f5 := ⟨Tryz.func5, by kernel_rfl, by kernel_rfl⟩
theorem F6 : Fun Tryz.prog 6 Tryz.f6 := ⟨Tryz.func6, by kernel_rfl, by kernel_rfl⟩
theorem F7 : Fun Tryz.prog 7 Tryz.f7 := ⟨Tryz.func7, by kernel_rfl, by kernel_rfl⟩
theorem F8 : Fun Tryz.prog 8 Tryz.f8 := ⟨Tryz.func8, by kernel_rfl, by kernel_rfl⟩
theorem F9 : Fun Tryz.prog 9 Tryz.f9 := ⟨Tryz.func9, by kernel_rfl, by kernel_rfl⟩
theorem F10 : Fun Tryz.prog 10 Tryz.f10 := ⟨Tryz.func10, by kernel_rfl, by kernel_rfl⟩
theorem F11 : Fun Tryz.prog 11 Tryz.f11 := ⟨Tryz.func11, by kernel_rfl, by kernel_rfl⟩
theorem F12 : Fun Tryz.prog 12 Tryz.f12 := ⟨Tryz.func12, by kernel_rfl, by kernel_rfl⟩
theorem F13 : Fun Tryz.prog 13 Tryz.f13 := ⟨Tryz.func13, by kernel_rfl, by kernel_rfl⟩
theorem F14 : Fun Tryz.prog 14 Tryz.f14 := ⟨Tryz.func14, by kernel_rfl, by kernel_rfl⟩
theorem F15 : Fun Tryz.prog 15 Tryz.f15 := ⟨Tryz.func15, by kernel_rfl, by kernel_rfl⟩
theorem F16 : Fun Tryz.prog 16 Tryz.f16 := ⟨Tryz.func16, by kernel_rfl, by kernel_rfl⟩
theorem F17 : Fun Tryz.prog 17 Tryz.f17 := ⟨Tryz.func17, by kernel_rfl, by kernel_rfl⟩
theorem F18 : Fun Tryz.prog 18 Tryz.f18 := ⟨Tryz.func18, by kernel_rfl, by kernel_rfl⟩
theorem F19 : Fun Tryz.prog 19 Tryz.f19 := ⟨Tryz.func19, by kernel_rfl, by kernel_rfl⟩
theorem F20 : Fun Tryz.prog 20 Tryz.f20 := ⟨Tryz.func20, by kernel_rfl, by kernel_rfl⟩
theorem F21 : Fun Tryz.prog 21 Tryz.f21 := ⟨Tryz.func21, by kernel_rfl, by kernel_rfl⟩
theorem F22 : Fun Tryz.prog 22 Tryz.f22 := ⟨Tryz.func22, by kernel_rfl, by kernel_rfl⟩
theorem F23 : Fun Tryz.prog 23 Tryz.f23 := ⟨Tryz.func23, by kernel_rfl, by kernel_rfl⟩
theorem F24 : Fun Tryz.prog 24 Tryz.f24 := ⟨Tryz.func24, by kernel_rfl, by kernel_rfl⟩
theorem F25 : Fun Tryz.prog 25 Tryz.f25 := ⟨Tryz.func25, by kernel_rfl, by kernel_rfl⟩
theorem F26 : Fun Tryz.prog 26 Tryz.f26 := ⟨Tryz.func26, by kernel_rfl, by kernel_rfl⟩
theorem F27 : Fun Tryz.prog 27 Tryz.f27 := ⟨Tryz.func27, by kernel_rfl, by kernel_rfl⟩
theorem F28 : Fun Tryz.prog 28 Tryz.f28 := ⟨Tryz.func28, by kernel_rfl, by kernel_rfl⟩
theorem F29 : Fun Tryz.prog 29 Tryz.f29 := ⟨Tryz.func29, by kernel_rfl, by kernel_rfl⟩
theorem F30 : Fun Tryz.prog 30 Tryz.f30 := ⟨Tryz.func30, by kernel_rfl, by kernel_rfl⟩
theorem F31 : Fun Tryz.prog 31 Tryz.f31 := ⟨Tryz.func31, by kernel_rfl, by kernel_rfl⟩
theorem F32 : Fun Tryz.prog 32 Tryz.f32 := ⟨Tryz.func32, by kernel_rfl, by kernel_rfl⟩
theorem F33 : Fun Tryz.prog 33 Tryz.f33 := ⟨Tryz.func33, by kernel_rfl, by kernel_rfl⟩
theorem F35 : Fun Tryz.prog 35 Tryz.f35 := ⟨Tryz.func35, by kernel_rfl, by kernel_rfl⟩
theorem F36 : Fun Tryz.prog 36 Tryz.f36 := ⟨Tryz.func36, by kernel_rfl, by kernel_rfl⟩
theorem F38 : Fun Tryz.prog 38 Tryz.f38 := ⟨Tryz.func38, by kernel_rfl, by kernel_rfl⟩
theorem F39 : Fun Tryz.prog 39 Tryz.f39 := ⟨Tryz.func39, by kernel_rfl, by kernel_rfl⟩
theorem F40 : Fun Tryz.prog 40 Tryz.f40 := ⟨Tryz.func40, by kernel_rfl, by kernel_rfl⟩
theorem F41 : Fun Tryz.prog 41 Tryz.f41 := ⟨Tryz.func41, by kernel_rfl, by kernel_rfl⟩
theorem F42 : Fun Tryz.prog 42 Tryz.f42 := ⟨Tryz.func42, by kernel_rfl, by kernel_rfl⟩
theorem F43 : Fun Tryz.prog 43 Tryz.f43 := ⟨Tryz.func43, by kernel_rfl, by kernel_rfl⟩
theorem F44 : Fun Tryz.prog 44 Tryz.f44 := ⟨Tryz.func44, by kernel_rfl, by kernel_rfl⟩
theorem F45 : Fun Tryz.prog 45 Tryz.f45 := ⟨Tryz.func45, by kernel_rfl, by kernel_rfl⟩
theorem F46 : Fun Tryz.prog 46 Tryz.f46 := ⟨Tryz.func46, by kernel_rfl, by kernel_rfl⟩
theorem F47 : Fun Tryz.prog 47 Tryz.f47 := ⟨Tryz.func47, by kernel_rfl, by kernel_rfl⟩
theorem F48 : Fun Tryz.prog 48 Tryz.f48 := ⟨Tryz.func48, by kernel_rfl, by kernel_rfl⟩
theorem F49 : Fun Tryz.prog 49 Tryz.f49 := ⟨Tryz.func49, by kernel_rfl, by kernel_rfl⟩
theorem F50 : Fun Tryz.prog 50 Tryz.f50 := ⟨Tryz.func50, by kernel_rfl, by kernel_rfl⟩
theorem F51 : Fun Tryz.prog 51 Tryz.f51 := ⟨Tryz.func51, by kernel_rfl, by kernel_rfl⟩
theorem F52 : Fun Tryz.prog 52 Tryz.f52 := ⟨Tryz.func52, by kernel_rfl, by kernel_rfl⟩
theorem F53 : Fun Tryz.prog 53 Tryz.f53 := ⟨Tryz.func53, by kernel_rfl, by kernel_rfl⟩
theorem F54 : Fun Tryz.prog 54 Tryz.f54 := ⟨Tryz.func54, by kernel_rfl, by kernel_rfl⟩
theorem F55 : Fun Tryz.prog 55 Tryz.f55 := ⟨Tryz.func55, by kernel_rfl, by kernel_rfl⟩
theorem F56 : Fun Tryz.prog 56 Tryz.f56 := ⟨Tryz.func56, by kernel_rfl, by kernel_rfl⟩
theorem F57 : Fun Tryz.prog 57 Tryz.f57 := ⟨Tryz.func57, by kernel_rfl, by kernel_rfl⟩
theorem F58 : Fun Tryz.prog 58 Tryz.f58 := ⟨Tryz.func58, by kernel_rfl, by kernel_rfl⟩
theorem F61 : Fun Tryz.prog 61 Tryz.f61 := ⟨Tryz.func61, by kernel_rfl, by kernel_rfl⟩
theorem F62 : Fun Tryz.prog 62 Tryz.f62 := ⟨Tryz.func62, by kernel_rfl, by kernel_rfl⟩
theorem F63 : Fun Tryz.prog 63 Tryz.f63 := ⟨Tryz.func63, by kernel_rfl, by kernel_rfl⟩
theorem F64 : Fun Tryz.prog 64 Tryz.f64 := ⟨Tryz.func64, by kernel_rfl, by kernel_rfl⟩
theorem F65 : Fun Tryz.prog 65 Tryz.f65 := ⟨Tryz.func65, by kernel_rfl, by kernel_rfl⟩
theorem F66 : Fun Tryz.prog 66 Tryz.f66 := ⟨Tryz.func66, by kernel_rfl, by kernel_rfl⟩
theorem F67 : Fun Tryz.prog 67 Tryz.f67 := ⟨Tryz.func67, by kernel_rfl, by kernel_rfl⟩
theorem F68 : Fun Tryz.prog 68 Tryz.f68 := ⟨Tryz.func68, by kernel_rfl, by kernel_rfl⟩
theorem F69 : Fun Tryz.prog 69 Tryz.f69 := ⟨Tryz.func69, by kernel_rfl, by kernel_rfl⟩
theorem F70 : Fun Tryz.prog 70 Tryz.f70 := ⟨Tryz.func70, by kernel_rfl, by kernel_rfl⟩
theorem F71 : Fun Tryz.prog 71 Tryz.f71 := ⟨Tryz.func71, by kernel_rfl, by kernel_rfl⟩
theorem F72 : Fun Tryz.prog 72 Tryz.f72 := ⟨Tryz.func72, by kernel_rfl, by kernel_rfl⟩
theorem F73 : Fun Tryz.prog 73 Tryz.f73 := ⟨Tryz.func73, by kernel_rfl, by kernel_rfl⟩
theorem F74 : Fun Tryz.prog 74 Tryz.f74 := ⟨Tryz.func74, by kernel_rfl, by kernel_rfl⟩
theorem F75 : Fun Tryz.prog 75 Tryz.f75 := ⟨Tryz.func75, by kernel_rfl, by kernel_rfl⟩
theorem F76 : Fun Tryz.prog 76 Tryz.f76 := ⟨Tryz.func76, by kernel_rfl, by kernel_rfl⟩
theorem F77 : Fun Tryz.prog 77 Tryz.f77 := ⟨Tryz.func77, by kernel_rfl, by kernel_rfl⟩
theorem F78 : Fun Tryz.prog 78 Tryz.f78 := ⟨Tryz.func78, by kernel_rfl, by kernel_rfl⟩
theorem F79 : Fun Tryz.prog 79 Tryz.f79 := ⟨Tryz.func79, by kernel_rfl, by kernel_rfl⟩
theorem F80 : Fun Tryz.prog 80 Tryz.f80 := ⟨Tryz.func80, by kernel_rfl, by kernel_rfl⟩
theorem F81 : Fun Tryz.prog 81 Tryz.f81 := ⟨Tryz.func81, by kernel_rfl, by kernel_rfl⟩
theorem F82 : Fun Tryz.prog 82 Tryz.f82 := ⟨Tryz.func82, by kernel_rfl, by kernel_rfl⟩
theorem F85 : Fun Tryz.prog 85 Tryz.f85 := ⟨Tryz.func85, by kernel_rfl, by kernel_rfl⟩
theorem F86 : Fun Tryz.prog 86 Tryz.f86 := ⟨Tryz.func86, by kernel_rfl, by kernel_rfl⟩
theorem F87 : Fun Tryz.prog 87 Tryz.f87 := ⟨Tryz.func87, by kernel_rfl, by kernel_rfl⟩
theorem F88 : Fun Tryz.prog 88 Tryz.f88 := ⟨Tryz.func88, by kernel_rfl, by kernel_rfl⟩
theorem F89 : Fun Tryz.prog 89 Tryz.f89 := ⟨Tryz.func89, by kernel_rfl, by kernel_rfl⟩
theorem F90 : Fun Tryz.prog 90 Tryz.f90 := ⟨Tryz.func90, by kernel_rfl, by kernel_rfl⟩
theorem F91 : Fun Tryz.prog 91 Tryz.f91 := ⟨Tryz.func91, by kernel_rfl, by kernel_rfl⟩
theorem F92 : Fun Tryz.prog 92 Tryz.f92 := ⟨Tryz.func92, by kernel_rfl, by kernel_rfl⟩
theorem F93 : Fun Tryz.prog 93 Tryz.f93 := ⟨Tryz.func93, by kernel_rfl, by kernel_rfl⟩
theorem F94 : Fun Tryz.prog 94 Tryz.f94 := ⟨Tryz.func94, by kernel_rfl, by kernel_rfl⟩
theorem F95 : Fun Tryz.prog 95 Tryz.f95 := ⟨Tryz.func95, by kernel_rfl, by kernel_rfl⟩
theorem F96 : Fun Tryz.prog 96 Tryz.f96 := ⟨Tryz.func96, by kernel_rfl, by kernel_rfl⟩
theorem F97 : Fun Tryz.prog 97 Tryz.f97 := ⟨Tryz.func97, by kernel_rfl, by kernel_rfl⟩
theorem F98 : Fun Tryz.prog 98 Tryz.f98 := ⟨Tryz.func98, by kernel_rfl, by kernel_rfl⟩
theorem F99 : Fun Tryz.prog 99 Tryz.f99 := ⟨Tryz.func99, by kernel_rfl, by kernel_rfl⟩
theorem F100 : Fun Tryz.prog 100 Tryz.f100 := ⟨Tryz.func100, by kernel_rfl, by kernel_rfl⟩
theorem F101 : Fun Tryz.prog 101 Tryz.f101 := ⟨Tryz.func101, by kernel_rfl, by kernel_rfl⟩
theorem F102 : Fun Tryz.prog 102 Tryz.f102 := ⟨Tryz.func102, by kernel_rfl, by kernel_rfl⟩
theorem F103 : Fun Tryz.prog 103 Tryz.f103 := ⟨Tryz.func103, by kernel_rfl, by kernel_rfl⟩
theorem F104 : Fun Tryz.prog 104 Tryz.f104 := ⟨Tryz.func104, by kernel_rfl, by kernel_rfl⟩
theorem F105 : Fun Tryz.prog 105 Tryz.f105 := ⟨Tryz.func105, by kernel_rfl, by kernel_rfl⟩
theorem F106 : Fun Tryz.prog 106 Tryz.f106 := ⟨Tryz.func106, by kernel_rfl, by kernel_rfl⟩
theorem F109 : Fun Tryz.prog 109 Tryz.f109 := ⟨Tryz.func109, by kernel_rfl, by kernel_rfl⟩
theorem F111 : Fun Tryz.prog 111 Tryz.f111 := ⟨Tryz.func111, by kernel_rfl, by kernel_rfl⟩
theorem F112 : Fun Tryz.prog 112 Tryz.f112 := ⟨Tryz.func112, by kernel_rfl, by kernel_rfl⟩
theorem F113 : Fun Tryz.prog 113 Tryz.f113 := ⟨Tryz.func113, by kernel_rfl, by kernel_rfl⟩
theorem F114 : Fun Tryz.prog 114 Tryz.f114 := ⟨Tryz.func114, by kernel_rfl, by kernel_rfl⟩
theorem F115 : Fun Tryz.prog 115 Tryz.f115 := ⟨Tryz.func115, by kernel_rfl, by kernel_rfl⟩
theorem F116 : Fun Tryz.prog 116 Tryz.f116 := ⟨Tryz.func116, by kernel_rfl, by kernel_rfl⟩
theorem F117 : Fun Tryz.prog 117 Tryz.f117 := ⟨Tryz.func117, by kernel_rfl, by kernel_rfl⟩
theorem F118 : Fun Tryz.prog 118 Tryz.f118 := ⟨Tryz.func118, by kernel_rfl, by kernel_rfl⟩
theorem F119 : Fun Tryz.prog 119 Tryz.f119 := ⟨Tryz.func119, by kernel_rfl, by kernel_rfl⟩
theorem F120 : Fun Tryz.prog 120 Tryz.f120 := ⟨Tryz.func120, by kernel_rfl, by kernel_rfl⟩
theorem F121 : Fun Tryz.prog 121 Tryz.f121 := ⟨Tryz.func121, by kernel_rfl, by kernel_rfl⟩
theorem F122 : Fun Tryz.prog 122 Tryz.f122 := ⟨Tryz.func122, by kernel_rfl, by kernel_rfl⟩
theorem F123 : Fun Tryz.prog 123 Tryz.f123 := ⟨Tryz.func123, by kernel_rfl, by kernel_rfl⟩
theorem F126 : Fun Tryz.prog 126 Tryz.f126 := ⟨Tryz.func126, by kernel_rfl, by kernel_rfl⟩
theorem F127 : Fun Tryz.prog 127 Tryz.f127 := ⟨Tryz.func127, by kernel_rfl, by kernel_rfl⟩
theorem F128 : Fun Tryz.prog 128 Tryz.f128 := ⟨Tryz.func128, by kernel_rfl, by kernel_rfl⟩
theorem F129 : Fun Tryz.prog 129 Tryz.f129 := ⟨Tryz.func129, by kernel_rfl, by kernel_rfl⟩
theorem F130 : Fun Tryz.prog 130 Tryz.f130 := ⟨Tryz.func130, by kernel_rfl, by kernel_rfl⟩
theorem F131 : Fun Tryz.prog 131 Tryz.f131 := ⟨Tryz.func131, by kernel_rfl, by kernel_rfl⟩
theorem F132 : Fun Tryz.prog 132 Tryz.f132 := ⟨Tryz.func132, by kernel_rfl, by kernel_rfl⟩
theorem F133 : Fun Tryz.prog 133 Tryz.f133 := ⟨Tryz.func133, by kernel_rfl, by kernel_rfl⟩
theorem F134 : Fun Tryz.prog 134 Tryz.f134 := ⟨Tryz.func134, by kernel_rfl, by kernel_rfl⟩
theorem F135 : Fun Tryz.prog 135 Tryz.f135 := ⟨Tryz.func135, by kernel_rfl, by kernel_rfl⟩
theorem F136 : Fun Tryz.prog 136 Tryz.f136 := ⟨Tryz.func136, by kernel_rfl, by kernel_rfl⟩
theorem F137 : Fun Tryz.prog 137 Tryz.f137 := ⟨Tryz.func137, by kernel_rfl, by kernel_rfl⟩
theorem F138 : Fun Tryz.prog 138 Tryz.f138 := ⟨Tryz.func138, by kernel_rfl, by kernel_rfl⟩
theorem F140 : Fun Tryz.prog 140 Tryz.f140 := ⟨Tryz.func140, by kernel_rfl, by kernel_rfl⟩
theorem F141 : Fun Tryz.prog 141 Tryz.f141 := ⟨Tryz.func141, by kernel_rfl, by kernel_rfl⟩
theorem F142 : Fun Tryz.prog 142 Tryz.f142 := ⟨Tryz.func142, by kernel_rfl, by kernel_rfl⟩
theorem F143 : Fun Tryz.prog 143 Tryz.f143 := ⟨Tryz.func143, by kernel_rfl, by kernel_rfl⟩
theorem F145 : Fun Tryz.prog 145 Tryz.f145 := ⟨Tryz.func145, by kernel_rfl, by kernel_rfl⟩
theorem F146 : Fun Tryz.prog 146 Tryz.f146 := ⟨Tryz.func146, by kernel_rfl, by kernel_rfl⟩
theorem F147 : Fun Tryz.prog 147 Tryz.f147 := ⟨Tryz.func147, by kernel_rfl, by kernel_rfl⟩
theorem F148 : Fun Tryz.prog 148 Tryz.f148 := ⟨Tryz.func148, by kernel_rfl, by kernel_rfl⟩
theorem F149 : Fun Tryz.prog 149 Tryz.f149 := ⟨Tryz.func149, by kernel_rfl, by kernel_rfl⟩
theorem F166 : Fun Tryz.prog 166 Tryz.f166 := ⟨Tryz.func166, by kernel_rfl, by kernel_rfl⟩
theorem F167 : Fun Tryz.prog 167 Tryz.f167 := ⟨Tryz.func167, by kernel_rfl, by kernel_rfl⟩
theorem F168 : Fun Tryz.prog 168 Tryz.f168 := ⟨Tryz.func168, by kernel_rfl, by kernel_rfl⟩
theorem F169 : Fun Tryz.prog 169 Tryz.f169 := ⟨Tryz.func169, by kernel_rfl, by kernel_rfl⟩
theorem F170 : Fun Tryz.prog 170 Tryz.f170 := ⟨Tryz.func170, by kernel_rfl, by kernel_rfl⟩
theorem F171 : Fun Tryz.prog 171 Tryz.f171 := ⟨Tryz.func171, by kernel_rfl, by kernel_rfl⟩
theorem F172 : Fun Tryz.prog 172 Tryz.f172 := ⟨Tryz.func172, by kernel_rfl, by kernel_rfl⟩
theorem F173 : Fun Tryz.prog 173 Tryz.f173 := ⟨Tryz.func173, by kernel_rfl, by kernel_rfl⟩
def str0 : ByteArray := ⟨#[44]⟩
def str1 : ByteArray := ⟨#[116, 99, 112]⟩
def str2 : ByteArray := ⟨#[117, 100, 112]⟩
def str3 : ByteArray := ⟨#[105, 99, 109, 112]⟩
def str4 : ByteArray := ⟨#[105, 99, 109, 112, 54]⟩
def str5 : ByteArray := ⟨#[112, 114, 111, 116, 111]⟩
def str6 : ByteArray := ⟨#[99, 108, 97, 115, 115]⟩
def str7 : ByteArray := ⟨#[97, 110, 121]⟩
def str8 : ByteArray := ⟨#[112]⟩
def str9 : ByteArray := ⟨#[58, 58]⟩
def Zv4 : ByteArray := ⟨#[58]⟩
def Zr8 : ByteArray := ⟨#[47]⟩
def Zpe : ByteArray := ⟨#[45]⟩
def Zw0 : ByteArray := ⟨#[110, 111, 116]⟩
def ZwZ : ByteArray := ⟨#[112, 111, 114, 116]⟩
def Zr7 : ByteArray := ⟨#[33]⟩
def Zv3 : ByteArray := ⟨#[111, 110]⟩
def Zv2 : ByteArray := ⟨#[118, 105, 100]⟩
def Zqs : ByteArray := ⟨#[102, 114, 111, 109]⟩
def Zta : ByteArray := ⟨#[116, 111]⟩
def Zqr : ByteArray := ⟨#[102, 108, 97, 103, 115]⟩
def Zqq : ByteArray := ⟨#[116, 121, 112, 101]⟩
def Zv1 : ByteArray := ⟨#[112, 105, 101, 99, 101, 115]⟩
def ZwY : ByteArray := ⟨#[32, 9]⟩
def Zv0 : ByteArray := ⟨#[112, 101, 114, 109, 105, 116, 32, 116, 99, 112, 32, 102, 114, 111, 109, 32, 49, 48, 46, 48, 46, 48, 46, 48, 47, 56, 32, 116, 111, 32, 97, 110, 121, 32, 112, 111, 114, 116, 32, 56, 48]⟩
def ZkF : ByteArray := ⟨#[48, 49, 50, 51, 52, 53, 54, 55, 56, 57, 97, 98, 99, 100, 101, 102, 103, 104, 105, 106, 107, 108, 109, 110, 111, 112, 113, 114, 115, 116, 117, 118, 119, 120, 121, 122]⟩
def ZeU : ByteArray := ⟨#[48, 48, 48, 49, 48, 50, 48, 51, 48, 52, 48, 53, 48, 54, 48, 55, 48, 56, 48, 57, 49, 48, 49, 49, 49, 50, 49, 51, 49, 52, 49, 53, 49, 54, 49, 55, 49, 56, 49, 57, 50, 48, 50, 49, 50, 50, 50, 51, 50, 52, 50, 53, 50, 54, 50, 55, 50, 56, 50, 57, 51, 48, 51, 49, 51, 50, 51, 51, 51, 52, 51, 53, 51, 54, 51, 55, 51, 56, 51, 57, 52, 48, 52, 49, 52, 50, 52, 51, 52, 52, 52, 53, 52, 54, 52, 55, 52, 56, 52, 57, 53, 48, 53, 49, 53, 50, 53, 51, 53, 52, 53, 53, 53, 54, 53, 55, 53, 56, 53, 57, 54, 48, 54, 49, 54, 50, 54, 51, 54, 52, 54, 53, 54, 54, 54, 55, 54, 56, 54, 57, 55, 48, 55, 49, 55, 50, 55, 51, 55, 52, 55, 53, 55, 54, 55, 55, 55, 56, 55, 57, 56, 48, 56, 49, 56, 50, 56, 51, 56, 52, 56, 53, 56, 54, 56, 55, 56, 56, 56, 57, 57, 48, 57, 49, 57, 50, 57, 51, 57, 52, 57, 53, 57, 54, 57, 55, 57, 56, 57, 57]⟩
def Zi6 : ByteArray := ⟨#[0, 1, 2, 2, 3, 3, 3, 3, 4, 4, 4, 4, 4, 4, 4, 4, 5, 5, 5, 5, 5, 5, 5, 5, 5, 5, 5, 5, 5, 5, 5, 5, 6, 6, 6, 6, 6, 6, 6, 6, 6, 6, 6, 6, 6, 6, 6, 6, 6, 6, 6, 6, 6, 6, 6, 6, 6, 6, 6, 6, 6, 6, 6, 6, 7, 7, 7, 7, 7, 7, 7, 7, 7, 7, 7, 7, 7, 7, 7, 7, 7, 7, 7, 7, 7, 7, 7, 7, 7, 7, 7, 7, 7, 7, 7, 7, 7, 7, 7, 7, 7, 7, 7, 7, 7, 7, 7, 7, 7, 7, 7, 7, 7, 7, 7, 7, 7, 7, 7, 7, 7, 7, 7, 7, 7, 7, 7, 7, 8, 8, 8, 8, 8, 8, 8, 8, 8, 8, 8, 8, 8, 8, 8, 8, 8, 8, 8, 8, 8, 8, 8, 8, 8, 8, 8, 8, 8, 8, 8, 8, 8, 8, 8, 8, 8, 8, 8, 8, 8, 8, 8, 8, 8, 8, 8, 8, 8, 8, 8, 8, 8, 8, 8, 8, 8, 8, 8, 8, 8, 8, 8, 8, 8, 8, 8, 8, 8, 8, 8, 8, 8, 8, 8, 8, 8, 8, 8, 8, 8, 8, 8, 8, 8, 8, 8, 8, 8, 8, 8, 8, 8, 8, 8, 8, 8, 8, 8, 8, 8, 8, 8, 8, 8, 8, 8, 8, 8, 8, 8, 8, 8, 8, 8, 8, 8, 8, 8, 8, 8, 8, 8, 8, 8, 8, 8, 8]⟩
def ZfL : ByteArray := ⟨#[32]⟩
def ZuL : ByteArray := ⟨#[32, 112, 114, 111, 116, 111, 32]⟩
def ZwX : ByteArray := ⟨#[32, 97, 110, 121]⟩
def ZwW : ByteArray := ⟨#[46]⟩
def ZuK : ByteArray := ⟨#[58, 58, 102, 102, 102, 102, 58]⟩
def Zs9 : ByteArray := ⟨#[110, 111, 116, 32]⟩
def ZuJ : ByteArray := ⟨#[32, 112, 111, 114, 116, 32]⟩
def Zs8 : ByteArray := ⟨#[32, 99, 108, 97, 115, 115, 32]⟩
def Zs7 : ByteArray := ⟨#[32, 111, 110, 32, 112]⟩
def Zs6 : ByteArray := ⟨#[32, 118, 105, 100, 32]⟩
def Zs5 : ByteArray := ⟨#[32, 102, 108, 97, 103, 115, 32]⟩
def Zr6 : ByteArray := ⟨#[32, 116, 121, 112, 101, 32]⟩
def Zs4 : ByteArray := ⟨#[32, 112, 105, 101, 99, 101, 115]⟩
theorem Eq5 : EqT Tryz.prog 5 1 (cI .u8) := EqT.int Tryz.underlying5
theorem ZxF : EqT Tryz.prog 202 2 ((cI .u8).arr 12) := EqT.arr Tryz.underlying202 Ty5 Eq5
theorem Eq48 : EqT Tryz.prog 48 2 ((cI .u8).arr 16) := EqT.arr Tryz.underlying48 Ty5 Eq5
theorem Eq9 : EqT Tryz.prog 9 1 cS := EqT.string Tryz.underlying9
theorem Ck9 : CkT Tryz.prog 9 1 cS := CkT.string Tryz.underlying9
theorem Kt88 : KeyT Tryz.prog 88 9 1 cS (cI .i64) 0 := ⟨NowK.string Tryz.underlying9, Eq9, Ck9, SbC.string, by decide, ⟨3, by kernel_rfl, Ty3⟩, ⟨_, Tryz.underlying9⟩⟩
theorem Eq3 : EqT Tryz.prog 3 1 (cI .i64) := EqT.int Tryz.underlying3
theorem Eq50 : EqT Tryz.prog 50 3 Za8 := EqT.struct (D := 2) Tryz.underlying50 (by kernel_rfl) rfl (fun d hd x y w => EqFs.congr (EqFs.cons rfl Ty3 (Zd7 x) (Zd7 y) Eq3 (by omega) (EqFs.cons rfl Ty48 (Zds x) (Zds y) Eq48 (by omega) EqFs.nil)) (by obtain ⟨⟩ := x; obtain ⟨⟩ := y; simp))
theorem Zyd : EqT Tryz.prog 129 4 ZaI := EqT.struct (D := 3) Tryz.underlying129 (by kernel_rfl) rfl (fun d hd x y w => EqFs.congr (EqFs.cons rfl Ty50 (ZbQ x) (ZbQ y) Eq50 (by omega) (EqFs.cons rfl Ty3 (Zct x) (Zct y) Eq3 (by omega) EqFs.nil)) (by obtain ⟨⟩ := x; obtain ⟨⟩ := y; simp))
theorem Zyc : EqT Tryz.prog 131 2 Zbd := EqT.struct (D := 1) Tryz.underlying131 (by kernel_rfl) rfl (fun d hd x y w => EqFs.congr (EqFs.cons rfl Ty3 (ZdK x) (ZdK y) Eq3 (by omega) (EqFs.cons rfl Ty3 (ZdL x) (ZdL y) Eq3 (by omega) EqFs.nil)) (by obtain ⟨⟩ := x; obtain ⟨⟩ := y; simp))
theorem Eq74 : EqT Tryz.prog 74 2 Zcf := EqT.struct (D := 1) Tryz.underlying74 (by kernel_rfl) rfl (fun d hd x y w => EqFs.congr (EqFs.cons rfl Ty3 (ZgW x) (ZgW y) Eq3 (by omega) (EqFs.cons rfl Ty3 (Zgf x) (Zgf y) Eq3 (by omega) (EqFs.cons rfl Ty3 (ZgD x) (ZgD y) Eq3 (by omega) EqFs.nil))) (by obtain ⟨⟩ := x; obtain ⟨⟩ := y; simp))
theorem ZcY : Tryz.prog.follows .mixedOrders = true := by kernel_rfl
end Go.Proofs.YtfnokeoldcfcoaaGreatDoor.Lx
