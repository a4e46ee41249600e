/- The types of the translation that the programs use. -/
import Derived.Test.YtmgbjiaognomhaaGreatDoorProg
import Derived.Test.YtmgbjiaognomhaaGreatDoorLxShort
set_option linter.unusedVariables false
set_option linter.unusedSimpArgs false
set_option linter.unusedSectionVars false
namespace Go.Proofs.YtmgbjiaognomhaaGreatDoor.Lx
open Go Go.Proofs
structure ZaK where
 s : ByteArray
 at_ : Int
 deriving DecidableEq
def Zc6 : ZaK := ⟨ByteArray.empty, 0⟩
instance : Inhabited ZaK := ⟨Zc6⟩
def ZbB : Cod ZaK := (cS.pair (cI .i64)).iso (fun x => (x.s, x.at_)) (fun p => ⟨p.1, p.2⟩) (fun _ => rfl) (fun _ => rfl)
theorem Zbz (x : ZaK) : At (ZbB.enc x) 0 (cS.enc x.s) := At.fst
theorem ZhG (x : ZaK) (y : ByteArray) : Upd (ZbB.enc x) 0 (cS.enc y) (ZbB.enc (⟨y, x.at_⟩ : ZaK)) := Upd.fst
theorem Zb1 (x : ZaK) : At (ZbB.enc x) 1 ((cI .i64).enc x.at_) := At.last
theorem ZgI (x : ZaK) (y : Int) : Upd (ZbB.enc x) 1 ((cI .i64).enc y) (ZbB.enc (⟨x.s, y⟩ : ZaK)) := Upd.last
structure Zb8 where
 why : Int
 at_ : Int
 deriving DecidableEq
def Zjz : Zb8 := ⟨0, 0⟩
instance : Inhabited Zb8 := ⟨Zjz⟩
def ZbM : Cod Zb8 := ((cI .i64).pair (cI .i64)).iso (fun x => (x.why, x.at_)) (fun p => ⟨p.1, p.2⟩) (fun _ => rfl) (fun _ => rfl)
theorem Zez (x : Zb8) : At (ZbM.enc x) 0 ((cI .i64).enc x.why) := At.fst
theorem ZbP (x : Zb8) (y : Int) : Upd (ZbM.enc x) 0 ((cI .i64).enc y) (ZbM.enc (⟨y, x.at_⟩ : Zb8)) := Upd.fst
theorem ZeA (x : Zb8) : At (ZbM.enc x) 1 ((cI .i64).enc x.at_) := At.last
theorem ZbQ (x : Zb8) (y : Int) : Upd (ZbM.enc x) 1 ((cI .i64).enc y) (ZbM.enc (⟨x.why, y⟩ : Zb8)) := Upd.last
structure Zbs where
 V : Int
 A : (Vec Int 16)
 deriving DecidableEq
def ZcL : Zbs := ⟨0, (Vec.rep 16 0)⟩
instance : Inhabited Zbs := ⟨ZcL⟩
def ZbW : Cod Zbs := ((cI .i64).pair ((cI .u8).arr 16)).iso (fun x => (x.V, x.A)) (fun p => ⟨p.1, p.2⟩) (fun _ => rfl) (fun _ => rfl)
theorem ZcZ (x : Zbs) : At (ZbW.enc x) 0 ((cI .i64).enc x.V) := At.fst
theorem Zf0 (x : Zbs) (y : Int) : Upd (ZbW.enc x) 0 ((cI .i64).enc y) (ZbW.enc (⟨y, x.A⟩ : Zbs)) := Upd.fst
theorem ZdP (x : Zbs) : At (ZbW.enc x) 1 (((cI .u8).arr 16).enc x.A) := At.last
theorem Zf1 (x : Zbs) (y : (Vec Int 16)) : Upd (ZbW.enc x) 1 (((cI .u8).arr 16).enc y) (ZbW.enc (⟨x.V, y⟩ : Zbs)) := Upd.last
structure ZdS where
 s : ByteArray
 at_ : Int
 groups : Sl
 gap : Int
 deriving DecidableEq
def ZhL : ZdS := ⟨ByteArray.empty, 0, Sl.nil, 0⟩
instance : Inhabited ZdS := ⟨ZhL⟩
def ZcY : Cod ZdS := (cS.pair ((cI .i64).pair (cL.pair (cI .i64)))).iso (fun x => (x.s, x.at_, x.groups, x.gap)) (fun p => ⟨p.1, p.2.1, p.2.2.1, p.2.2.2⟩) (fun _ => rfl) (fun _ => rfl)
theorem ZcE (x : ZdS) : At (ZcY.enc x) 0 (cS.enc x.s) := At.fst
theorem Zmy (x : ZdS) (y : ByteArray) : Upd (ZcY.enc x) 0 (cS.enc y) (ZcY.enc (⟨y, x.at_, x.groups, x.gap⟩ : ZdS)) := Upd.fst
theorem ZcR (x : ZdS) : At (ZcY.enc x) 1 ((cI .i64).enc x.at_) := At.snd (At.fst)
theorem Zf2 (x : ZdS) (y : Int) : Upd (ZcY.enc x) 1 ((cI .i64).enc y) (ZcY.enc (⟨x.s, y, x.groups, x.gap⟩ : ZdS)) := Upd.snd (Upd.fst)
theorem ZbS (x : ZdS) : At (ZcY.enc x) 2 (cL.enc x.groups) := At.snd (At.snd (At.fst))
theorem Ze5 (x : ZdS) (y : Sl) : Upd (ZcY.enc x) 2 (cL.enc y) (ZcY.enc (⟨x.s, x.at_, y, x.gap⟩ : ZdS)) := Upd.snd (Upd.snd (Upd.fst))
theorem Zdx (x : ZdS) : At (ZcY.enc x) 3 ((cI .i64).enc x.gap) := At.snd (At.snd (At.last))
theorem ZhJ (x : ZdS) (y : Int) : Upd (ZcY.enc x) 3 ((cI .i64).enc y) (ZcY.enc (⟨x.s, x.at_, x.groups, y⟩ : ZdS)) := Upd.snd (Upd.snd (Upd.last))
structure Zac where
 IP : Zbs
 Len : Int
 deriving DecidableEq
def ZaU : Zac := ⟨ZcL, 0⟩
instance : Inhabited Zac := ⟨ZaU⟩
def ZaI : Cod Zac := (ZbW.pair (cI .i64)).iso (fun x => (x.IP, x.Len)) (fun p => ⟨p.1, p.2⟩) (fun _ => rfl) (fun _ => rfl)
theorem Zb6 (x : Zac) : At (ZaI.enc x) 0 (ZbW.enc x.IP) := At.fst
theorem ZdC (x : Zac) (y : Zbs) : Upd (ZaI.enc x) 0 (ZbW.enc y) (ZaI.enc (⟨y, x.Len⟩ : Zac)) := Upd.fst
theorem Zb2 (x : Zac) : At (ZaI.enc x) 17 ((cI .i64).enc x.Len) := At.last
theorem Zcq (x : Zac) (y : Int) : Upd (ZaI.enc x) 17 ((cI .i64).enc y) (ZaI.enc (⟨x.IP, y⟩ : Zac)) := Upd.last
structure ZaD where
 Lo : Int
 Hi : Int
 deriving DecidableEq
def Zcv : ZaD := ⟨0, 0⟩
instance : Inhabited ZaD := ⟨Zcv⟩
def Zbi : Cod ZaD := ((cI .i64).pair (cI .i64)).iso (fun x => (x.Lo, x.Hi)) (fun p => ⟨p.1, p.2⟩) (fun _ => rfl) (fun _ => rfl)
theorem Zda (x : ZaD) : At (Zbi.enc x) 0 ((cI .i64).enc x.Lo) := At.fst
theorem Zdv (x : ZaD) (y : Int) : Upd (Zbi.enc x) 0 ((cI .i64).enc y) (Zbi.enc (⟨y, x.Hi⟩ : ZaD)) := Upd.fst
theorem Zer (x : ZaD) : At (Zbi.enc x) 1 ((cI .i64).enc x.Hi) := At.last
theorem Zeq (x : ZaD) (y : Int) : Upd (Zbi.enc x) 1 ((cI .i64).enc y) (Zbi.enc (⟨x.Lo, y⟩ : ZaD)) := Upd.last
structure Zap where
 Not : Bool
 Nets : Sl
 Ports : Sl
 deriving DecidableEq
def ZaQ : Zap := ⟨false, Sl.nil, Sl.nil⟩
instance : Inhabited Zap := ⟨ZaQ⟩
def ZaR : Cod Zap := (cB.pair (cL.pair cL)).iso (fun x => (x.Not, x.Nets, x.Ports)) (fun p => ⟨p.1, p.2.1, p.2.2⟩) (fun _ => rfl) (fun _ => rfl)
theorem Ze8 (x : Zap) : At (ZaR.enc x) 0 (cB.enc x.Not) := At.fst
theorem ZhH (x : Zap) (y : Bool) : Upd (ZaR.enc x) 0 (cB.enc y) (ZaR.enc (⟨y, x.Nets, x.Ports⟩ : Zap)) := Upd.fst
theorem ZbL (x : Zap) : At (ZaR.enc x) 1 (cL.enc x.Nets) := At.snd (At.fst)
theorem ZeG (x : Zap) (y : Sl) : Upd (ZaR.enc x) 1 (cL.enc y) (ZaR.enc (⟨x.Not, y, x.Ports⟩ : Zap)) := Upd.snd (Upd.fst)
theorem ZbG (x : Zap) : At (ZaR.enc x) 2 (cL.enc x.Ports) := At.snd (At.last)
theorem Zew (x : Zap) (y : Sl) : Upd (ZaR.enc x) 2 (cL.enc y) (ZaR.enc (⟨x.Not, x.Nets, y⟩ : Zap)) := Upd.snd (Upd.last)
structure Zaz where
 Act : Int
 Class : Int
 Kind : Int
 Proto : Int
 In : Int
 Vid : Int
 From : Zap
 To : Zap
 Set : Int
 Clear : Int
 Type_ : Int
 Pieces : Bool
 deriving DecidableEq
def Zax : Zaz := ⟨0, 0, 0, 0, 0, 0, ZaQ, ZaQ, 0, 0, 0, false⟩
instance : Inhabited Zaz := ⟨Zax⟩
def Zaj : Cod Zaz := ((cI .i64).pair ((cI .i64).pair ((cI .i64).pair ((cI .i64).pair ((cI .i64).pair ((cI .i64).pair (ZaR.pair (ZaR.pair ((cI .i64).pair ((cI .i64).pair ((cI .i64).pair cB))))))))))).iso (fun x => (x.Act, x.Class, x.Kind, x.Proto, x.In, x.Vid, x.From, x.To, x.Set, x.Clear, x.Type_, x.Pieces)) (fun p => ⟨p.1, p.2.1, p.2.2.1, p.2.2.2.1, p.2.2.2.2.1, p.2.2.2.2.2.1, p.2.2.2.2.2.2.1, p.2.2.2.2.2.2.2.1, p.2.2.2.2.2.2.2.2.1, p.2.2.2.2.2.2.2.2.2.1, p.2.2.2.2.2.2.2.2.2.2.1, p.2.2.2.2.2.2.2.2.2.2.2⟩) (fun _ => rfl) (fun _ => rfl)
theorem ZcQ (x : Zaz) : At (Zaj.enc x) 0 ((cI .i64).enc x.Act) := At.fst
theorem Zdu (x : Zaz) (y : Int) : Upd (Zaj.enc x) 0 ((cI .i64).enc y) (Zaj.enc (⟨y, x.Class, x.Kind, x.Proto, x.In, x.Vid, x.From, x.To, x.Set, x.Clear, x.Type_, x.Pieces⟩ : Zaz)) := Upd.fst
theorem Zd0 (x : Zaz) : At (Zaj.enc x) 1 ((cI .i64).enc x.Class) := At.snd (At.fst)
theorem Zey (x : Zaz) (y : Int) : Upd (Zaj.enc x) 1 ((cI .i64).enc y) (Zaj.enc (⟨x.Act, y, x.Kind, x.Proto, x.In, x.Vid, x.From, x.To, x.Set, x.Clear, x.Type_, x.Pieces⟩ : Zaz)) := Upd.snd (Upd.fst)
theorem ZcD (x : Zaz) : At (Zaj.enc x) 2 ((cI .i64).enc x.Kind) := At.snd (At.snd (At.fst))
theorem ZfE (x : Zaz) (y : Int) : Upd (Zaj.enc x) 2 ((cI .i64).enc y) (Zaj.enc (⟨x.Act, x.Class, y, x.Proto, x.In, x.Vid, x.From, x.To, x.Set, x.Clear, x.Type_, x.Pieces⟩ : Zaz)) := Upd.snd (Upd.snd (Upd.fst))
theorem Zcd (x : Zaz) : At (Zaj.enc x) 3 ((cI .i64).enc x.Proto) := At.snd (At.snd (At.snd (At.fst)))
theorem Zdp (x : Zaz) (y : Int) : Upd (Zaj.enc x) 3 ((cI .i64).enc y) (Zaj.enc (⟨x.Act, x.Class, x.Kind, y, x.In, x.Vid, x.From, x.To, x.Set, x.Clear, x.Type_, x.Pieces⟩ : Zaz)) := Upd.snd (Upd.snd (Upd.snd (Upd.fst)))
theorem Zfu (x : Zaz) : At (Zaj.enc x) 4 ((cI .i64).enc x.In) := At.snd (At.snd (At.snd (At.snd (At.fst))))
theorem Zft (x : Zaz) (y : Int) : Upd (Zaj.enc x) 4 ((cI .i64).enc y) (Zaj.enc (⟨x.Act, x.Class, x.Kind, x.Proto, y, x.Vid, x.From, x.To, x.Set, x.Clear, x.Type_, x.Pieces⟩ : Zaz)) := Upd.snd (Upd.snd (Upd.snd (Upd.snd (Upd.fst))))
theorem Ze9 (x : Zaz) : At (Zaj.enc x) 5 ((cI .i64).enc x.Vid) := At.snd (At.snd (At.snd (At.snd (At.snd (At.fst)))))
theorem Ze4 (x : Zaz) (y : Int) : Upd (Zaj.enc x) 5 ((cI .i64).enc y) (Zaj.enc (⟨x.Act, x.Class, x.Kind, x.Proto, x.In, y, x.From, x.To, x.Set, x.Clear, x.Type_, x.Pieces⟩ : Zaz)) := Upd.snd (Upd.snd (Upd.snd (Upd.snd (Upd.snd (Upd.fst)))))
theorem ZdD (x : Zaz) : At (Zaj.enc x) 6 (ZaR.enc x.From) := At.snd (At.snd (At.snd (At.snd (At.snd (At.snd (At.fst))))))
theorem ZdB (x : Zaz) (y : Zap) : Upd (Zaj.enc x) 6 (ZaR.enc y) (Zaj.enc (⟨x.Act, x.Class, x.Kind, x.Proto, x.In, x.Vid, y, x.To, x.Set, x.Clear, x.Type_, x.Pieces⟩ : Zaz)) := Upd.snd (Upd.snd (Upd.snd (Upd.snd (Upd.snd (Upd.snd (Upd.fst))))))
theorem ZdO (x : Zaz) : At (Zaj.enc x) 9 (ZaR.enc x.To) := At.snd (At.snd (At.snd (At.snd (At.snd (At.snd (At.snd (At.fst)))))))
theorem Zeg (x : Zaz) (y : Zap) : Upd (Zaj.enc x) 9 (ZaR.enc y) (Zaj.enc (⟨x.Act, x.Class, x.Kind, x.Proto, x.In, x.Vid, x.From, y, x.Set, x.Clear, x.Type_, x.Pieces⟩ : Zaz)) := Upd.snd (Upd.snd (Upd.snd (Upd.snd (Upd.snd (Upd.snd (Upd.snd (Upd.fst)))))))
theorem ZcB (x : Zaz) : At (Zaj.enc x) 12 ((cI .i64).enc x.Set) := At.snd (At.snd (At.snd (At.snd (At.snd (At.snd (At.snd (At.snd (At.fst))))))))
theorem ZhI (x : Zaz) (y : Int) : Upd (Zaj.enc x) 12 ((cI .i64).enc y) (Zaj.enc (⟨x.Act, x.Class, x.Kind, x.Proto, x.In, x.Vid, x.From, x.To, y, x.Clear, x.Type_, x.Pieces⟩ : Zaz)) := Upd.snd (Upd.snd (Upd.snd (Upd.snd (Upd.snd (Upd.snd (Upd.snd (Upd.snd (Upd.fst))))))))
theorem Zcj (x : Zaz) : At (Zaj.enc x) 13 ((cI .i64).enc x.Clear) := At.snd (At.snd (At.snd (At.snd (At.snd (At.snd (At.snd (At.snd (At.snd (At.fst)))))))))
theorem ZgJ (x : Zaz) (y : Int) : Upd (Zaj.enc x) 13 ((cI .i64).enc y) (Zaj.enc (⟨x.Act, x.Class, x.Kind, x.Proto, x.In, x.Vid, x.From, x.To, x.Set, y, x.Type_, x.Pieces⟩ : Zaz)) := Upd.snd (Upd.snd (Upd.snd (Upd.snd (Upd.snd (Upd.snd (Upd.snd (Upd.snd (Upd.snd (Upd.fst)))))))))
theorem ZdZ (x : Zaz) : At (Zaj.enc x) 14 ((cI .i64).enc x.Type_) := At.snd (At.snd (At.snd (At.snd (At.snd (At.snd (At.snd (At.snd (At.snd (At.snd (At.fst))))))))))
theorem Zex (x : Zaz) (y : Int) : Upd (Zaj.enc x) 14 ((cI .i64).enc y) (Zaj.enc (⟨x.Act, x.Class, x.Kind, x.Proto, x.In, x.Vid, x.From, x.To, x.Set, x.Clear, y, x.Pieces⟩ : Zaz)) := Upd.snd (Upd.snd (Upd.snd (Upd.snd (Upd.snd (Upd.snd (Upd.snd (Upd.snd (Upd.snd (Upd.snd (Upd.fst))))))))))
theorem Zfa (x : Zaz) : At (Zaj.enc x) 15 (cB.enc x.Pieces) := At.snd (At.snd (At.snd (At.snd (At.snd (At.snd (At.snd (At.snd (At.snd (At.snd (At.last))))))))))
theorem Zgi (x : Zaz) (y : Bool) : Upd (Zaj.enc x) 15 (cB.enc y) (Zaj.enc (⟨x.Act, x.Class, x.Kind, x.Proto, x.In, x.Vid, x.From, x.To, x.Set, x.Clear, x.Type_, y⟩ : Zaz)) := Upd.snd (Upd.snd (Upd.snd (Upd.snd (Upd.snd (Upd.snd (Upd.snd (Upd.snd (Upd.snd (Upd.snd (Upd.last))))))))))
structure Zbx where
 l : Sl
 i : Int
 end_ : Int
 rule : Zaz
 err : Int
 at_ : Int
 deriving DecidableEq
def Zef : Zbx := ⟨Sl.nil, 0, 0, Zax, 0, 0⟩
instance : Inhabited Zbx := ⟨Zef⟩
def Zbu : Cod Zbx := (cL.pair ((cI .i64).pair ((cI .i64).pair (Zaj.pair ((cI .i64).pair (cI .i64)))))).iso (fun x => (x.l, x.i, x.end_, x.rule, x.err, x.at_)) (fun p => ⟨p.1, p.2.1, p.2.2.1, p.2.2.2.1, p.2.2.2.2.1, p.2.2.2.2.2⟩) (fun _ => rfl) (fun _ => rfl)
theorem Zcr (x : Zbx) : At (Zbu.enc x) 0 (cL.enc x.l) := At.fst
theorem Zjy (x : Zbx) (y : Sl) : Upd (Zbu.enc x) 0 (cL.enc y) (Zbu.enc (⟨y, x.i, x.end_, x.rule, x.err, x.at_⟩ : Zbx)) := Upd.fst
theorem ZbR (x : Zbx) : At (Zbu.enc x) 1 ((cI .i64).enc x.i) := At.snd (At.fst)
theorem Zfn (x : Zbx) (y : Int) : Upd (Zbu.enc x) 1 ((cI .i64).enc y) (Zbu.enc (⟨x.l, y, x.end_, x.rule, x.err, x.at_⟩ : Zbx)) := Upd.snd (Upd.fst)
theorem Zh5 (x : Zbx) : At (Zbu.enc x) 2 ((cI .i64).enc x.end_) := At.snd (At.snd (At.fst))
theorem Zh4 (x : Zbx) (y : Int) : Upd (Zbu.enc x) 2 ((cI .i64).enc y) (Zbu.enc (⟨x.l, x.i, y, x.rule, x.err, x.at_⟩ : Zbx)) := Upd.snd (Upd.snd (Upd.fst))
theorem Zcb (x : Zbx) : At (Zbu.enc x) 3 (Zaj.enc x.rule) := At.snd (At.snd (At.snd (At.fst)))
theorem ZdT (x : Zbx) (y : Zaz) : Upd (Zbu.enc x) 3 (Zaj.enc y) (Zbu.enc (⟨x.l, x.i, x.end_, y, x.err, x.at_⟩ : Zbx)) := Upd.snd (Upd.snd (Upd.snd (Upd.fst)))
theorem Zeb (x : Zbx) : At (Zbu.enc x) 19 ((cI .i64).enc x.err) := At.snd (At.snd (At.snd (At.snd (At.fst))))
theorem Ziw (x : Zbx) (y : Int) : Upd (Zbu.enc x) 19 ((cI .i64).enc y) (Zbu.enc (⟨x.l, x.i, x.end_, x.rule, y, x.at_⟩ : Zbx)) := Upd.snd (Upd.snd (Upd.snd (Upd.snd (Upd.fst))))
theorem Zf4 (x : Zbx) : At (Zbu.enc x) 20 ((cI .i64).enc x.at_) := At.snd (At.snd (At.snd (At.snd (At.last))))
theorem Zix (x : Zbx) (y : Int) : Upd (Zbu.enc x) 20 ((cI .i64).enc y) (Zbu.enc (⟨x.l, x.i, x.end_, x.rule, x.err, y⟩ : Zbx)) := Upd.snd (Upd.snd (Upd.snd (Upd.snd (Upd.last))))
structure Zba where
 Text : ByteArray
 At : Int
 deriving DecidableEq
def ZdA : Zba := ⟨ByteArray.empty, 0⟩
instance : Inhabited Zba := ⟨ZdA⟩
def Zb3 : Cod Zba := (cS.pair (cI .i64)).iso (fun x => (x.Text, x.At)) (fun p => ⟨p.1, p.2⟩) (fun _ => rfl) (fun _ => rfl)
theorem Za4 (x : Zba) : At (Zb3.enc x) 0 (cS.enc x.Text) := At.fst
theorem Zff (x : Zba) (y : ByteArray) : Upd (Zb3.enc x) 0 (cS.enc y) (Zb3.enc (⟨y, x.At⟩ : Zba)) := Upd.fst
theorem ZbK (x : Zba) : At (Zb3.enc x) 1 ((cI .i64).enc x.At) := At.last
theorem ZeB (x : Zba) (y : Int) : Upd (Zb3.enc x) 1 ((cI .i64).enc y) (Zb3.enc (⟨x.Text, y⟩ : Zba)) := Upd.last
structure ZbV where
 s : ByteArray
 groups : Sl
 gap : Int
 p : Int
 err : Int
 at_ : Int
 deriving DecidableEq
def Zee : ZbV := ⟨ByteArray.empty, Sl.nil, 0, 0, 0, 0⟩
instance : Inhabited ZbV := ⟨Zee⟩
def ZbC : Cod ZbV := (cS.pair (cL.pair ((cI .i64).pair ((cI .i64).pair ((cI .i64).pair (cI .i64)))))).iso (fun x => (x.s, x.groups, x.gap, x.p, x.err, x.at_)) (fun p => ⟨p.1, p.2.1, p.2.2.1, p.2.2.2.1, p.2.2.2.2.1, p.2.2.2.2.2⟩) (fun _ => rfl) (fun _ => rfl)
theorem Zb5 (x : ZbV) : At (ZbC.enc x) 0 (cS.enc x.s) := At.fst
theorem Zjx (x : ZbV) (y : ByteArray) : Upd (ZbC.enc x) 0 (cS.enc y) (ZbC.enc (⟨y, x.groups, x.gap, x.p, x.err, x.at_⟩ : ZbV)) := Upd.fst
theorem Zbm (x : ZbV) : At (ZbC.enc x) 1 (cL.enc x.groups) := At.snd (At.fst)
theorem Zfe (x : ZbV) (y : Sl) : Upd (ZbC.enc x) 1 (cL.enc y) (ZbC.enc (⟨x.s, y, x.gap, x.p, x.err, x.at_⟩ : ZbV)) := Upd.snd (Upd.fst)
theorem Zdw (x : ZbV) : At (ZbC.enc x) 2 ((cI .i64).enc x.gap) := At.snd (At.snd (At.fst))
theorem ZeI (x : ZbV) (y : Int) : Upd (ZbC.enc x) 2 ((cI .i64).enc y) (ZbC.enc (⟨x.s, x.groups, y, x.p, x.err, x.at_⟩ : ZbV)) := Upd.snd (Upd.snd (Upd.fst))
theorem Zby (x : ZbV) : At (ZbC.enc x) 3 ((cI .i64).enc x.p) := At.snd (At.snd (At.snd (At.fst)))
theorem ZdX (x : ZbV) (y : Int) : Upd (ZbC.enc x) 3 ((cI .i64).enc y) (ZbC.enc (⟨x.s, x.groups, x.gap, y, x.err, x.at_⟩ : ZbV)) := Upd.snd (Upd.snd (Upd.snd (Upd.fst)))
theorem Zcn (x : ZbV) : At (ZbC.enc x) 4 ((cI .i64).enc x.err) := At.snd (At.snd (At.snd (At.snd (At.fst))))
theorem Ziu (x : ZbV) (y : Int) : Upd (ZbC.enc x) 4 ((cI .i64).enc y) (ZbC.enc (⟨x.s, x.groups, x.gap, x.p, y, x.at_⟩ : ZbV)) := Upd.snd (Upd.snd (Upd.snd (Upd.snd (Upd.fst))))
theorem Zf3 (x : ZbV) : At (ZbC.enc x) 5 ((cI .i64).enc x.at_) := At.snd (At.snd (At.snd (At.snd (At.last))))
theorem Ziv (x : ZbV) (y : Int) : Upd (ZbC.enc x) 5 ((cI .i64).enc y) (ZbC.enc (⟨x.s, x.groups, x.gap, x.p, x.err, y⟩ : ZbV)) := Upd.snd (Upd.snd (Upd.snd (Upd.snd (Upd.last))))
structure Zbd where
 l : Sl
 end_ : Int
 r : Zaz
 seen : Sl
 err : Int
 at_ : Int
 deriving DecidableEq
def Zdb : Zbd := ⟨Sl.nil, 0, Zax, Sl.nil, 0, 0⟩
instance : Inhabited Zbd := ⟨Zdb⟩
def Za9 : Cod Zbd := (cL.pair ((cI .i64).pair (Zaj.pair (cL.pair ((cI .i64).pair (cI .i64)))))).iso (fun x => (x.l, x.end_, x.r, x.seen, x.err, x.at_)) (fun p => ⟨p.1, p.2.1, p.2.2.1, p.2.2.2.1, p.2.2.2.2.1, p.2.2.2.2.2⟩) (fun _ => rfl) (fun _ => rfl)
theorem Zcg (x : Zbd) : At (Za9.enc x) 0 (cL.enc x.l) := At.fst
theorem Zep (x : Zbd) (y : Sl) : Upd (Za9.enc x) 0 (cL.enc y) (Za9.enc (⟨y, x.end_, x.r, x.seen, x.err, x.at_⟩ : Zbd)) := Upd.fst
theorem ZeQ (x : Zbd) : At (Za9.enc x) 1 ((cI .i64).enc x.end_) := At.snd (At.fst)
theorem ZgG (x : Zbd) (y : Int) : Upd (Za9.enc x) 1 ((cI .i64).enc y) (Za9.enc (⟨x.l, y, x.r, x.seen, x.err, x.at_⟩ : Zbd)) := Upd.snd (Upd.fst)
theorem ZcK (x : Zbd) : At (Za9.enc x) 2 (Zaj.enc x.r) := At.snd (At.snd (At.fst))
theorem ZdM (x : Zbd) (y : Zaz) : Upd (Za9.enc x) 2 (Zaj.enc y) (Za9.enc (⟨x.l, x.end_, y, x.seen, x.err, x.at_⟩ : Zbd)) := Upd.snd (Upd.snd (Upd.fst))
theorem Zdc (x : Zbd) : At (Za9.enc x) 18 (cL.enc x.seen) := At.snd (At.snd (At.snd (At.fst)))
theorem ZgF (x : Zbd) (y : Sl) : Upd (Za9.enc x) 18 (cL.enc y) (Za9.enc (⟨x.l, x.end_, x.r, y, x.err, x.at_⟩ : Zbd)) := Upd.snd (Upd.snd (Upd.snd (Upd.fst)))
theorem ZcP (x : Zbd) : At (Za9.enc x) 19 ((cI .i64).enc x.err) := At.snd (At.snd (At.snd (At.snd (At.fst))))
theorem Zg2 (x : Zbd) (y : Int) : Upd (Za9.enc x) 19 ((cI .i64).enc y) (Za9.enc (⟨x.l, x.end_, x.r, x.seen, y, x.at_⟩ : Zbd)) := Upd.snd (Upd.snd (Upd.snd (Upd.snd (Upd.fst))))
theorem Ze6 (x : Zbd) : At (Za9.enc x) 20 ((cI .i64).enc x.at_) := At.snd (At.snd (At.snd (At.snd (At.last))))
theorem Zg3 (x : Zbd) (y : Int) : Upd (Za9.enc x) 20 ((cI .i64).enc y) (Za9.enc (⟨x.l, x.end_, x.r, x.seen, x.err, y⟩ : Zbd)) := Upd.snd (Upd.snd (Upd.snd (Upd.snd (Upd.last))))
structure Zaw where
 nets : Sl
 ports : Sl
 deriving DecidableEq
def Zes : Zaw := ⟨Sl.nil, Sl.nil⟩
instance : Inhabited Zaw := ⟨Zes⟩
def Zbe : Cod Zaw := (cL.pair cL).iso (fun x => (x.nets, x.ports)) (fun p => ⟨p.1, p.2⟩) (fun _ => rfl) (fun _ => rfl)
theorem ZbF (x : Zaw) : At (Zbe.enc x) 0 (cL.enc x.nets) := At.fst
theorem Zg4 (x : Zaw) (y : Sl) : Upd (Zbe.enc x) 0 (cL.enc y) (Zbe.enc (⟨y, x.ports⟩ : Zaw)) := Upd.fst
theorem Zb4 (x : Zaw) : At (Zbe.enc x) 1 (cL.enc x.ports) := At.last
theorem ZgH (x : Zaw) (y : Sl) : Upd (Zbe.enc x) 1 (cL.enc y) (Zbe.enc (⟨x.nets, y⟩ : Zaw)) := Upd.last
structure ZcN where
 addr : (Option Addr)
 buf : Sl
 deriving DecidableEq
def Zet : ZcN := ⟨none, Sl.nil⟩
instance : Inhabited ZcN := ⟨Zet⟩
def Zcp : Cod ZcN := (cP.pair cL).iso (fun x => (x.addr, x.buf)) (fun p => ⟨p.1, p.2⟩) (fun _ => rfl) (fun _ => rfl)
theorem Ze7 (x : ZcN) : At (Zcp.enc x) 0 (cP.enc x.addr) := At.fst
theorem Zg5 (x : ZcN) (y : (Option Addr)) : Upd (Zcp.enc x) 0 (cP.enc y) (Zcp.enc (⟨y, x.buf⟩ : ZcN)) := Upd.fst
theorem ZbU (x : ZcN) : At (Zcp.enc x) 1 (cL.enc x.buf) := At.last
theorem Zfg (x : ZcN) (y : Sl) : Upd (Zcp.enc x) 1 (cL.enc y) (Zcp.enc (⟨x.addr, y⟩ : ZcN)) := Upd.last
theorem Ty3 : Ty Tryz.prog 3 (cI .i64) 0 := ⟨by kernel_rfl, by kernel_rfl⟩
theorem Ty4 : Ty Tryz.prog 4 cB false := ⟨by kernel_rfl, by kernel_rfl⟩
theorem Ty5 : Ty Tryz.prog 5 (cI .u8) 0 := ⟨by kernel_rfl, by kernel_rfl⟩
theorem Ty9 : Ty Tryz.prog 9 cS ByteArray.empty := ⟨by kernel_rfl, by kernel_rfl⟩
theorem Ty22 : Ty Tryz.prog 22 cL Sl.nil := ⟨by kernel_rfl, by kernel_rfl⟩
theorem Ty23 : Ty Tryz.prog 23 cL Sl.nil := ⟨by kernel_rfl, by kernel_rfl⟩
theorem Ty24 : Ty Tryz.prog 24 cL Sl.nil := ⟨by kernel_rfl, by kernel_rfl⟩
theorem Ty26 : Ty Tryz.prog 26 ZaR ZaQ := ⟨by kernel_rfl, by kernel_rfl⟩
theorem Ty28 : Ty Tryz.prog 28 Zaj Zax := ⟨by kernel_rfl, by kernel_rfl⟩
theorem Ty29 : Ty Tryz.prog 29 (cI .i64) 0 := ⟨by kernel_rfl, by kernel_rfl⟩
theorem Ty40 : Ty Tryz.prog 40 cL Sl.nil := ⟨by kernel_rfl, by kernel_rfl⟩
theorem Ty45 : Ty Tryz.prog 45 Zbu Zef := ⟨by kernel_rfl, by kernel_rfl⟩
theorem Ty48 : Ty Tryz.prog 48 ZbB Zc6 := ⟨by kernel_rfl, by kernel_rfl⟩
theorem Ty53 : Ty Tryz.prog 53 cL Sl.nil := ⟨by kernel_rfl, by kernel_rfl⟩
theorem Ty58 : Ty Tryz.prog 58 Za9 Zdb := ⟨by kernel_rfl, by kernel_rfl⟩
theorem Ty60 : Ty Tryz.prog 60 cL Sl.nil := ⟨by kernel_rfl, by kernel_rfl⟩
theorem Ty61 : Ty Tryz.prog 61 cL Sl.nil := ⟨by kernel_rfl, by kernel_rfl⟩
theorem Ty63 : Ty Tryz.prog 63 Zbe Zes := ⟨by kernel_rfl, by kernel_rfl⟩
theorem Ty65 : Ty Tryz.prog 65 ((cI .u8).arr 16) (Vec.rep 16 0) := ⟨by kernel_rfl, by kernel_rfl⟩
theorem Ty67 : Ty Tryz.prog 67 ZbW ZcL := ⟨by kernel_rfl, by kernel_rfl⟩
theorem Ty69 : Ty Tryz.prog 69 ZaI ZaU := ⟨by kernel_rfl, by kernel_rfl⟩
theorem Ty71 : Ty Tryz.prog 71 Zbi Zcv := ⟨by kernel_rfl, by kernel_rfl⟩
theorem Ty87 : Ty Tryz.prog 87 Zb3 ZdA := ⟨by kernel_rfl, by kernel_rfl⟩
theorem Ztt : Ty Tryz.prog 123 cP none := ⟨by kernel_rfl, by kernel_rfl⟩
theorem Zj6 : Ty Tryz.prog 124 cL Sl.nil := ⟨by kernel_rfl, by kernel_rfl⟩
theorem ZuS : Ty Tryz.prog 126 Zcp Zet := ⟨by kernel_rfl, by kernel_rfl⟩
theorem Zi6 : Ty Tryz.prog 143 ZbM Zjz := ⟨by kernel_rfl, by kernel_rfl⟩
theorem Zuw : Ty Tryz.prog 152 ((cI .u8).arr 12) (Vec.rep 12 0) := ⟨by kernel_rfl, by kernel_rfl⟩
theorem Zfo : Ty Tryz.prog 157 cL Sl.nil := ⟨by kernel_rfl, by kernel_rfl⟩
theorem Zg6 : Ty Tryz.prog 160 ((cI .u8).arr 4) (Vec.rep 4 0) := ⟨by kernel_rfl, by kernel_rfl⟩
theorem ZuR : Ty Tryz.prog 165 ZcY ZhL := ⟨by kernel_rfl, by kernel_rfl⟩
theorem ZuQ : Ty Tryz.prog 192 ZbC Zee := ⟨by kernel_rfl, by kernel_rfl⟩
theorem F4 : Fun Tryz.prog 4 Tryz.f4 := ⟨Tryz.func4, by kernel_rfl, by kernel_rfl⟩
theorem F5 : Fun Tryz.prog 5 Tryz.f5 := ⟨Tryz.func5, by kernel_rfl, by kernel_rfl⟩
theorem F6 : Fun Tryz.prog 6 Tryz.f6 := ⟨Tryz.func6, by kernel_rfl, by kernel_rfl⟩
theorem F7 : Fun Tryz.prog 7 Tryz.f7 := ⟨Tryz.func7, by kernel_rfl, by kernel_rfl⟩
theorem F8 : Fun Tryz.prog 8 Tryz.f8 := ⟨Tryz.func8, by kernel_rfl, by kernel_rfl⟩
theorem F9 : Fun Tryz.prog 9 Tryz.f9 := ⟨Tryz.func9, by kernel_rfl, by kernel_rfl⟩
theorem F10 : Fun Tryz.prog 10 Tryz.f10 := ⟨Tryz.func10, by kernel_rfl, by kernel_rfl⟩
theorem F11 : Fun Tryz.prog 11 Tryz.f11 := ⟨Tryz.func11, by kernel_rfl, by kernel_rfl⟩
theorem F12 : Fun Tryz.prog 12 Tryz.f12 := ⟨Tryz.func12, by kernel_rfl, by kernel_rfl⟩
theorem F13 : Fun Tryz.prog 13 Tryz.f13 := ⟨Tryz.func13, by kernel_rfl, by kernel_rfl⟩
theorem F14 : Fun Tryz.prog 14 Tryz.f14 := ⟨Tryz.func14, by kernel_rfl, by kernel_rfl⟩
theorem F15 : Fun Tryz.prog 15 Tryz.f15 := ⟨Tryz.func15, by kernel_rfl, by kernel_rfl⟩
theorem F16 : Fun Tryz.prog 16 Tryz.f16 := ⟨Tryz.func16, by kernel_rfl, by kernel_rfl⟩
theorem F17 : Fun Tryz.prog 17 Tryz.f17 := ⟨Tryz.func17, by kernel_rfl, by kernel_rfl⟩
theorem F18 : Fun Tryz.prog 18 Tryz.f18 := ⟨Tryz.func18, by kernel_rfl, by kernel_rfl⟩
theorem F19 : Fun Tryz.prog 19 Tryz.f19 := ⟨Tryz.func19, by kernel_rfl, by kernel_rfl⟩
theorem F20 : Fun Tryz.prog 20 Tryz.f20 := ⟨Tryz.func20, by kernel_rfl, by kernel_rfl⟩
theorem F21 : Fun Tryz.prog 21 Tryz.f21 := ⟨Tryz.func21, by kernel_rfl, by kernel_rfl⟩
theorem F22 : Fun Tryz.prog 22 Tryz.f22 := ⟨Tryz.func22, by kernel_rfl, by kernel_rfl⟩
theorem F23 : Fun Tryz.prog 23 Tryz.f23 := ⟨Tryz.func23, by kernel_rfl, by kernel_rfl⟩
theorem F24 : Fun Tryz.prog 24 Tryz.f24 := ⟨Tryz.func24, by kernel_rfl, by kernel_rfl⟩
theorem F25 : Fun Tryz.prog 25 Tryz.f25 := ⟨Tryz.func25, by kernel_rfl, by kernel_rfl⟩
theorem F26 : Fun Tryz.prog 26 Tryz.f26 := ⟨Tryz.func26, by kernel_rfl, by kernel_rfl⟩
theorem F27 : Fun Tryz.prog 27 Tryz.f27 := ⟨Tryz.func27, by kernel_rfl, by kernel_rfl⟩
theorem F28 : Fun Tryz.prog 28 Tryz.f28 := ⟨Tryz.func28, by kernel_rfl, by kernel_rfl⟩
theorem F29 : Fun Tryz.prog 29 Tryz.f29 := ⟨Tryz.func29, by kernel_rfl, by kernel_rfl⟩
theorem F30 : Fun Tryz.prog 30 Tryz.f30 := ⟨Tryz.func30, by kernel_rfl, by kernel_rfl⟩
theorem F31 : Fun Tryz.prog 31 Tryz.f31 := ⟨Tryz.func31, by kernel_rfl, by kernel_rfl⟩
theorem F32 : Fun Tryz.prog 32 Tryz.f32 := ⟨Tryz.func32, by kernel_rfl, by kernel_rfl⟩
theorem F33 : Fun Tryz.prog 33 Tryz.f33 := ⟨Tryz.func33, by kernel_rfl, by kernel_rfl⟩
theorem F34 : Fun Tryz.prog 34 Tryz.f34 := ⟨Tryz.func34, by kernel_rfl, by kernel_rfl⟩
theorem F35 : Fun Tryz.prog 35 Tryz.f35 := ⟨Tryz.func35, by kernel_rfl, by kernel_rfl⟩
theorem F36 : Fun Tryz.prog 36 Tryz.f36 := ⟨Tryz.func36, by kernel_rfl, by kernel_rfl⟩
theorem F37 : Fun Tryz.prog 37 Tryz.f37 := ⟨Tryz.func37, by kernel_rfl, by kernel_rfl⟩
theorem F38 : Fun Tryz.prog 38 Tryz.f38 := ⟨Tryz.func38, by kernel_rfl, by kernel_rfl⟩
theorem F39 : Fun Tryz.prog 39 Tryz.f39 := ⟨Tryz.func39, by kernel_rfl, by kernel_rfl⟩
theorem F40 : Fun Tryz.prog 40 Tryz.f40 := ⟨Tryz.func40, by kernel_rfl, by kernel_rfl⟩
theorem F41 : Fun Tryz.prog 41 Tryz.f41 := ⟨Tryz.func41, by kernel_rfl, by kernel_rfl⟩
theorem F42 : Fun Tryz.prog 42 Tryz.f42 := ⟨Tryz.func42, by kernel_rfl, by kernel_rfl⟩
theorem F43 : Fun Tryz.prog 43 Tryz.f43 := ⟨Tryz.func43, by kernel_rfl, by kernel_rfl⟩
theorem F44 : Fun Tryz.prog 44 Tryz.f44 := ⟨Tryz.func44, by kernel_rfl, by kernel_rfl⟩
theorem F45 : Fun Tryz.prog 45 Tryz.f45 := ⟨Tryz.func45, by kernel_rfl, by kernel_rfl⟩
theorem F46 : Fun Tryz.prog 46 Tryz.f46 := ⟨Tryz.func46, by kernel_rfl, by kernel_rfl⟩
theorem F47 : Fun Tryz.prog 47 Tryz.f47 := ⟨Tryz.func47, by kernel_rfl, by kernel_rfl⟩
theorem F48 : Fun Tryz.prog 48 Tryz.f48 := ⟨Tryz.func48, by kernel_rfl, by kernel_rfl⟩
theorem F49 : Fun Tryz.prog 49 Tryz.f49 := ⟨Tryz.func49, by kernel_rfl, by kernel_rfl⟩
theorem F50 : Fun Tryz.prog 50 Tryz.f50 := ⟨Tryz.func50, by kernel_rfl, by kernel_rfl⟩
theorem F51 : Fun Tryz.prog 51 Tryz.f51 := ⟨Tryz.func51, by kernel_rfl, by kernel_rfl⟩
theorem F52 : Fun Tryz.prog 52 Tryz.f52 := ⟨Tryz.func52, by kernel_rfl, by kernel_rfl⟩
theorem F53 : Fun Tryz.prog 53 Tryz.f53 := ⟨Tryz.func53, by kernel_rfl, by kernel_rfl⟩
theorem F54 : Fun Tryz.prog 54 Tryz.f54 := ⟨Tryz.func54, by kernel_rfl, by kernel_rfl⟩
theorem F55 : Fun Tryz.prog 55 Tryz.f55 := ⟨Tryz.func55, by kernel_rfl, by kernel_rfl⟩
theorem F56 : Fun Tryz.prog 56 Tryz.f56 := ⟨Tryz.func56, by kernel_rfl, by kernel_rfl⟩
theorem F57 : Fun Tryz.prog 57 Tryz.f57 := ⟨Tryz.func57, by kernel_rfl, by kernel_rfl⟩
theorem F58 : Fun Tryz.prog 58 Tryz.f58 := ⟨Tryz.func58, by kernel_rfl, by kernel_rfl⟩
theorem F59 : Fun Tryz.prog 59 Tryz.f59 := ⟨Tryz.func59, by kernel_rfl, by kernel_rfl⟩
theorem F60 : Fun Tryz.prog 60 Tryz.f60 := ⟨Tryz.func60, by kernel_rfl, by kernel_rfl⟩
theorem F61 : Fun Tryz.prog 61 Tryz.f61 := ⟨Tryz.func61, by kernel_rfl, by kernel_rfl⟩
theorem F62 : Fun Tryz.prog 62 Tryz.f62 := ⟨Tryz.func62, by kernel_rfl, by kernel_rfl⟩
theorem F63 : Fun Tryz.prog 63 Tryz.f63 := ⟨Tryz.func63, by kernel_rfl, by kernel_rfl⟩
theorem F64 : Fun Tryz.prog 64 Tryz.f64 := ⟨Tryz.func64, by kernel_rfl, by kernel_rfl⟩
theorem F65 : Fun Tryz.prog 65 Tryz.f65 := ⟨Tryz.func65, by kernel_rfl, by kernel_rfl⟩
theorem F66 : Fun Tryz.prog 66 Tryz.f66 := ⟨Tryz.func66, by kernel_rfl, by kernel_rfl⟩
theorem F67 : Fun Tryz.prog 67 Tryz.f67 := ⟨Tryz.func67, by kernel_rfl, by kernel_rfl⟩
theorem F68 : Fun Tryz.prog 68 Tryz.f68 := ⟨Tryz.func68, by kernel_rfl, by kernel_rfl⟩
theorem F69 : Fun Tryz.prog 69 Tryz.f69 := ⟨Tryz.func69, by kernel_rfl, by kernel_rfl⟩
theorem F70 : Fun Tryz.prog 70 Tryz.f70 := ⟨Tryz.func70, by kernel_rfl, by kernel_rfl⟩
theorem F71 : Fun Tryz.prog 71 Tryz.f71 := ⟨Tryz.func71, by kernel_rfl, by kernel_rfl⟩
theorem F72 : Fun Tryz.prog 72 Tryz.f72 := ⟨Tryz.func72, by kernel_rfl, by kernel_rfl⟩
theorem F73 : Fun Tryz.prog 73 Tryz.f73 := ⟨Tryz.func73, by kernel_rfl, by kernel_rfl⟩
theorem F74 : Fun Tryz.prog 74 Tryz.f74 := ⟨Tryz.func74, by kernel_rfl, by kernel_rfl⟩
theorem F75 : Fun Tryz.prog 75 Tryz.f75 := ⟨Tryz.func75, by kernel_rfl, by kernel_rfl⟩
theorem F76 : Fun Tryz.prog 76 Tryz.f76 := ⟨Tryz.func76, by kernel_rfl, by kernel_rfl⟩
theorem F77 : Fun Tryz.prog 77 Tryz.f77 := ⟨Tryz.func77, by kernel_rfl, by kernel_rfl⟩
theorem F78 : Fun Tryz.prog 78 Tryz.f78 := ⟨Tryz.func78, by kernel_rfl, by kernel_rfl⟩
theorem F79 : Fun Tryz.prog 79 Tryz.f79 := ⟨Tryz.func79, by kernel_rfl, by kernel_rfl⟩
theorem F80 : Fun Tryz.prog 80 Tryz.f80 := ⟨Tryz.func80, by kernel_rfl, by kernel_rfl⟩
theorem F81 : Fun Tryz.prog 81 Tryz.f81 := ⟨Tryz.func81, by kernel_rfl, by kernel_rfl⟩
theorem F82 : Fun Tryz.prog 82 Tryz.f82 := ⟨Tryz.func82, by kernel_rfl, by kernel_rfl⟩
theorem F83 : Fun Tryz.prog 83 Tryz.f83 := ⟨Tryz.func83, by kernel_rfl, by kernel_rfl⟩
theorem F84 : Fun Tryz.prog 84 Tryz.f84 := ⟨Tryz.func84, by kernel_rfl, by kernel_rfl⟩
theorem F85 : Fun Tryz.prog 85 Tryz.f85 := ⟨Tryz.func85, by kernel_rfl, by kernel_rfl⟩
theorem F86 : Fun Tryz.prog 86 Tryz.f86 := ⟨Tryz.func86, by kernel_rfl, by kernel_rfl⟩
theorem F87 : Fun Tryz.prog 87 Tryz.f87 := ⟨Tryz.func87, by kernel_rfl, by kernel_rfl⟩
theorem F88 : Fun Tryz.prog 88 Tryz.f88 := ⟨Tryz.func88, by kernel_rfl, by kernel_rfl⟩
theorem F89 : Fun Tryz.prog 89 Tryz.f89 := ⟨Tryz.func89, by kernel_rfl, by kernel_rfl⟩
theorem F90 : Fun Tryz.prog 90 Tryz.f90 := ⟨Tryz.func90, by kernel_rfl, by kernel_rfl⟩
theorem F91 : Fun Tryz.prog 91 Tryz.f91 := ⟨Tryz.func91, by kernel_rfl, by kernel_rfl⟩
theorem F92 : Fun Tryz.prog 92 Tryz.f92 := ⟨Tryz.func92, by kernel_rfl, by kernel_rfl⟩
theorem F93 : Fun Tryz.prog 93 Tryz.f93 := ⟨Tryz.func93, by kernel_rfl, by kernel_rfl⟩
theorem F94 : Fun Tryz.prog 94 Tryz.f94 := ⟨Tryz.func94, by kernel_rfl, by kernel_rfl⟩
theorem F95 : Fun Tryz.prog 95 Tryz.f95 := ⟨Tryz.func95, by kernel_rfl, by kernel_rfl⟩
theorem F98 : Fun Tryz.prog 98 Tryz.f98 := ⟨Tryz.func98, by kernel_rfl, by kernel_rfl⟩
theorem F99 : Fun Tryz.prog 99 Tryz.f99 := ⟨Tryz.func99, by kernel_rfl, by kernel_rfl⟩
theorem F100 : Fun Tryz.prog 100 Tryz.f100 := ⟨Tryz.func100, by kernel_rfl, by kernel_rfl⟩
theorem F101 : Fun Tryz.prog 101 Tryz.f101 := ⟨Tryz.func101, by kernel_rfl, by kernel_rfl⟩
theorem F102 : Fun Tryz.prog 102 Tryz.f102 := ⟨Tryz.func102, by kernel_rfl, by kernel_rfl⟩
theorem F103 : Fun Tryz.prog 103 Tryz.f103 := ⟨Tryz.func103, by kernel_rfl, by kernel_rfl⟩
theorem F104 : Fun Tryz.prog 104 Tryz.f104 := ⟨Tryz.func104, by kernel_rfl, by kernel_rfl⟩
theorem F105 : Fun Tryz.prog 105 Tryz.f105 := ⟨Tryz.func105, by kernel_rfl, by kernel_rfl⟩
theorem F106 : Fun Tryz.prog 106 Tryz.f106 := ⟨Tryz.func106, by kernel_rfl, by kernel_rfl⟩
theorem F107 : Fun Tryz.prog 107 Tryz.f107 := ⟨Tryz.func107, by kernel_rfl, by kernel_rfl⟩
theorem F108 : Fun Tryz.prog 108 Tryz.f108 := ⟨Tryz.func108, by kernel_rfl, by kernel_rfl⟩
theorem F109 : Fun Tryz.prog 109 Tryz.f109 := ⟨Tryz.func109, by kernel_rfl, by kernel_rfl⟩
theorem F110 : Fun Tryz.prog 110 Tryz.f110 := ⟨Tryz.func110, by kernel_rfl, by kernel_rfl⟩
theorem F111 : Fun Tryz.prog 111 Tryz.f111 := ⟨Tryz.func111, by kernel_rfl, by kernel_rfl⟩
theorem F112 : Fun Tryz.prog 112 Tryz.f112 := ⟨Tryz.func112, by kernel_rfl, by kernel_rfl⟩
theorem F113 : Fun Tryz.prog 113 Tryz.f113 := ⟨Tryz.func113, by kernel_rfl, by kernel_rfl⟩
theorem F114 : Fun Tryz.prog 114 Tryz.f114 := ⟨Tryz.func114, by kernel_rfl, by kernel_rfl⟩
theorem F115 : Fun Tryz.prog 115 Tryz.f115 := ⟨Tryz.func115, by kernel_rfl, by kernel_rfl⟩
theorem F116 : Fun Tryz.prog 116 Tryz.f116 := ⟨Tryz.func116, by kernel_rfl, by kernel_rfl⟩
theorem F117 : Fun Tryz.prog 117 Tryz.f117 := ⟨Tryz.func117, by kernel_rfl, by kernel_rfl⟩
theorem F124 : Fun Tryz.prog 124 Tryz.f124 := ⟨Tryz.func124, by kernel_rfl, by kernel_rfl⟩
theorem F125 : Fun Tryz.prog 125 Tryz.f125 := ⟨Tryz.func125, by kernel_rfl, by kernel_rfl⟩
theorem F126 : Fun Tryz.prog 126 Tryz.f126 := ⟨Tryz.func126, by kernel_rfl, by kernel_rfl⟩
theorem F127 : Fun Tryz.prog 127 Tryz.f127 := ⟨Tryz.func127, by kernel_rfl, by kernel_rfl⟩
theorem F131 : Fun Tryz.prog 131 Tryz.f131 := ⟨Tryz.func131, by kernel_rfl, by kernel_rfl⟩
theorem F132 : Fun Tryz.prog 132 Tryz.f132 := ⟨Tryz.func132, by kernel_rfl, by kernel_rfl⟩
theorem F133 : Fun Tryz.prog 133 Tryz.f133 := ⟨Tryz.func133, by kernel_rfl, by kernel_rfl⟩
theorem F134 : Fun Tryz.prog 134 Tryz.f134 := ⟨Tryz.func134, by kernel_rfl, by kernel_rfl⟩
theorem F140 : Fun Tryz.prog 140 Tryz.f140 := ⟨Tryz.func140, by kernel_rfl, by kernel_rfl⟩
theorem F141 : Fun Tryz.prog 141 Tryz.f141 := ⟨Tryz.func141, by kernel_rfl, by kernel_rfl⟩
theorem F142 : Fun Tryz.prog 142 Tryz.f142 := ⟨Tryz.func142, by kernel_rfl, by kernel_rfl⟩
theorem F145 : Fun Tryz.prog 145 Tryz.f145 := ⟨Tryz.func145, by kernel_rfl, by kernel_rfl⟩
theorem F146 : Fun Tryz.prog 146 Tryz.f146 := ⟨Tryz.func146, by kernel_rfl, by kernel_rfl⟩
def str0 : ByteArray := ⟨#[44]⟩
def str1 : ByteArray := ⟨#[116, 99, 112]⟩
def str2 : ByteArray := ⟨#[117, 100, 112]⟩
def str3 : ByteArray := ⟨#[105, 99, 109, 112]⟩
def str4 : ByteArray := ⟨#[105, 99, 109, 112, 54]⟩
def str5 : ByteArray := ⟨#[112, 114, 111, 116, 111]⟩
def str6 : ByteArray := ⟨#[99, 108, 97, 115, 115]⟩
def str7 : ByteArray := ⟨#[97, 110, 121]⟩
def str8 : ByteArray := ⟨#[112]⟩
def str9 : ByteArray := ⟨#[58, 58]⟩
def ZuH : ByteArray := ⟨#[58]⟩
def Zpe : ByteArray := ⟨#[47]⟩
def ZsW : ByteArray := ⟨#[45]⟩
def ZsV : ByteArray := ⟨#[110, 111, 116]⟩
def ZsU : ByteArray := ⟨#[112, 111, 114, 116]⟩
def ZtV : ByteArray := ⟨#[33]⟩
def ZnJ : ByteArray := ⟨#[111, 110]⟩
def ZnI : ByteArray := ⟨#[118, 105, 100]⟩
def Zkw : ByteArray := ⟨#[102, 114, 111, 109]⟩
def Zl5 : ByteArray := ⟨#[116, 111]⟩
def Zj0 : ByteArray := ⟨#[102, 108, 97, 103, 115]⟩
def ZjZ : ByteArray := ⟨#[116, 121, 112, 101]⟩
def ZnH : ByteArray := ⟨#[112, 105, 101, 99, 101, 115]⟩
def ZtU : ByteArray := ⟨#[112, 101, 114, 109, 105, 116]⟩
def ZtT : ByteArray := ⟨#[100, 101, 110, 121]⟩
def ZtS : ByteArray := ⟨#[114, 101, 106, 101, 99, 116]⟩
def ZtR : ByteArray := ⟨#[97, 114, 112]⟩
def ZtQ : ByteArray := ⟨#[105, 112, 52]⟩
def ZtP : ByteArray := ⟨#[105, 112, 54]⟩
def ZtO : ByteArray := ⟨#[102, 105, 110]⟩
def ZtN : ByteArray := ⟨#[115, 121, 110]⟩
def ZtM : ByteArray := ⟨#[114, 115, 116]⟩
def ZtL : ByteArray := ⟨#[112, 115, 104]⟩
def ZtK : ByteArray := ⟨#[97, 99, 107]⟩
def ZtJ : ByteArray := ⟨#[117, 114, 103]⟩
def ZtI : ByteArray := ⟨#[101, 99, 101]⟩
def ZtH : ByteArray := ⟨#[99, 119, 114]⟩
def ZsT : ByteArray := ⟨#[112, 101, 114, 109, 105, 116, 32, 116, 99, 112, 32, 102, 114, 111, 109, 32, 49, 48, 46, 48, 46, 48, 46, 48, 47, 56, 32, 116, 111, 32, 97, 110, 121, 32, 112, 111, 114, 116, 32, 56, 48]⟩
def Zry : ByteArray := ⟨#[48, 49, 50, 51, 52, 53, 54, 55, 56, 57, 97, 98, 99, 100, 101, 102, 103, 104, 105, 106, 107, 108, 109, 110, 111, 112, 113, 114, 115, 116, 117, 118, 119, 120, 121, 122]⟩
def Zrx : ByteArray := ⟨#[48, 48, 48, 49, 48, 50, 48, 51, 48, 52, 48, 53, 48, 54, 48, 55, 48, 56, 48, 57, 49, 48, 49, 49, 49, 50, 49, 51, 49, 52, 49, 53, 49, 54, 49, 55, 49, 56, 49, 57, 50, 48, 50, 49, 50, 50, 50, 51, 50, 52, 50, 53, 50, 54, 50, 55, 50, 56, 50, 57, 51, 48, 51, 49, 51, 50, 51, 51, 51, 52, 51, 53, 51, 54, 51, 55, 51, 56, 51, 57, 52, 48, 52, 49, 52, 50, 52, 51, 52, 52, 52, 53, 52, 54, 52, 55, 52, 56, 52, 57, 53, 48, 53, 49, 53, 50, 53, 51, 53, 52, 53, 53, 53, 54, 53, 55, 53, 56, 53, 57, 54, 48, 54, 49, 54, 50, 54, 51, 54, 52, 54, 53, 54, 54, 54, 55, 54, 56, 54, 57, 55, 48, 55, 49, 55, 50, 55, 51, 55, 52, 55, 53, 55, 54, 55, 55, 55, 56, 55, 57, 56, 48, 56, 49, 56, 50, 56, 51, 56, 52, 56, 53, 56, 54, 56, 55, 56, 56, 56, 57, 57, 48, 57, 49, 57, 50, 57, 51, 57, 52, 57, 53, 57, 54, 57, 55, 57, 56, 57, 57]⟩
def ZgS : ByteArray := ⟨#[32]⟩
def ZtG : ByteArray := ⟨#[46]⟩
def Zrw : ByteArray := ⟨#[32, 112, 111, 114, 116, 32]⟩
theorem Eq5 : EqT Tryz.prog 5 1 (cI .u8) := EqT.int Tryz.underlying5
theorem ZuV : EqT Tryz.prog 152 2 ((cI .u8).arr 12) := EqT.arr Tryz.underlying152 Ty5 Eq5
theorem Eq65 : EqT Tryz.prog 65 2 ((cI .u8).arr 16) := EqT.arr Tryz.underlying65 Ty5 Eq5
theorem Eq9 : EqT Tryz.prog 9 1 cS := EqT.string Tryz.underlying9
theorem Ck9 : CkT Tryz.prog 9 1 cS := CkT.string Tryz.underlying9
theorem Kt46 : KeyT Tryz.prog 46 9 1 cS (cI .i64) 0 := ⟨NowK.string Tryz.underlying9, Eq9, Ck9, SbC.string, by decide, ⟨3, by kernel_rfl, Ty3⟩, ⟨_, Tryz.underlying9⟩⟩
theorem Eq3 : EqT Tryz.prog 3 1 (cI .i64) := EqT.int Tryz.underlying3
theorem Eq67 : EqT Tryz.prog 67 3 ZbW := EqT.struct (D := 2) Tryz.underlying67 (by kernel_rfl) rfl (fun d hd x y w => EqFs.congr (EqFs.cons rfl Ty3 (ZcZ x) (ZcZ y) Eq3 (by omega) (EqFs.cons rfl Ty65 (ZdP x) (ZdP y) Eq65 (by omega) EqFs.nil)) (by obtain ⟨⟩ := x; obtain ⟨⟩ := y; simp))
theorem Eq69 : EqT Tryz.prog 69 4 ZaI := EqT.struct (D := 3) Tryz.underlying69 (by kernel_rfl) rfl (fun d hd x y w => EqFs.congr (EqFs.cons rfl Ty67 (Zb6 x) (Zb6 y) Eq67 (by omega) (EqFs.cons rfl Ty3 (Zb2 x) (Zb2 y) Eq3 (by omega) EqFs.nil)) (by obtain ⟨⟩ := x; obtain ⟨⟩ := y; simp))
theorem Eq71 : EqT Tryz.prog 71 2 Zbi := EqT.struct (D := 1) Tryz.underlying71 (by kernel_rfl) rfl (fun d hd x y w => EqFs.congr (EqFs.cons rfl Ty3 (Zda x) (Zda y) Eq3 (by omega) (EqFs.cons rfl Ty3 (Zer x) (Zer y) Eq3 (by omega) EqFs.nil)) (by obtain ⟨⟩ := x; obtain ⟨⟩ := y; simp))
theorem Zdz : Tryz.prog.follows .mixedOrders = true := by kernel_rfl
end Go.Proofs.YtmgbjiaognomhaaGreatDoor.Lx
