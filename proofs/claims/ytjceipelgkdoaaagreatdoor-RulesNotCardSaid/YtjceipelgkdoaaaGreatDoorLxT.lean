/- The types of the translation that the programs use. -/
import Derived.Test.YtjceipelgkdoaaaGreatDoorProg
import Derived.Test.YtjceipelgkdoaaaGreatDoorLxNv
set_option linter.unusedVariables false
set_option linter.unusedSimpArgs false
set_option linter.unusedSectionVars false
namespace Go.Proofs.YtjceipelgkdoaaaGreatDoor.Lx
open Go Go.Proofs
structure Zae where
 Not : Bool
 Nets : Sl
 Ports : Sl
 deriving DecidableEq
def Zaw : Zae := ⟨false, Sl.nil, Sl.nil⟩
instance : Inhabited Zae := ⟨Zaw⟩
def ZaE : Cod Zae := (cB.pair (cL.pair cL)).iso (fun x => (x.Not, x.Nets, x.Ports)) (fun p => ⟨p.1, p.2.1, p.2.2⟩) (fun _ => rfl) (fun _ => rfl)
theorem ZaJ (x : Zae) : At (ZaE.enc x) 0 (cB.enc x.Not) := At.fst
theorem Zfh (x : Zae) (y : Bool) : Upd (ZaE.enc x) 0 (cB.enc y) (ZaE.enc (⟨y, x.Nets, x.Ports⟩ : Zae)) := Upd.fst
theorem Zax (x : Zae) : At (ZaE.enc x) 1 (cL.enc x.Nets) := At.snd (At.fst)
theorem Zcq (x : Zae) (y : Sl) : Upd (ZaE.enc x) 1 (cL.enc y) (ZaE.enc (⟨x.Not, y, x.Ports⟩ : Zae)) := Upd.snd (Upd.fst)
theorem ZaR (x : Zae) : At (ZaE.enc x) 2 (cL.enc x.Ports) := At.snd (At.last)
theorem ZdY (x : Zae) (y : Sl) : Upd (ZaE.enc x) 2 (cL.enc y) (ZaE.enc (⟨x.Not, x.Nets, y⟩ : Zae)) := Upd.snd (Upd.last)
structure Zah where
 Act : Int
 Class : Int
 Kind : Int
 Proto : Int
 In : Int
 Vid : Int
 From : Zae
 To : Zae
 Set : Int
 Clear : Int
 Type_ : Int
 Pieces : Bool
 deriving DecidableEq
def Zaa : Zah := ⟨0, 0, 0, 0, 0, 0, Zaw, Zaw, 0, 0, 0, false⟩
instance : Inhabited Zah := ⟨Zaa⟩
def Zan : Cod Zah := ((cI .i64).pair ((cI .i64).pair ((cI .i64).pair ((cI .i64).pair ((cI .i64).pair ((cI .i64).pair (ZaE.pair (ZaE.pair ((cI .i64).pair ((cI .i64).pair ((cI .i64).pair cB))))))))))).iso (fun x => (x.Act, x.Class, x.Kind, x.Proto, x.In, x.Vid, x.From, x.To, x.Set, x.Clear, x.Type_, x.Pieces)) (fun p => ⟨p.1, p.2.1, p.2.2.1, p.2.2.2.1, p.2.2.2.2.1, p.2.2.2.2.2.1, p.2.2.2.2.2.2.1, p.2.2.2.2.2.2.2.1, p.2.2.2.2.2.2.2.2.1, p.2.2.2.2.2.2.2.2.2.1, p.2.2.2.2.2.2.2.2.2.2.1, p.2.2.2.2.2.2.2.2.2.2.2⟩) (fun _ => rfl) (fun _ => rfl)
theorem Zb8 (x : Zah) : At (Zan.enc x) 0 ((cI .i64).enc x.Act) := At.fst
theorem Zcm (x : Zah) (y : Int) : Upd (Zan.enc x) 0 ((cI .i64).enc y) (Zan.enc (⟨y, x.Class, x.Kind, x.Proto, x.In, x.Vid, x.From, x.To, x.Set, x.Clear, x.Type_, x.Pieces⟩ : Zah)) := Upd.fst
theorem ZcP (x : Zah) : At (Zan.enc x) 1 ((cI .i64).enc x.Class) := At.snd (At.fst)
theorem ZfX (x : Zah) (y : Int) : Upd (Zan.enc x) 1 ((cI .i64).enc y) (Zan.enc (⟨x.Act, y, x.Kind, x.Proto, x.In, x.Vid, x.From, x.To, x.Set, x.Clear, x.Type_, x.Pieces⟩ : Zah)) := Upd.snd (Upd.fst)
theorem ZbU (x : Zah) : At (Zan.enc x) 2 ((cI .i64).enc x.Kind) := At.snd (At.snd (At.fst))
theorem Zgo (x : Zah) (y : Int) : Upd (Zan.enc x) 2 ((cI .i64).enc y) (Zan.enc (⟨x.Act, x.Class, y, x.Proto, x.In, x.Vid, x.From, x.To, x.Set, x.Clear, x.Type_, x.Pieces⟩ : Zah)) := Upd.snd (Upd.snd (Upd.fst))
theorem Zbu (x : Zah) : At (Zan.enc x) 3 ((cI .i64).enc x.Proto) := At.snd (At.snd (At.snd (At.fst)))
theorem ZdZ (x : Zah) (y : Int) : Upd (Zan.enc x) 3 ((cI .i64).enc y) (Zan.enc (⟨x.Act, x.Class, x.Kind, y, x.In, x.Vid, x.From, x.To, x.Set, x.Clear, x.Type_, x.Pieces⟩ : Zah)) := Upd.snd (Upd.snd (Upd.snd (Upd.fst)))
theorem ZdJ (x : Zah) : At (Zan.enc x) 4 ((cI .i64).enc x.In) := At.snd (At.snd (At.snd (At.snd (At.fst))))
theorem Zhu (x : Zah) (y : Int) : Upd (Zan.enc x) 4 ((cI .i64).enc y) (Zan.enc (⟨x.Act, x.Class, x.Kind, x.Proto, y, x.Vid, x.From, x.To, x.Set, x.Clear, x.Type_, x.Pieces⟩ : Zah)) := Upd.snd (Upd.snd (Upd.snd (Upd.snd (Upd.fst))))
theorem Zdn (x : Zah) : At (Zan.enc x) 5 ((cI .i64).enc x.Vid) := At.snd (At.snd (At.snd (At.snd (At.snd (At.fst)))))
theorem ZgZ (x : Zah) (y : Int) : Upd (Zan.enc x) 5 ((cI .i64).enc y) (Zan.enc (⟨x.Act, x.Class, x.Kind, x.Proto, x.In, y, x.From, x.To, x.Set, x.Clear, x.Type_, x.Pieces⟩ : Zah)) := Upd.snd (Upd.snd (Upd.snd (Upd.snd (Upd.snd (Upd.fst)))))
theorem ZbJ (x : Zah) : At (Zan.enc x) 6 (ZaE.enc x.From) := At.snd (At.snd (At.snd (At.snd (At.snd (At.snd (At.fst))))))
theorem ZcH (x : Zah) (y : Zae) : Upd (Zan.enc x) 6 (ZaE.enc y) (Zan.enc (⟨x.Act, x.Class, x.Kind, x.Proto, x.In, x.Vid, y, x.To, x.Set, x.Clear, x.Type_, x.Pieces⟩ : Zah)) := Upd.snd (Upd.snd (Upd.snd (Upd.snd (Upd.snd (Upd.snd (Upd.fst))))))
theorem ZbL (x : Zah) : At (Zan.enc x) 9 (ZaE.enc x.To) := At.snd (At.snd (At.snd (At.snd (At.snd (At.snd (At.snd (At.fst)))))))
theorem Zdd (x : Zah) (y : Zae) : Upd (Zan.enc x) 9 (ZaE.enc y) (Zan.enc (⟨x.Act, x.Class, x.Kind, x.Proto, x.In, x.Vid, x.From, y, x.Set, x.Clear, x.Type_, x.Pieces⟩ : Zah)) := Upd.snd (Upd.snd (Upd.snd (Upd.snd (Upd.snd (Upd.snd (Upd.snd (Upd.fst)))))))
theorem Zb7 (x : Zah) : At (Zan.enc x) 12 ((cI .i64).enc x.Set) := At.snd (At.snd (At.snd (At.snd (At.snd (At.snd (At.snd (At.snd (At.fst))))))))
theorem Zkj (x : Zah) (y : Int) : Upd (Zan.enc x) 12 ((cI .i64).enc y) (Zan.enc (⟨x.Act, x.Class, x.Kind, x.Proto, x.In, x.Vid, x.From, x.To, y, x.Clear, x.Type_, x.Pieces⟩ : Zah)) := Upd.snd (Upd.snd (Upd.snd (Upd.snd (Upd.snd (Upd.snd (Upd.snd (Upd.snd (Upd.fst))))))))
theorem ZbM (x : Zah) : At (Zan.enc x) 13 ((cI .i64).enc x.Clear) := At.snd (At.snd (At.snd (At.snd (At.snd (At.snd (At.snd (At.snd (At.snd (At.fst)))))))))
theorem ZiK (x : Zah) (y : Int) : Upd (Zan.enc x) 13 ((cI .i64).enc y) (Zan.enc (⟨x.Act, x.Class, x.Kind, x.Proto, x.In, x.Vid, x.From, x.To, x.Set, y, x.Type_, x.Pieces⟩ : Zah)) := Upd.snd (Upd.snd (Upd.snd (Upd.snd (Upd.snd (Upd.snd (Upd.snd (Upd.snd (Upd.snd (Upd.fst)))))))))
theorem Zcu (x : Zah) : At (Zan.enc x) 14 ((cI .i64).enc x.Type_) := At.snd (At.snd (At.snd (At.snd (At.snd (At.snd (At.snd (At.snd (At.snd (At.snd (At.fst))))))))))
theorem ZfW (x : Zah) (y : Int) : Upd (Zan.enc x) 14 ((cI .i64).enc y) (Zan.enc (⟨x.Act, x.Class, x.Kind, x.Proto, x.In, x.Vid, x.From, x.To, x.Set, x.Clear, y, x.Pieces⟩ : Zah)) := Upd.snd (Upd.snd (Upd.snd (Upd.snd (Upd.snd (Upd.snd (Upd.snd (Upd.snd (Upd.snd (Upd.snd (Upd.fst))))))))))
theorem ZdQ (x : Zah) : At (Zan.enc x) 15 (cB.enc x.Pieces) := At.snd (At.snd (At.snd (At.snd (At.snd (At.snd (At.snd (At.snd (At.snd (At.snd (At.last))))))))))
theorem Zio (x : Zah) (y : Bool) : Upd (Zan.enc x) 15 (cB.enc y) (Zan.enc (⟨x.Act, x.Class, x.Kind, x.Proto, x.In, x.Vid, x.From, x.To, x.Set, x.Clear, x.Type_, y⟩ : Zah)) := Upd.snd (Upd.snd (Upd.snd (Upd.snd (Upd.snd (Upd.snd (Upd.snd (Upd.snd (Upd.snd (Upd.snd (Upd.last))))))))))
structure Zbn where
 V : Int
 A : (Vec Int 16)
 deriving DecidableEq
def Zb9 : Zbn := ⟨0, (Vec.rep 16 0)⟩
instance : Inhabited Zbn := ⟨Zb9⟩
def ZaV : Cod Zbn := ((cI .i64).pair ((cI .u8).arr 16)).iso (fun x => (x.V, x.A)) (fun p => ⟨p.1, p.2⟩) (fun _ => rfl) (fun _ => rfl)
theorem Zde (x : Zbn) : At (ZaV.enc x) 0 ((cI .i64).enc x.V) := At.fst
theorem ZhV (x : Zbn) (y : Int) : Upd (ZaV.enc x) 0 ((cI .i64).enc y) (ZaV.enc (⟨y, x.A⟩ : Zbn)) := Upd.fst
theorem Zdf (x : Zbn) : At (ZaV.enc x) 1 (((cI .u8).arr 16).enc x.A) := At.last
theorem ZhW (x : Zbn) (y : (Vec Int 16)) : Upd (ZaV.enc x) 1 (((cI .u8).arr 16).enc y) (ZaV.enc (⟨x.V, y⟩ : Zbn)) := Upd.last
structure Zac where
 IP : Zbn
 Len : Int
 deriving DecidableEq
def Zbt : Zac := ⟨Zb9, 0⟩
instance : Inhabited Zac := ⟨Zbt⟩
def Zay : Cod Zac := (ZaV.pair (cI .i64)).iso (fun x => (x.IP, x.Len)) (fun p => ⟨p.1, p.2⟩) (fun _ => rfl) (fun _ => rfl)
theorem ZbC (x : Zac) : At (Zay.enc x) 0 (ZaV.enc x.IP) := At.fst
theorem ZeV (x : Zac) (y : Zbn) : Upd (Zay.enc x) 0 (ZaV.enc y) (Zay.enc (⟨y, x.Len⟩ : Zac)) := Upd.fst
theorem Zb0 (x : Zac) : At (Zay.enc x) 17 ((cI .i64).enc x.Len) := At.last
theorem Zd0 (x : Zac) (y : Int) : Upd (Zay.enc x) 17 ((cI .i64).enc y) (Zay.enc (⟨x.IP, y⟩ : Zac)) := Upd.last
structure ZaD where
 Lo : Int
 Hi : Int
 deriving DecidableEq
def Ze6 : ZaD := ⟨0, 0⟩
instance : Inhabited ZaD := ⟨Ze6⟩
def ZaU : Cod ZaD := ((cI .i64).pair (cI .i64)).iso (fun x => (x.Lo, x.Hi)) (fun p => ⟨p.1, p.2⟩) (fun _ => rfl) (fun _ => rfl)
theorem ZcV (x : ZaD) : At (ZaU.enc x) 0 ((cI .i64).enc x.Lo) := At.fst
theorem Zeu (x : ZaD) (y : Int) : Upd (ZaU.enc x) 0 ((cI .i64).enc y) (ZaU.enc (⟨y, x.Hi⟩ : ZaD)) := Upd.fst
theorem Zdo (x : ZaD) : At (ZaU.enc x) 1 ((cI .i64).enc x.Hi) := At.last
theorem Zev (x : ZaD) (y : Int) : Upd (ZaU.enc x) 1 ((cI .i64).enc y) (ZaU.enc (⟨x.Lo, y⟩ : ZaD)) := Upd.last
structure ZaA where
 s : ByteArray
 at_ : Int
 deriving DecidableEq
def Zcw : ZaA := ⟨ByteArray.empty, 0⟩
instance : Inhabited ZaA := ⟨Zcw⟩
def Za9 : Cod ZaA := (cS.pair (cI .i64)).iso (fun x => (x.s, x.at_)) (fun p => ⟨p.1, p.2⟩) (fun _ => rfl) (fun _ => rfl)
theorem Za8 (x : ZaA) : At (Za9.enc x) 0 (cS.enc x.s) := At.fst
theorem ZgX (x : ZaA) (y : ByteArray) : Upd (Za9.enc x) 0 (cS.enc y) (Za9.enc (⟨y, x.at_⟩ : ZaA)) := Upd.fst
theorem Zbr (x : ZaA) : At (Za9.enc x) 1 ((cI .i64).enc x.at_) := At.last
theorem ZfV (x : ZaA) (y : Int) : Upd (Za9.enc x) 1 ((cI .i64).enc y) (Za9.enc (⟨x.s, y⟩ : ZaA)) := Upd.last
structure ZbA where
 why : Int
 at_ : Int
 deriving DecidableEq
def ZiN : ZbA := ⟨0, 0⟩
instance : Inhabited ZbA := ⟨ZiN⟩
def Zbf : Cod ZbA := ((cI .i64).pair (cI .i64)).iso (fun x => (x.why, x.at_)) (fun p => ⟨p.1, p.2⟩) (fun _ => rfl) (fun _ => rfl)
theorem Zd2 (x : ZbA) : At (Zbf.enc x) 0 ((cI .i64).enc x.why) := At.fst
theorem Zbg (x : ZbA) (y : Int) : Upd (Zbf.enc x) 0 ((cI .i64).enc y) (Zbf.enc (⟨y, x.at_⟩ : ZbA)) := Upd.fst
theorem Zd3 (x : ZbA) : At (Zbf.enc x) 1 ((cI .i64).enc x.at_) := At.last
theorem Zbh (x : ZbA) (y : Int) : Upd (Zbf.enc x) 1 ((cI .i64).enc y) (Zbf.enc (⟨x.why, y⟩ : ZbA)) := Upd.last
structure Zdi where
 s : ByteArray
 at_ : Int
 groups : Sl
 gap : Int
 deriving DecidableEq
def Zg1 : Zdi := ⟨ByteArray.empty, 0, Sl.nil, 0⟩
instance : Inhabited Zdi := ⟨Zg1⟩
def Zct : Cod Zdi := (cS.pair ((cI .i64).pair (cL.pair (cI .i64)))).iso (fun x => (x.s, x.at_, x.groups, x.gap)) (fun p => ⟨p.1, p.2.1, p.2.2.1, p.2.2.2⟩) (fun _ => rfl) (fun _ => rfl)
theorem Zcc (x : Zdi) : At (Zct.enc x) 0 (cS.enc x.s) := At.fst
theorem ZlG (x : Zdi) (y : ByteArray) : Upd (Zct.enc x) 0 (cS.enc y) (Zct.enc (⟨y, x.at_, x.groups, x.gap⟩ : Zdi)) := Upd.fst
theorem Zcn (x : Zdi) : At (Zct.enc x) 1 ((cI .i64).enc x.at_) := At.snd (At.fst)
theorem Zfi (x : Zdi) (y : Int) : Upd (Zct.enc x) 1 ((cI .i64).enc y) (Zct.enc (⟨x.s, y, x.groups, x.gap⟩ : Zdi)) := Upd.snd (Upd.fst)
theorem Zbj (x : Zdi) : At (Zct.enc x) 2 (cL.enc x.groups) := At.snd (At.snd (At.fst))
theorem Zew (x : Zdi) (y : Sl) : Upd (Zct.enc x) 2 (cL.enc y) (Zct.enc (⟨x.s, x.at_, y, x.gap⟩ : Zdi)) := Upd.snd (Upd.snd (Upd.fst))
theorem ZcW (x : Zdi) : At (Zct.enc x) 3 ((cI .i64).enc x.gap) := At.snd (At.snd (At.last))
theorem Zg0 (x : Zdi) (y : Int) : Upd (Zct.enc x) 3 ((cI .i64).enc y) (Zct.enc (⟨x.s, x.at_, x.groups, y⟩ : Zdi)) := Upd.snd (Upd.snd (Upd.last))
structure Za7 where
 l : Sl
 i : Int
 end_ : Int
 rule : Zah
 err : Int
 at_ : Int
 deriving DecidableEq
def ZdI : Za7 := ⟨Sl.nil, 0, 0, Zaa, 0, 0⟩
instance : Inhabited Za7 := ⟨ZdI⟩
def Za4 : Cod Za7 := (cL.pair ((cI .i64).pair ((cI .i64).pair (Zan.pair ((cI .i64).pair (cI .i64)))))).iso (fun x => (x.l, x.i, x.end_, x.rule, x.err, x.at_)) (fun p => ⟨p.1, p.2.1, p.2.2.1, p.2.2.2.1, p.2.2.2.2.1, p.2.2.2.2.2⟩) (fun _ => rfl) (fun _ => rfl)
theorem ZbZ (x : Za7) : At (Za4.enc x) 0 (cL.enc x.l) := At.fst
theorem ZiJ (x : Za7) (y : Sl) : Upd (Za4.enc x) 0 (cL.enc y) (Za4.enc (⟨y, x.i, x.end_, x.rule, x.err, x.at_⟩ : Za7)) := Upd.fst
theorem Zbi (x : Za7) : At (Za4.enc x) 1 ((cI .i64).enc x.i) := At.snd (At.fst)
theorem ZeD (x : Za7) (y : Int) : Upd (Za4.enc x) 1 ((cI .i64).enc y) (Za4.enc (⟨x.l, y, x.end_, x.rule, x.err, x.at_⟩ : Za7)) := Upd.snd (Upd.fst)
theorem Zho (x : Za7) : At (Za4.enc x) 2 ((cI .i64).enc x.end_) := At.snd (At.snd (At.fst))
theorem Zhm (x : Za7) (y : Int) : Upd (Za4.enc x) 2 ((cI .i64).enc y) (Za4.enc (⟨x.l, x.i, y, x.rule, x.err, x.at_⟩ : Za7)) := Upd.snd (Upd.snd (Upd.fst))
theorem ZbB (x : Za7) : At (Za4.enc x) 3 (Zan.enc x.rule) := At.snd (At.snd (At.snd (At.fst)))
theorem Zdj (x : Za7) (y : Zah) : Upd (Za4.enc x) 3 (Zan.enc y) (Za4.enc (⟨x.l, x.i, x.end_, y, x.err, x.at_⟩ : Za7)) := Upd.snd (Upd.snd (Upd.snd (Upd.fst)))
theorem ZdE (x : Za7) : At (Za4.enc x) 19 ((cI .i64).enc x.err) := At.snd (At.snd (At.snd (At.snd (At.fst))))
theorem ZhT (x : Za7) (y : Int) : Upd (Za4.enc x) 19 ((cI .i64).enc y) (Za4.enc (⟨x.l, x.i, x.end_, x.rule, y, x.at_⟩ : Za7)) := Upd.snd (Upd.snd (Upd.snd (Upd.snd (Upd.fst))))
theorem Zfj (x : Za7) : At (Za4.enc x) 20 ((cI .i64).enc x.at_) := At.snd (At.snd (At.snd (At.snd (At.last))))
theorem ZhU (x : Za7) (y : Int) : Upd (Za4.enc x) 20 ((cI .i64).enc y) (Za4.enc (⟨x.l, x.i, x.end_, x.rule, x.err, y⟩ : Za7)) := Upd.snd (Upd.snd (Upd.snd (Upd.snd (Upd.last))))
structure Zcj where
 addr : (Option Addr)
 buf : Sl
 deriving DecidableEq
def ZdV : Zcj := ⟨none, Sl.nil⟩
instance : Inhabited Zcj := ⟨ZdV⟩
def ZbY : Cod Zcj := (cP.pair cL).iso (fun x => (x.addr, x.buf)) (fun p => ⟨p.1, p.2⟩) (fun _ => rfl) (fun _ => rfl)
theorem Zex (x : Zcj) : At (ZbY.enc x) 0 (cP.enc x.addr) := At.fst
theorem Zgd (x : Zcj) (y : (Option Addr)) : Upd (ZbY.enc x) 0 (cP.enc y) (ZbY.enc (⟨y, x.buf⟩ : Zcj)) := Upd.fst
theorem Zbk (x : Zcj) : At (ZbY.enc x) 1 (cL.enc x.buf) := At.last
theorem Zez (x : Zcj) (y : Sl) : Upd (ZbY.enc x) 1 (cL.enc y) (ZbY.enc (⟨x.addr, y⟩ : Zcj)) := Upd.last
structure ZhQ where
 Op : Int
 SMac : (Vec Int 6)
 SIP : Zbn
 TMac : (Vec Int 6)
 TIP : Zbn
 deriving DecidableEq
def ZlQ : ZhQ := ⟨0, (Vec.rep 6 0), Zb9, (Vec.rep 6 0), Zb9⟩
instance : Inhabited ZhQ := ⟨ZlQ⟩
def ZgS : Cod ZhQ := ((cI .i64).pair (((cI .u8).arr 6).pair (ZaV.pair (((cI .u8).arr 6).pair ZaV)))).iso (fun x => (x.Op, x.SMac, x.SIP, x.TMac, x.TIP)) (fun p => ⟨p.1, p.2.1, p.2.2.1, p.2.2.2.1, p.2.2.2.2⟩) (fun _ => rfl) (fun _ => rfl)
theorem ZkF (x : ZhQ) : At (ZgS.enc x) 7 (ZaV.enc x.SIP) := At.snd (At.snd (At.fst))
theorem Zhy (x : ZhQ) : At (ZgS.enc x) 30 (ZaV.enc x.TIP) := At.snd (At.snd (At.snd (At.last)))
structure ZfF where
 Tos : Int
 ID : Int
 DF : Bool
 MF : Bool
 Off : Int
 TTL : Int
 Proto : Int
 Src : Zbn
 Dst : Zbn
 Opts : Sl
 Data : Sl
 deriving DecidableEq
def ZlP : ZfF := ⟨0, 0, false, false, 0, 0, 0, Zb9, Zb9, Sl.nil, Sl.nil⟩
instance : Inhabited ZfF := ⟨ZlP⟩
def ZeO : Cod ZfF := ((cI .i64).pair ((cI .i64).pair (cB.pair (cB.pair ((cI .i64).pair ((cI .i64).pair ((cI .i64).pair (ZaV.pair (ZaV.pair (cL.pair cL)))))))))).iso (fun x => (x.Tos, x.ID, x.DF, x.MF, x.Off, x.TTL, x.Proto, x.Src, x.Dst, x.Opts, x.Data)) (fun p => ⟨p.1, p.2.1, p.2.2.1, p.2.2.2.1, p.2.2.2.2.1, p.2.2.2.2.2.1, p.2.2.2.2.2.2.1, p.2.2.2.2.2.2.2.1, p.2.2.2.2.2.2.2.2.1, p.2.2.2.2.2.2.2.2.2.1, p.2.2.2.2.2.2.2.2.2.2⟩) (fun _ => rfl) (fun _ => rfl)
theorem ZlL (x : ZfF) : At (ZeO.enc x) 3 (cB.enc x.MF) := At.snd (At.snd (At.snd (At.fst)))
theorem ZkE (x : ZfF) : At (ZeO.enc x) 4 ((cI .i64).enc x.Off) := At.snd (At.snd (At.snd (At.snd (At.fst))))
theorem Zjq (x : ZfF) : At (ZeO.enc x) 6 ((cI .i64).enc x.Proto) := At.snd (At.snd (At.snd (At.snd (At.snd (At.snd (At.fst))))))
theorem ZkD (x : ZfF) : At (ZeO.enc x) 7 (ZaV.enc x.Src) := At.snd (At.snd (At.snd (At.snd (At.snd (At.snd (At.snd (At.fst)))))))
theorem Zhx (x : ZfF) : At (ZeO.enc x) 24 (ZaV.enc x.Dst) := At.snd (At.snd (At.snd (At.snd (At.snd (At.snd (At.snd (At.snd (At.fst))))))))
structure Zhc where
 Has : Bool
 More : Bool
 ID : Int
 Off : Int
 deriving DecidableEq
def ZkI : Zhc := ⟨false, false, 0, 0⟩
instance : Inhabited Zhc := ⟨ZkI⟩
def Zha : Cod Zhc := (cB.pair (cB.pair ((cI .i64).pair (cI .i64)))).iso (fun x => (x.Has, x.More, x.ID, x.Off)) (fun p => ⟨p.1, p.2.1, p.2.2.1, p.2.2.2⟩) (fun _ => rfl) (fun _ => rfl)
theorem Zkp (x : Zhc) : At (Zha.enc x) 0 (cB.enc x.Has) := At.fst
structure Zgc where
 Class : Int
 Flow : Int
 Hop : Int
 Src : Zbn
 Dst : Zbn
 Exts : Sl
 Frag : Zhc
 Next : Int
 Data : Sl
 deriving DecidableEq
def ZlO : Zgc := ⟨0, 0, 0, Zb9, Zb9, Sl.nil, ZkI, 0, Sl.nil⟩
instance : Inhabited Zgc := ⟨ZlO⟩
def Zfd : Cod Zgc := ((cI .i64).pair ((cI .i64).pair ((cI .i64).pair (ZaV.pair (ZaV.pair (cL.pair (Zha.pair ((cI .i64).pair cL)))))))).iso (fun x => (x.Class, x.Flow, x.Hop, x.Src, x.Dst, x.Exts, x.Frag, x.Next, x.Data)) (fun p => ⟨p.1, p.2.1, p.2.2.1, p.2.2.2.1, p.2.2.2.2.1, p.2.2.2.2.2.1, p.2.2.2.2.2.2.1, p.2.2.2.2.2.2.2.1, p.2.2.2.2.2.2.2.2⟩) (fun _ => rfl) (fun _ => rfl)
theorem ZkC (x : Zgc) : At (Zfd.enc x) 3 (ZaV.enc x.Src) := At.snd (At.snd (At.snd (At.fst)))
theorem Zhw (x : Zgc) : At (Zfd.enc x) 20 (ZaV.enc x.Dst) := At.snd (At.snd (At.snd (At.snd (At.fst))))
theorem Zko (x : Zgc) : At (Zfd.enc x) 38 (Zha.enc x.Frag) := At.snd (At.snd (At.snd (At.snd (At.snd (At.snd (At.fst))))))
theorem Zkn (x : Zgc) : At (Zfd.enc x) 42 ((cI .i64).enc x.Next) := At.snd (At.snd (At.snd (At.snd (At.snd (At.snd (At.snd (At.fst)))))))
structure Zhb where
 V : Int
 Type_ : Int
 Code : Int
 Rest : Int
 Data : Sl
 deriving DecidableEq
def ZkH : Zhb := ⟨0, 0, 0, 0, Sl.nil⟩
instance : Inhabited Zhb := ⟨ZkH⟩
def Zg9 : Cod Zhb := ((cI .i64).pair ((cI .i64).pair ((cI .i64).pair ((cI .i64).pair cL)))).iso (fun x => (x.V, x.Type_, x.Code, x.Rest, x.Data)) (fun p => ⟨p.1, p.2.1, p.2.2.1, p.2.2.2.1, p.2.2.2.2⟩) (fun _ => rfl) (fun _ => rfl)
theorem ZiM (x : Zhb) : At (Zg9.enc x) 1 ((cI .i64).enc x.Type_) := At.snd (At.fst)
structure ZhO where
 Sport : Int
 Dport : Int
 NoSum : Bool
 Data : Sl
 deriving DecidableEq
def ZlM : ZhO := ⟨0, 0, false, Sl.nil⟩
instance : Inhabited ZhO := ⟨ZlM⟩
def ZgQ : Cod ZhO := ((cI .i64).pair ((cI .i64).pair (cB.pair cL))).iso (fun x => (x.Sport, x.Dport, x.NoSum, x.Data)) (fun p => ⟨p.1, p.2.1, p.2.2.1, p.2.2.2⟩) (fun _ => rfl) (fun _ => rfl)
theorem Zjm (x : ZhO) : At (ZgQ.enc x) 0 ((cI .i64).enc x.Sport) := At.fst
theorem Zjn (x : ZhO) : At (ZgQ.enc x) 1 ((cI .i64).enc x.Dport) := At.snd (At.fst)
structure ZgT where
 Sport : Int
 Dport : Int
 Seq : Int
 Ack : Int
 Flags : Int
 Win : Int
 Urg : Int
 Opts : Sl
 Data : Sl
 deriving DecidableEq
def ZlN : ZgT := ⟨0, 0, 0, 0, 0, 0, 0, Sl.nil, Sl.nil⟩
instance : Inhabited ZgT := ⟨ZlN⟩
def ZfS : Cod ZgT := ((cI .i64).pair ((cI .i64).pair ((cI .i64).pair ((cI .i64).pair ((cI .i64).pair ((cI .i64).pair ((cI .i64).pair (cL.pair cL)))))))).iso (fun x => (x.Sport, x.Dport, x.Seq, x.Ack, x.Flags, x.Win, x.Urg, x.Opts, x.Data)) (fun p => ⟨p.1, p.2.1, p.2.2.1, p.2.2.2.1, p.2.2.2.2.1, p.2.2.2.2.2.1, p.2.2.2.2.2.2.1, p.2.2.2.2.2.2.2.1, p.2.2.2.2.2.2.2.2⟩) (fun _ => rfl) (fun _ => rfl)
theorem Zjo (x : ZgT) : At (ZfS.enc x) 0 ((cI .i64).enc x.Sport) := At.fst
theorem Zjp (x : ZgT) : At (ZfS.enc x) 1 ((cI .i64).enc x.Dport) := At.snd (At.fst)
theorem Zgq (x : ZgT) : At (ZfS.enc x) 4 ((cI .i64).enc x.Flags) := At.snd (At.snd (At.snd (At.snd (At.fst))))
structure Zas where
 Dst : (Vec Int 6)
 Src : (Vec Int 6)
 Tags : Sl
 Kind : Int
 Arp : ZhQ
 Ip4 : ZfF
 Ip6 : Zgc
 L4 : Int
 Icmp : Zhb
 Udp : ZhO
 Tcp : ZgT
 deriving DecidableEq
def Zgw : Zas := ⟨(Vec.rep 6 0), (Vec.rep 6 0), Sl.nil, 0, ZlQ, ZlP, ZlO, 0, ZkH, ZlM, ZlN⟩
instance : Inhabited Zas := ⟨Zgw⟩
def ZaB : Cod Zas := (((cI .u8).arr 6).pair (((cI .u8).arr 6).pair (cL.pair ((cI .i64).pair (ZgS.pair (ZeO.pair (Zfd.pair ((cI .i64).pair (Zg9.pair (ZgQ.pair ZfS)))))))))).iso (fun x => (x.Dst, x.Src, x.Tags, x.Kind, x.Arp, x.Ip4, x.Ip6, x.L4, x.Icmp, x.Udp, x.Tcp)) (fun p => ⟨p.1, p.2.1, p.2.2.1, p.2.2.2.1, p.2.2.2.2.1, p.2.2.2.2.2.1, p.2.2.2.2.2.2.1, p.2.2.2.2.2.2.2.1, p.2.2.2.2.2.2.2.2.1, p.2.2.2.2.2.2.2.2.2.1, p.2.2.2.2.2.2.2.2.2.2⟩) (fun _ => rfl) (fun _ => rfl)
theorem Zfz (x : Zas) : At (ZaB.enc x) 12 (cL.enc x.Tags) := At.snd (At.snd (At.fst))
theorem Zb6 (x : Zas) : At (ZaB.enc x) 13 ((cI .i64).enc x.Kind) := At.snd (At.snd (At.snd (At.fst)))
theorem ZeE (x : Zas) : At (ZaB.enc x) 14 (ZgS.enc x.Arp) := At.snd (At.snd (At.snd (At.snd (At.fst))))
theorem ZcQ (x : Zas) : At (ZaB.enc x) 61 (ZeO.enc x.Ip4) := At.snd (At.snd (At.snd (At.snd (At.snd (At.fst)))))
theorem Zdp (x : Zas) : At (ZaB.enc x) 104 (Zfd.enc x.Ip6) := At.snd (At.snd (At.snd (At.snd (At.snd (At.snd (At.fst))))))
theorem ZeW (x : Zas) : At (ZaB.enc x) 148 ((cI .i64).enc x.L4) := At.snd (At.snd (At.snd (At.snd (At.snd (At.snd (At.snd (At.fst)))))))
theorem Ziq (x : Zas) : At (ZaB.enc x) 149 (Zg9.enc x.Icmp) := At.snd (At.snd (At.snd (At.snd (At.snd (At.snd (At.snd (At.snd (At.fst))))))))
theorem ZfY (x : Zas) : At (ZaB.enc x) 154 (ZgQ.enc x.Udp) := At.snd (At.snd (At.snd (At.snd (At.snd (At.snd (At.snd (At.snd (At.snd (At.fst)))))))))
theorem Zd1 (x : Zas) : At (ZaB.enc x) 158 (ZfS.enc x.Tcp) := At.snd (At.snd (At.snd (At.snd (At.snd (At.snd (At.snd (At.snd (At.snd (At.last)))))))))
structure Zby where
 set : Int
 clear : Int
 deriving DecidableEq
def Zgh : Zby := ⟨0, 0⟩
instance : Inhabited Zby := ⟨Zgh⟩
def Zbe : Cod Zby := ((cI .i64).pair (cI .i64)).iso (fun x => (x.set, x.clear)) (fun p => ⟨p.1, p.2⟩) (fun _ => rfl) (fun _ => rfl)
theorem ZeQ (x : Zby) : At (Zbe.enc x) 0 ((cI .i64).enc x.set) := At.fst
theorem ZgY (x : Zby) (y : Int) : Upd (Zbe.enc x) 0 ((cI .i64).enc y) (Zbe.enc (⟨y, x.clear⟩ : Zby)) := Upd.fst
theorem Zgg (x : Zby) : At (Zbe.enc x) 1 ((cI .i64).enc x.clear) := At.last
theorem Zge (x : Zby) (y : Int) : Upd (Zbe.enc x) 1 ((cI .i64).enc y) (Zbe.enc (⟨x.set, y⟩ : Zby)) := Upd.last
structure Zdl where
 deriving DecidableEq
def ZcN : Zdl := ⟨⟩
instance : Inhabited Zdl := ⟨ZcN⟩
def ZbK : Cod Zdl := Cod.unit.iso (fun _ => ()) (fun _ => ⟨⟩) (fun _ => rfl) (fun _ => rfl)
structure Zep where
 rules : Sl
 tests : Sl
 deriving DecidableEq
def Zhz : Zep := ⟨Sl.nil, Sl.nil⟩
instance : Inhabited Zep := ⟨Zhz⟩
def ZcF : Cod Zep := (cL.pair cL).iso (fun x => (x.rules, x.tests)) (fun p => ⟨p.1, p.2⟩) (fun _ => rfl) (fun _ => rfl)
theorem ZdP (x : Zep) : At (ZcF.enc x) 0 (cL.enc x.rules) := At.fst
theorem Zin (x : Zep) (y : Sl) : Upd (ZcF.enc x) 0 (cL.enc y) (ZcF.enc (⟨y, x.tests⟩ : Zep)) := Upd.fst
theorem ZdO (x : Zep) : At (ZcF.enc x) 1 (cL.enc x.tests) := At.last
theorem Zim (x : Zep) (y : Sl) : Upd (ZcF.enc x) 1 (cL.enc y) (ZcF.enc (⟨x.rules, y⟩ : Zep)) := Upd.last
structure Zbl where
 Act : Int
 Class : Int
 Rule : Int
 deriving DecidableEq
def Zek : Zbl := ⟨0, 0, 0⟩
instance : Inhabited Zbl := ⟨Zek⟩
def Zcb : Cod Zbl := ((cI .i64).pair ((cI .i64).pair (cI .i64))).iso (fun x => (x.Act, x.Class, x.Rule)) (fun p => ⟨p.1, p.2.1, p.2.2⟩) (fun _ => rfl) (fun _ => rfl)
theorem Zfy (x : Zbl) (y : Int) : Upd (Zcb.enc x) 0 ((cI .i64).enc y) (Zcb.enc (⟨y, x.Class, x.Rule⟩ : Zbl)) := Upd.fst
theorem Zhn (x : Zbl) (y : Int) : Upd (Zcb.enc x) 1 ((cI .i64).enc y) (Zcb.enc (⟨x.Act, y, x.Rule⟩ : Zbl)) := Upd.snd (Upd.fst)
theorem Zfk (x : Zbl) : At (Zcb.enc x) 2 ((cI .i64).enc x.Rule) := At.snd (At.last)
theorem Zfg (x : Zbl) (y : Int) : Upd (Zcb.enc x) 2 ((cI .i64).enc y) (Zcb.enc (⟨x.Act, x.Class, y⟩ : Zbl)) := Upd.snd (Upd.last)
theorem Ty3 : Ty Tryz.prog 3 (cI .i64) 0 := ⟨by kernel_rfl, by kernel_rfl⟩
theorem Ty4 : Ty Tryz.prog 4 cB false := ⟨by kernel_rfl, by kernel_rfl⟩
theorem Ty5 : Ty Tryz.prog 5 (cI .u8) 0 := ⟨by kernel_rfl, by kernel_rfl⟩
theorem Ty9 : Ty Tryz.prog 9 cS ByteArray.empty := ⟨by kernel_rfl, by kernel_rfl⟩
theorem Ty22 : Ty Tryz.prog 22 cL Sl.nil := ⟨by kernel_rfl, by kernel_rfl⟩
theorem Ty25 : Ty Tryz.prog 25 cL Sl.nil := ⟨by kernel_rfl, by kernel_rfl⟩
theorem Ty26 : Ty Tryz.prog 26 ((cI .u8).arr 16) (Vec.rep 16 0) := ⟨by kernel_rfl, by kernel_rfl⟩
theorem Ty28 : Ty Tryz.prog 28 ZaV Zb9 := ⟨by kernel_rfl, by kernel_rfl⟩
theorem Ty32 : Ty Tryz.prog 32 cL Sl.nil := ⟨by kernel_rfl, by kernel_rfl⟩
theorem Ty47 : Ty Tryz.prog 47 ZaB Zgw := ⟨by kernel_rfl, by kernel_rfl⟩
theorem Ty49 : Ty Tryz.prog 49 (cI .i64) 0 := ⟨by kernel_rfl, by kernel_rfl⟩
theorem Ty54 : Ty Tryz.prog 54 Zcb Zek := ⟨by kernel_rfl, by kernel_rfl⟩
theorem Ty58 : Ty Tryz.prog 58 cL Sl.nil := ⟨by kernel_rfl, by kernel_rfl⟩
theorem Ty59 : Ty Tryz.prog 59 cL Sl.nil := ⟨by kernel_rfl, by kernel_rfl⟩
theorem Ty61 : Ty Tryz.prog 61 ZaE Zaw := ⟨by kernel_rfl, by kernel_rfl⟩
theorem Ty63 : Ty Tryz.prog 63 Zan Zaa := ⟨by kernel_rfl, by kernel_rfl⟩
theorem Ty66 : Ty Tryz.prog 66 cL Sl.nil := ⟨by kernel_rfl, by kernel_rfl⟩
theorem Ty68 : Ty Tryz.prog 68 ZcF Zhz := ⟨by kernel_rfl, by kernel_rfl⟩
theorem Ty71 : Ty Tryz.prog 71 cL Sl.nil := ⟨by kernel_rfl, by kernel_rfl⟩
theorem Ty74 : Ty Tryz.prog 74 cV ⟨.nilIface, rfl⟩ := ⟨by kernel_rfl, by kernel_rfl⟩
theorem Ty91 : Ty Tryz.prog 91 Zay Zbt := ⟨by kernel_rfl, by kernel_rfl⟩
theorem Ty93 : Ty Tryz.prog 93 ZaU Ze6 := ⟨by kernel_rfl, by kernel_rfl⟩
theorem Ty94 : Ty Tryz.prog 94 cL Sl.nil := ⟨by kernel_rfl, by kernel_rfl⟩
theorem Ty99 : Ty Tryz.prog 99 Za4 ZdI := ⟨by kernel_rfl, by kernel_rfl⟩
theorem Zds : Ty Tryz.prog 102 Za9 Zcw := ⟨by kernel_rfl, by kernel_rfl⟩
theorem Zs9 : Ty Tryz.prog 119 Zbe Zgh := ⟨by kernel_rfl, by kernel_rfl⟩
theorem Zs8 : Ty Tryz.prog 122 ZbK ZcN := ⟨by kernel_rfl, by kernel_rfl⟩
theorem Zqd : Ty Tryz.prog 124 cL Sl.nil := ⟨by kernel_rfl, by kernel_rfl⟩
theorem Zr6 : Ty Tryz.prog 155 cP none := ⟨by kernel_rfl, by kernel_rfl⟩
theorem Zs7 : Ty Tryz.prog 157 ZbY ZdV := ⟨by kernel_rfl, by kernel_rfl⟩
theorem ZsN : Ty Tryz.prog 177 ((cI .u8).arr 12) (Vec.rep 12 0) := ⟨by kernel_rfl, by kernel_rfl⟩
theorem ZiL : Ty Tryz.prog 182 cL Sl.nil := ⟨by kernel_rfl, by kernel_rfl⟩
theorem Zip : Ty Tryz.prog 191 Zbf ZiN := ⟨by kernel_rfl, by kernel_rfl⟩
theorem Zgf : Ty Tryz.prog 201 ((cI .u8).arr 4) (Vec.rep 4 0) := ⟨by kernel_rfl, by kernel_rfl⟩
theorem Zs6 : Ty Tryz.prog 206 Zct Zg1 := ⟨by kernel_rfl, by kernel_rfl⟩
theorem F6 : Fun Tryz.prog 6 Tryz.f6 := ⟨Tryz.func6, by kernel_rfl, by kernel_rfl⟩
theorem F7 : Fun Tryz.prog 7 Tryz.f7 := ⟨Tryz.func7, by kernel_rfl, by kernel_rfl⟩
theorem F8 : Fun Tryz.prog 8 Tryz.f8 := ⟨Tryz.func8, by kernel_rfl, by kernel_rfl⟩
theorem F9 : Fun Tryz.prog 9 Tryz.f9 := ⟨Tryz.func9, by kernel_rfl, by kernel_rfl⟩
theorem F10 : Fun Tryz.prog 10 Tryz.f10 := ⟨Tryz.func10, by kernel_rfl, by kernel_rfl⟩
theorem F11 : Fun Tryz.prog 11 Tryz.f11 := ⟨Tryz.func11, by kernel_rfl, by kernel_rfl⟩
theorem F12 : Fun Tryz.prog 12 Tryz.f12 := ⟨Tryz.func12, by kernel_rfl, by kernel_rfl⟩
theorem F13 : Fun Tryz.prog 13 Tryz.f13 := ⟨Tryz.func13, by kernel_rfl, by kernel_rfl⟩
theorem F14 : Fun Tryz.prog 14 Tryz.f14 := ⟨Tryz.func14, by kernel_rfl, by kernel_rfl⟩
theorem F15 : Fun Tryz.prog 15 Tryz.f15 := ⟨Tryz.func15, by kernel_rfl, by kernel_rfl⟩
theorem F16 : Fun Tryz.prog 16 Tryz.f16 := ⟨Tryz.func16, by kernel_rfl, by kernel_rfl⟩
theorem F17 : Fun Tryz.prog 17 Tryz.f17 := ⟨Tryz.func17, by kernel_rfl, by kernel_rfl⟩
theorem F18 : Fun Tryz.prog 18 Tryz.f18 := ⟨Tryz.func18, by kernel_rfl, by kernel_rfl⟩
theorem F19 : Fun Tryz.prog 19 Tryz.f19 := ⟨Tryz.func19, by kernel_rfl, by kernel_rfl⟩
theorem F20 : Fun Tryz.prog 20 Tryz.f20 := ⟨Tryz.func20, by kernel_rfl, by kernel_rfl⟩
theorem F21 : Fun Tryz.prog 21 Tryz.f21 := ⟨Tryz.func21, by kernel_rfl, by kernel_rfl⟩
theorem F22 : Fun Tryz.prog 22 Tryz.f22 := ⟨Tryz.func22, by kernel_rfl, by kernel_rfl⟩
theorem F23 : Fun Tryz.prog 23 Tryz.f23 := ⟨Tryz.func23, by kernel_rfl, by kernel_rfl⟩
theorem F24 : Fun Tryz.prog 24 Tryz.f24 := ⟨Tryz.func24, by kernel_rfl, by kernel_rfl⟩
theorem F25 : Fun Tryz.prog 25 Tryz.f25 := ⟨Tryz.func25, by kernel_rfl, by kernel_rfl⟩
theorem F26 : Fun Tryz.prog 26 Tryz.f26 := ⟨Tryz.func26, by kernel_rfl, by kernel_rfl⟩
theorem F27 : Fun Tryz.prog 27 Tryz.f27 := ⟨Tryz.func27, by kernel_rfl, by kernel_rfl⟩
theorem F28 : Fun Tryz.prog 28 Tryz.f28 := ⟨Tryz.func28, by kernel_rfl, by kernel_rfl⟩
theorem F29 : Fun Tryz.prog 29 Tryz.f29 := ⟨Tryz.func29, by kernel_rfl, by kernel_rfl⟩
theorem F30 : Fun Tryz.prog 30 Tryz.f30 := ⟨Tryz.func30, by kernel_rfl, by kernel_rfl⟩
theorem F31 : Fun Tryz.prog 31 Tryz.f31 := ⟨Tryz.func31, by kernel_rfl, by kernel_rfl⟩
theorem F32 : Fun Tryz.prog 32 Tryz.f32 := ⟨Tryz.func32, by kernel_rfl, by kernel_rfl⟩
theorem F33 : Fun Tryz.prog 33 Tryz.f33 := ⟨Tryz.func33, by kernel_rfl, by kernel_rfl⟩
theorem F34 : Fun Tryz.prog 34 Tryz.f34 := ⟨Tryz.func34, by kernel_rfl, by kernel_rfl⟩
theorem F35 : Fun Tryz.prog 35 Tryz.f35 := ⟨Tryz.func35, by kernel_rfl, by kernel_rfl⟩
theorem F36 : Fun Tryz.prog 36 Tryz.f36 := ⟨Tryz.func36, by kernel_rfl, by kernel_rfl⟩
theorem F37 : Fun Tryz.prog 37 Tryz.f37 := ⟨Tryz.func37, by kernel_rfl, by kernel_rfl⟩
theorem F38 : Fun Tryz.prog 38 Tryz.f38 := ⟨Tryz.func38, by kernel_rfl, by kernel_rfl⟩
theorem F39 : Fun Tryz.prog 39 Tryz.f39 := ⟨Tryz.func39, by kernel_rfl, by kernel_rfl⟩
theorem F40 : Fun Tryz.prog 40 Tryz.f40 := ⟨Tryz.func40, by kernel_rfl, by kernel_rfl⟩
theorem F41 : Fun Tryz.prog 41 Tryz.f41 := ⟨Tryz.func41, by kernel_rfl, by kernel_rfl⟩
theorem F42 : Fun Tryz.prog 42 Tryz.f42 := ⟨Tryz.func42, by kernel_rfl, by kernel_rfl⟩
theorem F43 : Fun Tryz.prog 43 Tryz.f43 := ⟨Tryz.func43, by kernel_rfl, by kernel_rfl⟩
theorem F44 : Fun Tryz.prog 44 Tryz.f44 := ⟨Tryz.func44, by kernel_rfl, by kernel_rfl⟩
theorem F45 : Fun Tryz.prog 45 Tryz.f45 := ⟨Tryz.func45, by kernel_rfl, by kernel_rfl⟩
theorem F46 : Fun Tryz.prog 46 Tryz.f46 := ⟨Tryz.func46, by kernel_rfl, by kernel_rfl⟩
theorem F47 : Fun Tryz.prog 47 Tryz.f47 := ⟨Tryz.func47, by kernel_rfl, by kernel_rfl⟩
theorem F48 : Fun Tryz.prog 48 Tryz.f48 := ⟨Tryz.func48, by kernel_rfl, by kernel_rfl⟩
theorem F49 : Fun Tryz.prog 49 Tryz.f49 := ⟨Tryz.func49, by kernel_rfl, by kernel_rfl⟩
theorem F50 : Fun Tryz.prog 50 Tryz.f50 := ⟨Tryz.func50, by kernel_rfl, by kernel_rfl⟩
theorem F51 : Fun Tryz.prog 51 Tryz.f51 := ⟨Tryz.func51, by kernel_rfl, by kernel_rfl⟩
theorem F52 : Fun Tryz.prog 52 Tryz.f52 := ⟨Tryz.func52, by kernel_rfl, by kernel_rfl⟩
theorem F53 : Fun Tryz.prog 53 Tryz.f53 := ⟨Tryz.func53, by kernel_rfl, by kernel_rfl⟩
theorem F54 : Fun Tryz.prog 54 Tryz.f54 := ⟨Tryz.func54, by kernel_rfl, by kernel_rfl⟩
theorem F55 : Fun Tryz.prog 55 Tryz.f55 := ⟨Tryz.func55, by kernel_rfl, by kernel_rfl⟩
theorem F56 : Fun Tryz.prog 56 Tryz.f56 := ⟨Tryz.func56, by kernel_rfl, by kernel_rfl⟩
theorem F57 : Fun Tryz.prog 57 Tryz.f57 := ⟨Tryz.func57, by kernel_rfl, by kernel_rfl⟩
theorem F58 : Fun Tryz.prog 58 Tryz.f58 := ⟨Tryz.func58, by kernel_rfl, by kernel_rfl⟩
theorem F59 : Fun Tryz.prog 59 Tryz.f59 := ⟨Tryz.func59, by kernel_rfl, by kernel_rfl⟩
theorem F60 : Fun Tryz.prog 60 Tryz.f60 := ⟨Tryz.func60, by kernel_rfl, by kernel_rfl⟩
theorem F61 : Fun Tryz.prog 61 Tryz.f61 := ⟨Tryz.func61, by kernel_rfl, by kernel_rfl⟩
theorem F62 : Fun Tryz.prog 62 Tryz.f62 := ⟨Tryz.func62, by kernel_rfl, by kernel_rfl⟩
theorem F63 : Fun Tryz.prog 63 Tryz.f63 := ⟨Tryz.func63, by kernel_rfl, by kernel_rfl⟩
theorem F64 : Fun Tryz.prog 64 Tryz.f64 := ⟨Tryz.func64, by kernel_rfl, by kernel_rfl⟩
theorem F65 : Fun Tryz.prog 65 Tryz.f65 := ⟨Tryz.func65, by kernel_rfl, by kernel_rfl⟩
theorem F66 : Fun Tryz.prog 66 Tryz.f66 := ⟨Tryz.func66, by kernel_rfl, by kernel_rfl⟩
theorem F67 : Fun Tryz.prog 67 Tryz.f67 := ⟨Tryz.func67, by kernel_rfl, by kernel_rfl⟩
theorem F68 : Fun Tryz.prog 68 Tryz.f68 := ⟨Tryz.func68, by kernel_rfl, by kernel_rfl⟩
theorem F69 : Fun Tryz.prog 69 Tryz.f69 := ⟨Tryz.func69, by kernel_rfl, by kernel_rfl⟩
theorem F70 : Fun Tryz.prog 70 Tryz.f70 := ⟨Tryz.func70, by kernel_rfl, by kernel_rfl⟩
theorem F71 : Fun Tryz.prog 71 Tryz.f71 := ⟨Tryz.func71, by kernel_rfl, by kernel_rfl⟩
theorem F72 : Fun Tryz.prog 72 Tryz.f72 := ⟨Tryz.func72, by kernel_rfl, by kernel_rfl⟩
theorem F73 : Fun Tryz.prog 73 Tryz.f73 := ⟨Tryz.func73, by kernel_rfl, by kernel_rfl⟩
theorem F74 : Fun Tryz.prog 74 Tryz.f74 := ⟨Tryz.func74, by kernel_rfl, by kernel_rfl⟩
theorem F75 : Fun Tryz.prog 75 Tryz.f75 := ⟨Tryz.func75, by kernel_rfl, by kernel_rfl⟩
theorem F76 : Fun Tryz.prog 76 Tryz.f76 := ⟨Tryz.func76, by kernel_rfl, by kernel_rfl⟩
theorem F77 : Fun Tryz.prog 77 Tryz.f77 := ⟨Tryz.func77, by kernel_rfl, by kernel_rfl⟩
theorem F78 : Fun Tryz.prog 78 Tryz.f78 := ⟨Tryz.func78, by kernel_rfl, by kernel_rfl⟩
theorem F79 : Fun Tryz.prog 79 Tryz.f79 := ⟨Tryz.func79, by kernel_rfl, by kernel_rfl⟩
theorem F80 : Fun Tryz.prog 80 Tryz.f80 := ⟨Tryz.func80, by kernel_rfl, by kernel_rfl⟩
theorem F81 : Fun Tryz.prog 81 Tryz.f81 := ⟨Tryz.func81, by kernel_rfl, by kernel_rfl⟩
theorem F82 : Fun Tryz.prog 82 Tryz.f82 := ⟨Tryz.func82, by kernel_rfl, by kernel_rfl⟩
theorem F83 : Fun Tryz.prog 83 Tryz.f83 := ⟨Tryz.func83, by kernel_rfl, by kernel_rfl⟩
theorem F84 : Fun Tryz.prog 84 Tryz.f84 := ⟨Tryz.func84, by kernel_rfl, by kernel_rfl⟩
theorem F85 : Fun Tryz.prog 85 Tryz.f85 := ⟨Tryz.func85, by kernel_rfl, by kernel_rfl⟩
theorem F86 : Fun Tryz.prog 86 Tryz.f86 := ⟨Tryz.func86, by kernel_rfl, by kernel_rfl⟩
theorem F87 : Fun Tryz.prog 87 Tryz.f87 := ⟨Tryz.func87, by kernel_rfl, by kernel_rfl⟩
theorem F90 : Fun Tryz.prog 90 Tryz.f90 := ⟨Tryz.func90, by kernel_rfl, by kernel_rfl⟩
theorem F91 : Fun Tryz.prog 91 Tryz.f91 := ⟨Tryz.func91, by kernel_rfl, by kernel_rfl⟩
theorem F92 : Fun Tryz.prog 92 Tryz.f92 := ⟨Tryz.func92, by kernel_rfl, by kernel_rfl⟩
theorem F93 : Fun Tryz.prog 93 Tryz.f93 := ⟨Tryz.func93, by kernel_rfl, by kernel_rfl⟩
theorem F94 : Fun Tryz.prog 94 Tryz.f94 := ⟨Tryz.func94, by kernel_rfl, by kernel_rfl⟩
theorem F95 : Fun Tryz.prog 95 Tryz.f95 := ⟨Tryz.func95, by kernel_rfl, by kernel_rfl⟩
theorem F96 : Fun Tryz.prog 96 Tryz.f96 := ⟨Tryz.func96, by kernel_rfl, by kernel_rfl⟩
theorem F103 : Fun Tryz.prog 103 Tryz.f103 := ⟨Tryz.func103, by kernel_rfl, by kernel_rfl⟩
theorem F104 : Fun Tryz.prog 104 Tryz.f104 := ⟨Tryz.func104, by kernel_rfl, by kernel_rfl⟩
theorem F105 : Fun Tryz.prog 105 Tryz.f105 := ⟨Tryz.func105, by kernel_rfl, by kernel_rfl⟩
theorem F106 : Fun Tryz.prog 106 Tryz.f106 := ⟨Tryz.func106, by kernel_rfl, by kernel_rfl⟩
theorem F107 : Fun Tryz.prog 107 Tryz.f107 := ⟨Tryz.func107, by kernel_rfl, by kernel_rfl⟩
theorem F108 : Fun Tryz.prog 108 Tryz.f108 := ⟨Tryz.func108, by kernel_rfl, by kernel_rfl⟩
theorem F109 : Fun Tryz.prog 109 Tryz.f109 := ⟨Tryz.func109, by kernel_rfl, by kernel_rfl⟩
theorem F115 : Fun Tryz.prog 115 Tryz.f115 := ⟨Tryz.func115, by kernel_rfl, by kernel_rfl⟩
theorem F116 : Fun Tryz.prog 116 Tryz.f116 := ⟨Tryz.func116, by kernel_rfl, by kernel_rfl⟩
theorem F117 : Fun Tryz.prog 117 Tryz.f117 := ⟨Tryz.func117, by kernel_rfl, by kernel_rfl⟩
theorem F118 : Fun Tryz.prog 118 Tryz.f118 := ⟨Tryz.func118, by kernel_rfl, by kernel_rfl⟩
theorem F124 : Fun Tryz.prog 124 Tryz.f124 := ⟨Tryz.func124, by kernel_rfl, by kernel_rfl⟩
theorem F125 : Fun Tryz.prog 125 Tryz.f125 := ⟨Tryz.func125, by kernel_rfl, by kernel_rfl⟩
theorem F126 : Fun Tryz.prog 126 Tryz.f126 := ⟨Tryz.func126, by kernel_rfl, by kernel_rfl⟩
theorem F146 : Fun Tryz.prog 146 Tryz.f146 := ⟨Tryz.func146, by kernel_rfl, by kernel_rfl⟩
theorem F147 : Fun Tryz.prog 147 Tryz.f147 := ⟨Tryz.func147, by kernel_rfl, by kernel_rfl⟩
theorem F148 : Fun Tryz.prog 148 Tryz.f148 := ⟨Tryz.func148, by kernel_rfl, by kernel_rfl⟩
theorem F149 : Fun Tryz.prog 149 Tryz.f149 := ⟨Tryz.func149, by kernel_rfl, by kernel_rfl⟩
theorem F150 : Fun Tryz.prog 150 Tryz.f150 := ⟨Tryz.func150, by kernel_rfl, by kernel_rfl⟩
theorem F151 : Fun Tryz.prog 151 Tryz.f151 := ⟨Tryz.func151, by kernel_rfl, by kernel_rfl⟩
theorem F152 : Fun Tryz.prog 152 Tryz.f152 := ⟨Tryz.func152, by kernel_rfl, by kernel_rfl⟩
theorem F153 : Fun Tryz.prog 153 Tryz.f153 := ⟨Tryz.func153, by kernel_rfl, by kernel_rfl⟩
def str0 : ByteArray := ⟨#[112, 101, 114, 109, 105, 116, 32, 116, 99, 112, 32, 102, 114, 111, 109, 32, 49, 48, 46, 48, 46, 48, 46, 48, 47, 56, 32, 116, 111, 32, 97, 110, 121, 32, 112, 111, 114, 116, 32, 56, 48]⟩
def str1 : ByteArray := ⟨#[44]⟩
def str2 : ByteArray := ⟨#[116, 99, 112]⟩
def str3 : ByteArray := ⟨#[117, 100, 112]⟩
def str4 : ByteArray := ⟨#[105, 99, 109, 112]⟩
def str5 : ByteArray := ⟨#[105, 99, 109, 112, 54]⟩
def str6 : ByteArray := ⟨#[112, 114, 111, 116, 111]⟩
def str7 : ByteArray := ⟨#[99, 108, 97, 115, 115]⟩
def str8 : ByteArray := ⟨#[97, 110, 121]⟩
def str9 : ByteArray := ⟨#[112]⟩
def Zo0 : ByteArray := ⟨#[58, 58]⟩
def ZsY : ByteArray := ⟨#[58]⟩
def Zob : ByteArray := ⟨#[47]⟩
def ZrB : ByteArray := ⟨#[45]⟩
def Zsj : ByteArray := ⟨#[110, 111, 116]⟩
def Zsi : ByteArray := ⟨#[112, 111, 114, 116]⟩
def Zsh : ByteArray := ⟨#[33]⟩
def ZrA : ByteArray := ⟨#[111, 110]⟩
def Zrz : ByteArray := ⟨#[118, 105, 100]⟩
def ZmL : ByteArray := ⟨#[102, 114, 111, 109]⟩
def ZoZ : ByteArray := ⟨#[116, 111]⟩
def ZmK : ByteArray := ⟨#[102, 108, 97, 103, 115]⟩
def ZmJ : ByteArray := ⟨#[116, 121, 112, 101]⟩
def Zry : ByteArray := ⟨#[112, 105, 101, 99, 101, 115]⟩
def Zqw : ByteArray := ⟨#[48, 49, 50, 51, 52, 53, 54, 55, 56, 57, 97, 98, 99, 100, 101, 102, 103, 104, 105, 106, 107, 108, 109, 110, 111, 112, 113, 114, 115, 116, 117, 118, 119, 120, 121, 122]⟩
def Zqv : ByteArray := ⟨#[48, 48, 48, 49, 48, 50, 48, 51, 48, 52, 48, 53, 48, 54, 48, 55, 48, 56, 48, 57, 49, 48, 49, 49, 49, 50, 49, 51, 49, 52, 49, 53, 49, 54, 49, 55, 49, 56, 49, 57, 50, 48, 50, 49, 50, 50, 50, 51, 50, 52, 50, 53, 50, 54, 50, 55, 50, 56, 50, 57, 51, 48, 51, 49, 51, 50, 51, 51, 51, 52, 51, 53, 51, 54, 51, 55, 51, 56, 51, 57, 52, 48, 52, 49, 52, 50, 52, 51, 52, 52, 52, 53, 52, 54, 52, 55, 52, 56, 52, 57, 53, 48, 53, 49, 53, 50, 53, 51, 53, 52, 53, 53, 53, 54, 53, 55, 53, 56, 53, 57, 54, 48, 54, 49, 54, 50, 54, 51, 54, 52, 54, 53, 54, 54, 54, 55, 54, 56, 54, 57, 55, 48, 55, 49, 55, 50, 55, 51, 55, 52, 55, 53, 55, 54, 55, 55, 55, 56, 55, 57, 56, 48, 56, 49, 56, 50, 56, 51, 56, 52, 56, 53, 56, 54, 56, 55, 56, 56, 56, 57, 57, 48, 57, 49, 57, 50, 57, 51, 57, 52, 57, 53, 57, 54, 57, 55, 57, 56, 57, 57]⟩
def Zf1 : ByteArray := ⟨#[32]⟩
def Zsg : ByteArray := ⟨#[46]⟩
def Zqu : ByteArray := ⟨#[32, 112, 111, 114, 116, 32]⟩
theorem Eq5 : EqT Tryz.prog 5 1 (cI .u8) := EqT.int Tryz.underlying5
theorem Zte : EqT Tryz.prog 177 2 ((cI .u8).arr 12) := EqT.arr Tryz.underlying177 Ty5 Eq5
theorem Eq26 : EqT Tryz.prog 26 2 ((cI .u8).arr 16) := EqT.arr Tryz.underlying26 Ty5 Eq5
theorem Eq9 : EqT Tryz.prog 9 1 cS := EqT.string Tryz.underlying9
theorem Ck9 : CkT Tryz.prog 9 1 cS := CkT.string Tryz.underlying9
theorem ZsS : KeyT Tryz.prog 100 9 1 cS (cI .i64) 0 := ⟨NowK.string Tryz.underlying9, Eq9, Ck9, SbC.string, by decide, ⟨3, by kernel_rfl, Ty3⟩, ⟨_, Tryz.underlying9⟩⟩
theorem Eq3 : EqT Tryz.prog 3 1 (cI .i64) := EqT.int Tryz.underlying3
theorem Eq28 : EqT Tryz.prog 28 3 ZaV := EqT.struct (D := 2) Tryz.underlying28 (by kernel_rfl) rfl (fun d hd x y w => EqFs.congr (EqFs.cons rfl Ty3 (Zde x) (Zde y) Eq3 (by omega) (EqFs.cons rfl Ty26 (Zdf x) (Zdf y) Eq26 (by omega) EqFs.nil)) (by obtain ⟨⟩ := x; obtain ⟨⟩ := y; simp))
theorem Eq91 : EqT Tryz.prog 91 4 Zay := EqT.struct (D := 3) Tryz.underlying91 (by kernel_rfl) rfl (fun d hd x y w => EqFs.congr (EqFs.cons rfl Ty28 (ZbC x) (ZbC y) Eq28 (by omega) (EqFs.cons rfl Ty3 (Zb0 x) (Zb0 y) Eq3 (by omega) EqFs.nil)) (by obtain ⟨⟩ := x; obtain ⟨⟩ := y; simp))
theorem Eq93 : EqT Tryz.prog 93 2 ZaU := EqT.struct (D := 1) Tryz.underlying93 (by kernel_rfl) rfl (fun d hd x y w => EqFs.congr (EqFs.cons rfl Ty3 (ZcV x) (ZcV y) Eq3 (by omega) (EqFs.cons rfl Ty3 (Zdo x) (Zdo y) Eq3 (by omega) EqFs.nil)) (by obtain ⟨⟩ := x; obtain ⟨⟩ := y; simp))
theorem ZcZ : Tryz.prog.follows .mixedOrders = true := by kernel_rfl
end Go.Proofs.YtjceipelgkdoaaaGreatDoor.Lx
