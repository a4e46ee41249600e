/- The types of the translation that the programs use. -/
import Derived.Test.YtpmhinidiplhiaaGreatDoorProg
import Derived.Test.YtpmhinidiplhiaaGreatDoorLxShort
set_option linter.unusedVariables false
set_option linter.unusedSimpArgs false
set_option linter.unusedSectionVars false
namespace Go.Proofs.YtpmhinidiplhiaaGreatDoor.Lx
open Go Go.Proofs
structure Zae where
 Not : Bool
 Nets : Sl
 Ports : Sl
 deriving DecidableEq
def Za0 : Zae := ⟨false, Sl.nil, Sl.nil⟩
instance : Inhabited Zae := ⟨Za0⟩
def Zaw : Cod Zae := (cB.pair (cL.pair cL)).iso (fun x => (x.Not, x.Nets, x.Ports)) (fun p => ⟨p.1, p.2.1, p.2.2⟩) (fun _ => rfl) (fun _ => rfl)
theorem Zc5 (x : Zae) : At (Zaw.enc x) 0 (cB.enc x.Not) := At.fst
theorem ZgV (x : Zae) (y : Bool) : Upd (Zaw.enc x) 0 (cB.enc y) (Zaw.enc (⟨y, x.Nets, x.Ports⟩ : Zae)) := Upd.fst
theorem ZaY (x : Zae) : At (Zaw.enc x) 1 (cL.enc x.Nets) := At.snd (At.fst)
theorem ZdM (x : Zae) (y : Sl) : Upd (Zaw.enc x) 1 (cL.enc y) (Zaw.enc (⟨x.Not, y, x.Ports⟩ : Zae)) := Upd.snd (Upd.fst)
theorem ZaH (x : Zae) : At (Zaw.enc x) 2 (cL.enc x.Ports) := At.snd (At.last)
theorem Zdv (x : Zae) (y : Sl) : Upd (Zaw.enc x) 2 (cL.enc y) (Zaw.enc (⟨x.Not, x.Nets, y⟩ : Zae)) := Upd.snd (Upd.last)
structure Zbe where
 V : Int
 A : (Vec Int 16)
 deriving DecidableEq
def ZdR : Zbe := ⟨0, (Vec.rep 16 0)⟩
instance : Inhabited Zbe := ⟨ZdR⟩
def Zbo : Cod Zbe := ((cI .i64).pair ((cI .u8).arr 16)).iso (fun x => (x.V, x.A)) (fun p => ⟨p.1, p.2⟩) (fun _ => rfl) (fun _ => rfl)
theorem Zcp (x : Zbe) : At (Zbo.enc x) 0 ((cI .i64).enc x.V) := At.fst
theorem ZhM (x : Zbe) (y : Int) : Upd (Zbo.enc x) 0 ((cI .i64).enc y) (Zbo.enc (⟨y, x.A⟩ : Zbe)) := Upd.fst
theorem ZbZ (x : Zbe) : At (Zbo.enc x) 1 (((cI .u8).arr 16).enc x.A) := At.last
theorem ZhN (x : Zbe) (y : (Vec Int 16)) : Upd (Zbo.enc x) 1 (((cI .u8).arr 16).enc y) (Zbo.enc (⟨x.V, y⟩ : Zbe)) := Upd.last
structure Zap where
 IP : Zbe
 Len : Int
 deriving DecidableEq
def Zbl : Zap := ⟨ZdR, 0⟩
instance : Inhabited Zap := ⟨Zbl⟩
def ZaF : Cod Zap := (Zbo.pair (cI .i64)).iso (fun x => (x.IP, x.Len)) (fun p => ⟨p.1, p.2⟩) (fun _ => rfl) (fun _ => rfl)
theorem Zbq (x : Zap) : At (ZaF.enc x) 0 (Zbo.enc x.IP) := At.fst
theorem ZeU (x : Zap) (y : Zbe) : Upd (ZaF.enc x) 0 (Zbo.enc y) (ZaF.enc (⟨y, x.Len⟩ : Zap)) := Upd.fst
theorem Zby (x : Zap) : At (ZaF.enc x) 17 ((cI .i64).enc x.Len) := At.last
theorem ZcZ (x : Zap) (y : Int) : Upd (ZaF.enc x) 17 ((cI .i64).enc y) (ZaF.enc (⟨x.IP, y⟩ : Zap)) := Upd.last
structure ZaZ where
 Lo : Int
 Hi : Int
 deriving DecidableEq
def ZeD : ZaZ := ⟨0, 0⟩
instance : Inhabited ZaZ := ⟨ZeD⟩
def Zbb : Cod ZaZ := ((cI .i64).pair (cI .i64)).iso (fun x => (x.Lo, x.Hi)) (fun p => ⟨p.1, p.2⟩) (fun _ => rfl) (fun _ => rfl)
theorem Zcc (x : ZaZ) : At (Zbb.enc x) 0 ((cI .i64).enc x.Lo) := At.fst
theorem Zdw (x : ZaZ) (y : Int) : Upd (Zbb.enc x) 0 ((cI .i64).enc y) (Zbb.enc (⟨y, x.Hi⟩ : ZaZ)) := Upd.fst
theorem Zcd (x : ZaZ) : At (Zbb.enc x) 1 ((cI .i64).enc x.Hi) := At.last
theorem Zdx (x : ZaZ) (y : Int) : Upd (Zbb.enc x) 1 ((cI .i64).enc y) (Zbb.enc (⟨x.Lo, y⟩ : ZaZ)) := Upd.last
structure Zag where
 Act : Int
 Class : Int
 Kind : Int
 Proto : Int
 In : Int
 Vid : Int
 From : Zae
 To : Zae
 Set : Int
 Clear : Int
 Type_ : Int
 Pieces : Bool
 deriving DecidableEq
def ZaP : Zag := ⟨0, 0, 0, 0, 0, 0, Za0, Za0, 0, 0, 0, false⟩
instance : Inhabited Zag := ⟨ZaP⟩
def Zak : Cod Zag := ((cI .i64).pair ((cI .i64).pair ((cI .i64).pair ((cI .i64).pair ((cI .i64).pair ((cI .i64).pair (Zaw.pair (Zaw.pair ((cI .i64).pair ((cI .i64).pair ((cI .i64).pair cB))))))))))).iso (fun x => (x.Act, x.Class, x.Kind, x.Proto, x.In, x.Vid, x.From, x.To, x.Set, x.Clear, x.Type_, x.Pieces)) (fun p => ⟨p.1, p.2.1, p.2.2.1, p.2.2.2.1, p.2.2.2.2.1, p.2.2.2.2.2.1, p.2.2.2.2.2.2.1, p.2.2.2.2.2.2.2.1, p.2.2.2.2.2.2.2.2.1, p.2.2.2.2.2.2.2.2.2.1, p.2.2.2.2.2.2.2.2.2.2.1, p.2.2.2.2.2.2.2.2.2.2.2⟩) (fun _ => rfl) (fun _ => rfl)
theorem ZbS (x : Zag) : At (Zak.enc x) 0 ((cI .i64).enc x.Act) := At.fst
theorem ZdZ (x : Zag) (y : Int) : Upd (Zak.enc x) 0 ((cI .i64).enc y) (Zak.enc (⟨y, x.Class, x.Kind, x.Proto, x.In, x.Vid, x.From, x.To, x.Set, x.Clear, x.Type_, x.Pieces⟩ : Zag)) := Upd.fst
theorem ZbU (x : Zag) : At (Zak.enc x) 1 ((cI .i64).enc x.Class) := At.snd (At.fst)
theorem ZfV (x : Zag) (y : Int) : Upd (Zak.enc x) 1 ((cI .i64).enc y) (Zak.enc (⟨x.Act, y, x.Kind, x.Proto, x.In, x.Vid, x.From, x.To, x.Set, x.Clear, x.Type_, x.Pieces⟩ : Zag)) := Upd.snd (Upd.fst)
theorem Zbk (x : Zag) : At (Zak.enc x) 2 ((cI .i64).enc x.Kind) := At.snd (At.snd (At.fst))
theorem Zgh (x : Zag) (y : Int) : Upd (Zak.enc x) 2 ((cI .i64).enc y) (Zak.enc (⟨x.Act, x.Class, y, x.Proto, x.In, x.Vid, x.From, x.To, x.Set, x.Clear, x.Type_, x.Pieces⟩ : Zag)) := Upd.snd (Upd.snd (Upd.fst))
theorem Za1 (x : Zag) : At (Zak.enc x) 3 ((cI .i64).enc x.Proto) := At.snd (At.snd (At.snd (At.fst)))
theorem Zd3 (x : Zag) (y : Int) : Upd (Zak.enc x) 3 ((cI .i64).enc y) (Zak.enc (⟨x.Act, x.Class, x.Kind, y, x.In, x.Vid, x.From, x.To, x.Set, x.Clear, x.Type_, x.Pieces⟩ : Zag)) := Upd.snd (Upd.snd (Upd.snd (Upd.fst)))
theorem ZcY (x : Zag) : At (Zak.enc x) 4 ((cI .i64).enc x.In) := At.snd (At.snd (At.snd (At.snd (At.fst))))
theorem Zht (x : Zag) (y : Int) : Upd (Zak.enc x) 4 ((cI .i64).enc y) (Zak.enc (⟨x.Act, x.Class, x.Kind, x.Proto, y, x.Vid, x.From, x.To, x.Set, x.Clear, x.Type_, x.Pieces⟩ : Zag)) := Upd.snd (Upd.snd (Upd.snd (Upd.snd (Upd.fst))))
theorem ZcJ (x : Zag) : At (Zak.enc x) 5 ((cI .i64).enc x.Vid) := At.snd (At.snd (At.snd (At.snd (At.snd (At.fst)))))
theorem ZgW (x : Zag) (y : Int) : Upd (Zak.enc x) 5 ((cI .i64).enc y) (Zak.enc (⟨x.Act, x.Class, x.Kind, x.Proto, x.In, y, x.From, x.To, x.Set, x.Clear, x.Type_, x.Pieces⟩ : Zag)) := Upd.snd (Upd.snd (Upd.snd (Upd.snd (Upd.snd (Upd.fst)))))
theorem Zcu (x : Zag) : At (Zak.enc x) 6 (Zaw.enc x.From) := At.snd (At.snd (At.snd (At.snd (At.snd (At.snd (At.fst))))))
theorem ZdN (x : Zag) (y : Zae) : Upd (Zak.enc x) 6 (Zaw.enc y) (Zak.enc (⟨x.Act, x.Class, x.Kind, x.Proto, x.In, x.Vid, y, x.To, x.Set, x.Clear, x.Type_, x.Pieces⟩ : Zag)) := Upd.snd (Upd.snd (Upd.snd (Upd.snd (Upd.snd (Upd.snd (Upd.fst))))))
theorem Zcl (x : Zag) : At (Zak.enc x) 9 (Zaw.enc x.To) := At.snd (At.snd (At.snd (At.snd (At.snd (At.snd (At.snd (At.fst)))))))
theorem Zeb (x : Zag) (y : Zae) : Upd (Zak.enc x) 9 (Zaw.enc y) (Zak.enc (⟨x.Act, x.Class, x.Kind, x.Proto, x.In, x.Vid, x.From, y, x.Set, x.Clear, x.Type_, x.Pieces⟩ : Zag)) := Upd.snd (Upd.snd (Upd.snd (Upd.snd (Upd.snd (Upd.snd (Upd.snd (Upd.fst)))))))
theorem ZbR (x : Zag) : At (Zak.enc x) 12 ((cI .i64).enc x.Set) := At.snd (At.snd (At.snd (At.snd (At.snd (At.snd (At.snd (At.snd (At.fst))))))))
theorem Zkn (x : Zag) (y : Int) : Upd (Zak.enc x) 12 ((cI .i64).enc y) (Zak.enc (⟨x.Act, x.Class, x.Kind, x.Proto, x.In, x.Vid, x.From, x.To, y, x.Clear, x.Type_, x.Pieces⟩ : Zag)) := Upd.snd (Upd.snd (Upd.snd (Upd.snd (Upd.snd (Upd.snd (Upd.snd (Upd.snd (Upd.fst))))))))
theorem ZbG (x : Zag) : At (Zak.enc x) 13 ((cI .i64).enc x.Clear) := At.snd (At.snd (At.snd (At.snd (At.snd (At.snd (At.snd (At.snd (At.snd (At.fst)))))))))
theorem ZiO (x : Zag) (y : Int) : Upd (Zak.enc x) 13 ((cI .i64).enc y) (Zak.enc (⟨x.Act, x.Class, x.Kind, x.Proto, x.In, x.Vid, x.From, x.To, x.Set, y, x.Type_, x.Pieces⟩ : Zag)) := Upd.snd (Upd.snd (Upd.snd (Upd.snd (Upd.snd (Upd.snd (Upd.snd (Upd.snd (Upd.snd (Upd.fst)))))))))
theorem ZbT (x : Zag) : At (Zak.enc x) 14 ((cI .i64).enc x.Type_) := At.snd (At.snd (At.snd (At.snd (At.snd (At.snd (At.snd (At.snd (At.snd (At.snd (At.fst))))))))))
theorem ZfU (x : Zag) (y : Int) : Upd (Zak.enc x) 14 ((cI .i64).enc y) (Zak.enc (⟨x.Act, x.Class, x.Kind, x.Proto, x.In, x.Vid, x.From, x.To, x.Set, x.Clear, y, x.Pieces⟩ : Zag)) := Upd.snd (Upd.snd (Upd.snd (Upd.snd (Upd.snd (Upd.snd (Upd.snd (Upd.snd (Upd.snd (Upd.snd (Upd.fst))))))))))
theorem ZcL (x : Zag) : At (Zak.enc x) 15 (cB.enc x.Pieces) := At.snd (At.snd (At.snd (At.snd (At.snd (At.snd (At.snd (At.snd (At.snd (At.snd (At.last))))))))))
theorem Zik (x : Zag) (y : Bool) : Upd (Zak.enc x) 15 (cB.enc y) (Zak.enc (⟨x.Act, x.Class, x.Kind, x.Proto, x.In, x.Vid, x.From, x.To, x.Set, x.Clear, x.Type_, y⟩ : Zag)) := Upd.snd (Upd.snd (Upd.snd (Upd.snd (Upd.snd (Upd.snd (Upd.snd (Upd.snd (Upd.snd (Upd.snd (Upd.last))))))))))
structure Zcm where
 addr : (Option Addr)
 buf : Sl
 deriving DecidableEq
def Zd0 : Zcm := ⟨none, Sl.nil⟩
instance : Inhabited Zcm := ⟨Zd0⟩
def Zb2 : Cod Zcm := (cP.pair cL).iso (fun x => (x.addr, x.buf)) (fun p => ⟨p.1, p.2⟩) (fun _ => rfl) (fun _ => rfl)
theorem Zez (x : Zcm) : At (Zb2.enc x) 0 (cP.enc x.addr) := At.fst
theorem Zf8 (x : Zcm) (y : (Option Addr)) : Upd (Zb2.enc x) 0 (cP.enc y) (Zb2.enc (⟨y, x.buf⟩ : Zcm)) := Upd.fst
theorem ZbA (x : Zcm) : At (Zb2.enc x) 1 (cL.enc x.buf) := At.last
theorem ZeC (x : Zcm) (y : Sl) : Upd (Zb2.enc x) 1 (cL.enc y) (Zb2.enc (⟨x.addr, y⟩ : Zcm)) := Upd.last
structure ZaI where
 s : ByteArray
 at_ : Int
 deriving DecidableEq
def ZcD : ZaI := ⟨ByteArray.empty, 0⟩
instance : Inhabited ZaI := ⟨ZcD⟩
def Zbm : Cod ZaI := (cS.pair (cI .i64)).iso (fun x => (x.s, x.at_)) (fun p => ⟨p.1, p.2⟩) (fun _ => rfl) (fun _ => rfl)
theorem Zbj (x : ZaI) : At (Zbm.enc x) 0 (cS.enc x.s) := At.fst
theorem ZgU (x : ZaI) (y : ByteArray) : Upd (Zbm.enc x) 0 (cS.enc y) (Zbm.enc (⟨y, x.at_⟩ : ZaI)) := Upd.fst
theorem ZbF (x : ZaI) : At (Zbm.enc x) 1 ((cI .i64).enc x.at_) := At.last
theorem ZfT (x : ZaI) (y : Int) : Upd (Zbm.enc x) 1 ((cI .i64).enc y) (Zbm.enc (⟨x.s, y⟩ : ZaI)) := Upd.last
structure ZbK where
 why : Int
 at_ : Int
 deriving DecidableEq
def ZiP : ZbK := ⟨0, 0⟩
instance : Inhabited ZbK := ⟨ZiP⟩
def Zbt : Cod ZbK := ((cI .i64).pair (cI .i64)).iso (fun x => (x.why, x.at_)) (fun p => ⟨p.1, p.2⟩) (fun _ => rfl) (fun _ => rfl)
theorem Zd4 (x : ZbK) : At (Zbt.enc x) 0 ((cI .i64).enc x.why) := At.fst
theorem Zbv (x : ZbK) (y : Int) : Upd (Zbt.enc x) 0 ((cI .i64).enc y) (Zbt.enc (⟨y, x.at_⟩ : ZbK)) := Upd.fst
theorem Zd5 (x : ZbK) : At (Zbt.enc x) 1 ((cI .i64).enc x.at_) := At.last
theorem Zbw (x : ZbK) (y : Int) : Upd (Zbt.enc x) 1 ((cI .i64).enc y) (Zbt.enc (⟨x.why, y⟩ : ZbK)) := Upd.last
structure Zds where
 s : ByteArray
 at_ : Int
 groups : Sl
 gap : Int
 deriving DecidableEq
def ZgY : Zds := ⟨ByteArray.empty, 0, Sl.nil, 0⟩
instance : Inhabited Zds := ⟨ZgY⟩
def ZcA : Cod Zds := (cS.pair ((cI .i64).pair (cL.pair (cI .i64)))).iso (fun x => (x.s, x.at_, x.groups, x.gap)) (fun p => ⟨p.1, p.2.1, p.2.2.1, p.2.2.2⟩) (fun _ => rfl) (fun _ => rfl)
theorem Zch (x : Zds) : At (ZcA.enc x) 0 (cS.enc x.s) := At.fst
theorem Zl1 (x : Zds) (y : ByteArray) : Upd (ZcA.enc x) 0 (cS.enc y) (ZcA.enc (⟨y, x.at_, x.groups, x.gap⟩ : Zds)) := Upd.fst
theorem Zcq (x : Zds) : At (ZcA.enc x) 1 ((cI .i64).enc x.at_) := At.snd (At.fst)
theorem Zfe (x : Zds) (y : Int) : Upd (ZcA.enc x) 1 ((cI .i64).enc y) (ZcA.enc (⟨x.s, y, x.groups, x.gap⟩ : Zds)) := Upd.snd (Upd.fst)
theorem Zbz (x : Zds) : At (ZcA.enc x) 2 (cL.enc x.groups) := At.snd (At.snd (At.fst))
theorem Zey (x : Zds) (y : Sl) : Upd (ZcA.enc x) 2 (cL.enc y) (ZcA.enc (⟨x.s, x.at_, y, x.gap⟩ : Zds)) := Upd.snd (Upd.snd (Upd.fst))
theorem Zc6 (x : Zds) : At (ZcA.enc x) 3 ((cI .i64).enc x.gap) := At.snd (At.snd (At.last))
theorem ZgX (x : Zds) (y : Int) : Upd (ZcA.enc x) 3 ((cI .i64).enc y) (ZcA.enc (⟨x.s, x.at_, x.groups, y⟩ : Zds)) := Upd.snd (Upd.snd (Upd.last))
structure Zbi where
 l : Sl
 i : Int
 end_ : Int
 rule : Zag
 err : Int
 at_ : Int
 deriving DecidableEq
def ZdO : Zbi := ⟨Sl.nil, 0, 0, ZaP, 0, 0⟩
instance : Inhabited Zbi := ⟨ZdO⟩
def Zbg : Cod Zbi := (cL.pair ((cI .i64).pair ((cI .i64).pair (Zak.pair ((cI .i64).pair (cI .i64)))))).iso (fun x => (x.l, x.i, x.end_, x.rule, x.err, x.at_)) (fun p => ⟨p.1, p.2.1, p.2.2.1, p.2.2.2.1, p.2.2.2.2.1, p.2.2.2.2.2⟩) (fun _ => rfl) (fun _ => rfl)
theorem Zb3 (x : Zbi) : At (Zbg.enc x) 0 (cL.enc x.l) := At.fst
theorem ZiN (x : Zbi) (y : Sl) : Upd (Zbg.enc x) 0 (cL.enc y) (Zbg.enc (⟨y, x.i, x.end_, x.rule, x.err, x.at_⟩ : Zbi)) := Upd.fst
theorem Zbx (x : Zbi) : At (Zbg.enc x) 1 ((cI .i64).enc x.i) := At.snd (At.fst)
theorem ZeI (x : Zbi) (y : Int) : Upd (Zbg.enc x) 1 ((cI .i64).enc y) (Zbg.enc (⟨x.l, y, x.end_, x.rule, x.err, x.at_⟩ : Zbi)) := Upd.snd (Upd.fst)
theorem Zhl (x : Zbi) : At (Zbg.enc x) 2 ((cI .i64).enc x.end_) := At.snd (At.snd (At.fst))
theorem Zhk (x : Zbi) (y : Int) : Upd (Zbg.enc x) 2 ((cI .i64).enc y) (Zbg.enc (⟨x.l, x.i, y, x.rule, x.err, x.at_⟩ : Zbi)) := Upd.snd (Upd.snd (Upd.fst))
theorem ZbN (x : Zbi) : At (Zbg.enc x) 3 (Zak.enc x.rule) := At.snd (At.snd (At.snd (At.fst)))
theorem Zdt (x : Zbi) (y : Zag) : Upd (Zbg.enc x) 3 (Zak.enc y) (Zbg.enc (⟨x.l, x.i, x.end_, y, x.err, x.at_⟩ : Zbi)) := Upd.snd (Upd.snd (Upd.snd (Upd.fst)))
theorem ZdJ (x : Zbi) : At (Zbg.enc x) 19 ((cI .i64).enc x.err) := At.snd (At.snd (At.snd (At.snd (At.fst))))
theorem ZhK (x : Zbi) (y : Int) : Upd (Zbg.enc x) 19 ((cI .i64).enc y) (Zbg.enc (⟨x.l, x.i, x.end_, x.rule, y, x.at_⟩ : Zbi)) := Upd.snd (Upd.snd (Upd.snd (Upd.snd (Upd.fst))))
theorem Zff (x : Zbi) : At (Zbg.enc x) 20 ((cI .i64).enc x.at_) := At.snd (At.snd (At.snd (At.snd (At.last))))
theorem ZhL (x : Zbi) (y : Int) : Upd (Zbg.enc x) 20 ((cI .i64).enc y) (Zbg.enc (⟨x.l, x.i, x.end_, x.rule, x.err, y⟩ : Zbi)) := Upd.snd (Upd.snd (Upd.snd (Upd.snd (Upd.last))))
theorem Ty3 : Ty Tryz.prog 3 (cI .i64) 0 := ⟨by kernel_rfl, by kernel_rfl⟩
theorem Ty4 : Ty Tryz.prog 4 cB false := ⟨by kernel_rfl, by kernel_rfl⟩
theorem Ty5 : Ty Tryz.prog 5 (cI .u8) 0 := ⟨by kernel_rfl, by kernel_rfl⟩
theorem Ty9 : Ty Tryz.prog 9 cS ByteArray.empty := ⟨by kernel_rfl, by kernel_rfl⟩
theorem Ty22 : Ty Tryz.prog 22 cL Sl.nil := ⟨by kernel_rfl, by kernel_rfl⟩
theorem Ty23 : Ty Tryz.prog 23 cL Sl.nil := ⟨by kernel_rfl, by kernel_rfl⟩
theorem Ty24 : Ty Tryz.prog 24 cL Sl.nil := ⟨by kernel_rfl, by kernel_rfl⟩
theorem Ty26 : Ty Tryz.prog 26 Zaw Za0 := ⟨by kernel_rfl, by kernel_rfl⟩
theorem Ty28 : Ty Tryz.prog 28 Zak ZaP := ⟨by kernel_rfl, by kernel_rfl⟩
theorem Ty29 : Ty Tryz.prog 29 (cI .i64) 0 := ⟨by kernel_rfl, by kernel_rfl⟩
theorem Ty64 : Ty Tryz.prog 64 ((cI .u8).arr 16) (Vec.rep 16 0) := ⟨by kernel_rfl, by kernel_rfl⟩
theorem Ty66 : Ty Tryz.prog 66 Zbo ZdR := ⟨by kernel_rfl, by kernel_rfl⟩
theorem Ty70 : Ty Tryz.prog 70 cL Sl.nil := ⟨by kernel_rfl, by kernel_rfl⟩
theorem Ty92 : Ty Tryz.prog 92 cL Sl.nil := ⟨by kernel_rfl, by kernel_rfl⟩
theorem Zcb : Ty Tryz.prog 117 ZaF Zbl := ⟨by kernel_rfl, by kernel_rfl⟩
theorem ZnU : Ty Tryz.prog 121 cL Sl.nil := ⟨by kernel_rfl, by kernel_rfl⟩
theorem Zuz : Ty Tryz.prog 126 Zbg ZdO := ⟨by kernel_rfl, by kernel_rfl⟩
theorem Zdz : Ty Tryz.prog 129 Zbm ZcD := ⟨by kernel_rfl, by kernel_rfl⟩
theorem ZeJ : Ty Tryz.prog 147 Zbb ZeD := ⟨by kernel_rfl, by kernel_rfl⟩
theorem Zth : Ty Tryz.prog 235 cP none := ⟨by kernel_rfl, by kernel_rfl⟩
theorem Zuy : Ty Tryz.prog 237 Zb2 Zd0 := ⟨by kernel_rfl, by kernel_rfl⟩
theorem Zr0 : Ty Tryz.prog 280 ((cI .u8).arr 12) (Vec.rep 12 0) := ⟨by kernel_rfl, by kernel_rfl⟩
theorem Zt8 : Ty Tryz.prog 281 ((cI .i64).arr 8) (Vec.rep 8 0) := ⟨by kernel_rfl, by kernel_rfl⟩
theorem Zil : Ty Tryz.prog 304 Zbt ZiP := ⟨by kernel_rfl, by kernel_rfl⟩
theorem Zux : Ty Tryz.prog 309 ((cI .u8).arr 24) (Vec.rep 24 0) := ⟨by kernel_rfl, by kernel_rfl⟩
theorem Zuw : Ty Tryz.prog 310 (cI .u64) 0 := ⟨by kernel_rfl, by kernel_rfl⟩
theorem Zf9 : Ty Tryz.prog 327 ((cI .u8).arr 4) (Vec.rep 4 0) := ⟨by kernel_rfl, by kernel_rfl⟩
theorem Zuv : Ty Tryz.prog 332 ZcA ZgY := ⟨by kernel_rfl, by kernel_rfl⟩
theorem Zuu : Ty Tryz.prog 346 ((cI .u8).arr 65) (Vec.rep 65 0) := ⟨by kernel_rfl, by kernel_rfl⟩
theorem F14 : Fun Tryz.prog 14 Tryz.f14 := ⟨Tryz.func14, by kernel_rfl, by kernel_rfl⟩
theorem F16 : Fun Tryz.prog 16 Tryz.f16 := ⟨Tryz.func16, by kernel_rfl, by kernel_rfl⟩
theorem F17 : Fun Tryz.prog 17 Tryz.f17 := ⟨Tryz.func17, by kernel_rfl, by kernel_rfl⟩
theorem F19 : Fun Tryz.prog 19 Tryz.f19 := ⟨Tryz.func19, by kernel_rfl, by kernel_rfl⟩
theorem F20 : Fun Tryz.prog 20 Tryz.f20 := ⟨Tryz.func20, by kernel_rfl, by kernel_rfl⟩
theorem F21 : Fun Tryz.prog 21 Tryz.f21 := ⟨Tryz.func21, by kernel_rfl, by kernel_rfl⟩
theorem F22 : Fun Tryz.prog 22 Tryz.f22 := ⟨Tryz.func22, by kernel_rfl, by kernel_rfl⟩
theorem F23 : Fun Tryz.prog 23 Tryz.f23 := ⟨Tryz.func23, by kernel_rfl, by kernel_rfl⟩
theorem F24 : Fun Tryz.prog 24 Tryz.f24 := ⟨Tryz.func24, by kernel_rfl, by kernel_rfl⟩
theorem F25 : Fun Tryz.prog 25 Tryz.f25 := ⟨Tryz.func25, by kernel_rfl, by kernel_rfl⟩
theorem F45 : Fun Tryz.prog 45 Tryz.f45 := ⟨Tryz.func45, by kernel_rfl, by kernel_rfl⟩
theorem F46 : Fun Tryz.prog 46 Tryz.f46 := ⟨Tryz.func46, by kernel_rfl, by kernel_rfl⟩
theorem F47 : Fun Tryz.prog 47 Tryz.f47 := ⟨Tryz.func47, by kernel_rfl, by kernel_rfl⟩
theorem F48 : Fun Tryz.prog 48 Tryz.f48 := ⟨Tryz.func48, by kernel_rfl, by kernel_rfl⟩
theorem F49 : Fun Tryz.prog 49 Tryz.f49 := ⟨Tryz.func49, by kernel_rfl, by kernel_rfl⟩
theorem F50 : Fun Tryz.prog 50 Tryz.f50 := ⟨Tryz.func50, by kernel_rfl, by kernel_rfl⟩
theorem F55 : Fun Tryz.prog 55 Tryz.f55 := ⟨Tryz.func55, by kernel_rfl, by kernel_rfl⟩
theorem F59 : Fun Tryz.prog 59 Tryz.f59 := ⟨Tryz.func59, by kernel_rfl, by kernel_rfl⟩
theorem F60 : Fun Tryz.prog 60 Tryz.f60 := ⟨Tryz.func60, by kernel_rfl, by kernel_rfl⟩
theorem F61 : Fun Tryz.prog 61 Tryz.f61 := ⟨Tryz.func61, by kernel_rfl, by kernel_rfl⟩
theorem F62 : Fun Tryz.prog 62 Tryz.f62 := ⟨Tryz.func62, by kernel_rfl, by kernel_rfl⟩
theorem F63 : Fun Tryz.prog 63 Tryz.f63 := ⟨Tryz.func63, by kernel_rfl, by kernel_rfl⟩
theorem F64 : Fun Tryz.prog 64 Tryz.f64 := ⟨Tryz.func64, by kernel_rfl, by kernel_rfl⟩
theorem F65 : Fun Tryz.prog 65 Tryz.f65 := ⟨Tryz.func65, by kernel_rfl, by kernel_rfl⟩
theorem F66 : Fun Tryz.prog 66 Tryz.f66 := ⟨Tryz.func66, by kernel_rfl, by kernel_rfl⟩
theorem F67 : Fun Tryz.prog 67 Tryz.f67 := ⟨Tryz.func67, by kernel_rfl, by kernel_rfl⟩
theorem F68 : Fun Tryz.prog 68 Tryz.f68 := ⟨Tryz.func68, by kernel_rfl, by kernel_rfl⟩
theorem F69 : Fun Tryz.prog 69 Tryz.f69 := ⟨Tryz.func69, by kernel_rfl, by kernel_rfl⟩
theorem F70 : Fun Tryz.prog 70 Tryz.f70 := ⟨Tryz.func70, by kernel_rfl, by kernel_rfl⟩
theorem F71 : Fun Tryz.prog 71 Tryz.f71 := ⟨Tryz.func71, by kernel_rfl, by kernel_rfl⟩
theorem F89 : Fun Tryz.prog 89 Tryz.f89 := ⟨Tryz.func89, by kernel_rfl, by kernel_rfl⟩
theorem F90 : Fun Tryz.prog 90 Tryz.f90 := ⟨Tryz.func90, by kernel_rfl, by kernel_rfl⟩
theorem F91 : Fun Tryz.prog 91 Tryz.f91 := ⟨Tryz.func91, by kernel_rfl, by kernel_rfl⟩
theorem F92 : Fun Tryz.prog 92 Tryz.f92 := ⟨Tryz.func92, by kernel_rfl, by kernel_rfl⟩
theorem F93 : Fun Tryz.prog 93 Tryz.f93 := ⟨Tryz.func93, by kernel_rfl, by kernel_rfl⟩
theorem F94 : Fun Tryz.prog 94 Tryz.f94 := ⟨Tryz.func94, by kernel_rfl, by kernel_rfl⟩
theorem F95 : Fun Tryz.prog 95 Tryz.f95 := ⟨Tryz.func95, by kernel_rfl, by kernel_rfl⟩
theorem F96 : Fun Tryz.prog 96 Tryz.f96 := ⟨Tryz.func96, by kernel_rfl, by kernel_rfl⟩
theorem F109 : Fun Tryz.prog 109 Tryz.f109 := ⟨Tryz.func109, by kernel_rfl, by kernel_rfl⟩
theorem F110 : Fun Tryz.prog 110 Tryz.f110 := ⟨Tryz.func110, by kernel_rfl, by kernel_rfl⟩
theorem F111 : Fun Tryz.prog 111 Tryz.f111 := ⟨Tryz.func111, by kernel_rfl, by kernel_rfl⟩
theorem F112 : Fun Tryz.prog 112 Tryz.f112 := ⟨Tryz.func112, by kernel_rfl, by kernel_rfl⟩
theorem F113 : Fun Tryz.prog 113 Tryz.f113 := ⟨Tryz.func113, by kernel_rfl, by kernel_rfl⟩
theorem F114 : Fun Tryz.prog 114 Tryz.f114 := ⟨Tryz.func114, by kernel_rfl, by kernel_rfl⟩
theorem F115 : Fun Tryz.prog 115 Tryz.f115 := ⟨Tryz.func115, by kernel_rfl, by kernel_rfl⟩
theorem F116 : Fun Tryz.prog 116 Tryz.f116 := ⟨Tryz.func116, by kernel_rfl, by kernel_rfl⟩
theorem F117 : Fun Tryz.prog 117 Tryz.f117 := ⟨Tryz.func117, by kernel_rfl, by kernel_rfl⟩
theorem F118 : Fun Tryz.prog 118 Tryz.f118 := ⟨Tryz.func118, by kernel_rfl, by kernel_rfl⟩
theorem F119 : Fun Tryz.prog 119 Tryz.f119 := ⟨Tryz.func119, by kernel_rfl, by kernel_rfl⟩
theorem F120 : Fun Tryz.prog 120 Tryz.f120 := ⟨Tryz.func120, by kernel_rfl, by kernel_rfl⟩
theorem F140 : Fun Tryz.prog 140 Tryz.f140 := ⟨Tryz.func140, by kernel_rfl, by kernel_rfl⟩
theorem F141 : Fun Tryz.prog 141 Tryz.f141 := ⟨Tryz.func141, by kernel_rfl, by kernel_rfl⟩
theorem F142 : Fun Tryz.prog 142 Tryz.f142 := ⟨Tryz.func142, by kernel_rfl, by kernel_rfl⟩
theorem F143 : Fun Tryz.prog 143 Tryz.f143 := ⟨Tryz.func143, by kernel_rfl, by kernel_rfl⟩
theorem F144 : Fun Tryz.prog 144 Tryz.f144 := ⟨Tryz.func144, by kernel_rfl, by kernel_rfl⟩
theorem F145 : Fun Tryz.prog 145 Tryz.f145 := ⟨Tryz.func145, by kernel_rfl, by kernel_rfl⟩
theorem F151 : Fun Tryz.prog 151 Tryz.f151 := ⟨Tryz.func151, by kernel_rfl, by kernel_rfl⟩
theorem F152 : Fun Tryz.prog 152 Tryz.f152 := ⟨Tryz.func152, by kernel_rfl, by kernel_rfl⟩
theorem F153 : Fun Tryz.prog 153 Tryz.f153 := ⟨Tryz.func153, by kernel_rfl, by kernel_rfl⟩
theorem F154 : Fun Tryz.prog 154 Tryz.f154 := ⟨Tryz.func154, by kernel_rfl, by kernel_rfl⟩
theorem F155 : Fun Tryz.prog 155 Tryz.f155 := ⟨Tryz.func155, by kernel_rfl, by kernel_rfl⟩
theorem F156 : Fun Tryz.prog 156 Tryz.f156 := ⟨Tryz.func156, by kernel_rfl, by kernel_rfl⟩
theorem F157 : Fun Tryz.prog 157 Tryz.f157 := ⟨Tryz.func157, by kernel_rfl, by kernel_rfl⟩
theorem F158 : Fun Tryz.prog 158 Tryz.f158 := ⟨Tryz.func158, by kernel_rfl, by kernel_rfl⟩
theorem F159 : Fun Tryz.prog 159 Tryz.f159 := ⟨Tryz.func159, by kernel_rfl, by kernel_rfl⟩
theorem F160 : Fun Tryz.prog 160 Tryz.f160 := ⟨Tryz.func160, by kernel_rfl, by kernel_rfl⟩
theorem F161 : Fun Tryz.prog 161 Tryz.f161 := ⟨Tryz.func161, by kernel_rfl, by kernel_rfl⟩
theorem F162 : Fun Tryz.prog 162 Tryz.f162 := ⟨Tryz.func162, by kernel_rfl, by kernel_rfl⟩
theorem F175 : Fun Tryz.prog 175 Tryz.f175 := ⟨Tryz.func175, by kernel_rfl, by kernel_rfl⟩
theorem F176 : Fun Tryz.prog 176 Tryz.f176 := ⟨Tryz.func176, by kernel_rfl, by kernel_rfl⟩
theorem F177 : Fun Tryz.prog 177 Tryz.f177 := ⟨Tryz.func177, by kernel_rfl, by kernel_rfl⟩
theorem F178 : Fun Tryz.prog 178 Tryz.f178 := ⟨Tryz.func178, by kernel_rfl, by kernel_rfl⟩
theorem F181 : Fun Tryz.prog 181 Tryz.f181 := ⟨Tryz.func181, by kernel_rfl, by kernel_rfl⟩
theorem F182 : Fun Tryz.prog 182 Tryz.f182 := ⟨Tryz.func182, by kernel_rfl, by kernel_rfl⟩
theorem F183 : Fun Tryz.prog 183 Tryz.f183 := ⟨Tryz.func183, by kernel_rfl, by kernel_rfl⟩
theorem F184 : Fun Tryz.prog 184 Tryz.f184 := ⟨Tryz.func184, by kernel_rfl, by kernel_rfl⟩
theorem F185 : Fun Tryz.prog 185 Tryz.f185 := ⟨Tryz.func185, by kernel_rfl, by kernel_rfl⟩
theorem F186 : Fun Tryz.prog 186 Tryz.f186 := ⟨Tryz.func186, by kernel_rfl, by kernel_rfl⟩
theorem F187 : Fun Tryz.prog 187 Tryz.f187 := ⟨Tryz.func187, by kernel_rfl, by kernel_rfl⟩
theorem F188 : Fun Tryz.prog 188 Tryz.f188 := ⟨Tryz.func188, by kernel_rfl, by kernel_rfl⟩
theorem F189 : Fun Tryz.prog 189 Tryz.f189 := ⟨Tryz.func189, by kernel_rfl, by kernel_rfl⟩
theorem F190 : Fun Tryz.prog 190 Tryz.f190 := ⟨Tryz.func190, by kernel_rfl, by kernel_rfl⟩
theorem F191 : Fun Tryz.prog 191 Tryz.f191 := ⟨Tryz.func191, by kernel_rfl, by kernel_rfl⟩
theorem F192 : Fun Tryz.prog 192 Tryz.f192 := ⟨Tryz.func192, by kernel_rfl, by kernel_rfl⟩
theorem F193 : Fun Tryz.prog 193 Tryz.f193 := ⟨Tryz.func193, by kernel_rfl, by kernel_rfl⟩
theorem F194 : Fun Tryz.prog 194 Tryz.f194 := ⟨Tryz.func194, by kernel_rfl, by kernel_rfl⟩
theorem F195 : Fun Tryz.prog 195 Tryz.f195 := ⟨Tryz.func195, by kernel_rfl, by kernel_rfl⟩
theorem F196 : Fun Tryz.prog 196 Tryz.f196 := ⟨Tryz.func196, by kernel_rfl, by kernel_rfl⟩
theorem F197 : Fun Tryz.prog 197 Tryz.f197 := ⟨Tryz.func197, by kernel_rfl, by kernel_rfl⟩
theorem F209 : Fun Tryz.prog 209 Tryz.f209 := ⟨Tryz.func209, by kernel_rfl, by kernel_rfl⟩
theorem F210 : Fun Tryz.prog 210 Tryz.f210 := ⟨Tryz.func210, by kernel_rfl, by kernel_rfl⟩
theorem F211 : Fun Tryz.prog 211 Tryz.f211 := ⟨Tryz.func211, by kernel_rfl, by kernel_rfl⟩
theorem F212 : Fun Tryz.prog 212 Tryz.f212 := ⟨Tryz.func212, by kernel_rfl, by kernel_rfl⟩
theorem F215 : Fun Tryz.prog 215 Tryz.f215 := ⟨Tryz.func215, by kernel_rfl, by kernel_rfl⟩
theorem F216 : Fun Tryz.prog 216 Tryz.f216 := ⟨Tryz.func216, by kernel_rfl, by kernel_rfl⟩
theorem F217 : Fun Tryz.prog 217 Tryz.f217 := ⟨Tryz.func217, by kernel_rfl, by kernel_rfl⟩
theorem F218 : Fun Tryz.prog 218 Tryz.f218 := ⟨Tryz.func218, by kernel_rfl, by kernel_rfl⟩
theorem F219 : Fun Tryz.prog 219 Tryz.f219 := ⟨Tryz.func219, by kernel_rfl, by kernel_rfl⟩
theorem F226 : Fun Tryz.prog 226 Tryz.f226 := ⟨Tryz.func226, by kernel_rfl, by kernel_rfl⟩
theorem F228 : Fun Tryz.prog 228 Tryz.f228 := ⟨Tryz.func228, by kernel_rfl, by kernel_rfl⟩
theorem F229 : Fun Tryz.prog 229 Tryz.f229 := ⟨Tryz.func229, by kernel_rfl, by kernel_rfl⟩
theorem F230 : Fun Tryz.prog 230 Tryz.f230 := ⟨Tryz.func230, by kernel_rfl, by kernel_rfl⟩
theorem F231 : Fun Tryz.prog 231 Tryz.f231 := ⟨Tryz.func231, by kernel_rfl, by kernel_rfl⟩
theorem F232 : Fun Tryz.prog 232 Tryz.f232 := ⟨Tryz.func232, by kernel_rfl, by kernel_rfl⟩
theorem F233 : Fun Tryz.prog 233 Tryz.f233 := ⟨Tryz.func233, by kernel_rfl, by kernel_rfl⟩
theorem F234 : Fun Tryz.prog 234 Tryz.f234 := ⟨Tryz.func234, by kernel_rfl, by kernel_rfl⟩
theorem F241 : Fun Tryz.prog 241 Tryz.f241 := ⟨Tryz.func241, by kernel_rfl, by kernel_rfl⟩
theorem F242 : Fun Tryz.prog 242 Tryz.f242 := ⟨Tryz.func242, by kernel_rfl, by kernel_rfl⟩
theorem F243 : Fun Tryz.prog 243 Tryz.f243 := ⟨Tryz.func243, by kernel_rfl, by kernel_rfl⟩
theorem F244 : Fun Tryz.prog 244 Tryz.f244 := ⟨Tryz.func244, by kernel_rfl, by kernel_rfl⟩
theorem F245 : Fun Tryz.prog 245 Tryz.f245 := ⟨Tryz.func245, by kernel_rfl, by kernel_rfl⟩
theorem F246 : Fun Tryz.prog 246 Tryz.f246 := ⟨Tryz.func246, by kernel_rfl, by kernel_rfl⟩
theorem F247 : Fun Tryz.prog 247 Tryz.f247 := ⟨Tryz.func247, by kernel_rfl, by kernel_rfl⟩
theorem F248 : Fun Tryz.prog 248 Tryz.f248 := ⟨Tryz.func248, by kernel_rfl, by kernel_rfl⟩
theorem F249 : Fun Tryz.prog 249 Tryz.f249 := ⟨Tryz.func249, by kernel_rfl, by kernel_rfl⟩
theorem F250 : Fun Tryz.prog 250 Tryz.f250 := ⟨Tryz.func250, by kernel_rfl, by kernel_rfl⟩
theorem F256 : Fun Tryz.prog 256 Tryz.f256 := ⟨Tryz.func256, by kernel_rfl, by kernel_rfl⟩
theorem F258 : Fun Tryz.prog 258 Tryz.f258 := ⟨Tryz.func258, by kernel_rfl, by kernel_rfl⟩
theorem F259 : Fun Tryz.prog 259 Tryz.f259 := ⟨Tryz.func259, by kernel_rfl, by kernel_rfl⟩
theorem F260 : Fun Tryz.prog 260 Tryz.f260 := ⟨Tryz.func260, by kernel_rfl, by kernel_rfl⟩
theorem F261 : Fun Tryz.prog 261 Tryz.f261 := ⟨Tryz.func261, by kernel_rfl, by kernel_rfl⟩
def str0 : ByteArray := ⟨#[48, 49, 50, 51, 52, 53, 54, 55, 56, 57, 97, 98, 99, 100, 101, 102, 103, 104, 105, 106, 107, 108, 109, 110, 111, 112, 113, 114, 115, 116, 117, 118, 119, 120, 121, 122]⟩
def str1 : ByteArray := ⟨#[48, 48, 48, 49, 48, 50, 48, 51, 48, 52, 48, 53, 48, 54, 48, 55, 48, 56, 48, 57, 49, 48, 49, 49, 49, 50, 49, 51, 49, 52, 49, 53, 49, 54, 49, 55, 49, 56, 49, 57, 50, 48, 50, 49, 50, 50, 50, 51, 50, 52, 50, 53, 50, 54, 50, 55, 50, 56, 50, 57, 51, 48, 51, 49, 51, 50, 51, 51, 51, 52, 51, 53, 51, 54, 51, 55, 51, 56, 51, 57, 52, 48, 52, 49, 52, 50, 52, 51, 52, 52, 52, 53, 52, 54, 52, 55, 52, 56, 52, 57, 53, 48, 53, 49, 53, 50, 53, 51, 53, 52, 53, 53, 53, 54, 53, 55, 53, 56, 53, 57, 54, 48, 54, 49, 54, 50, 54, 51, 54, 52, 54, 53, 54, 54, 54, 55, 54, 56, 54, 57, 55, 48, 55, 49, 55, 50, 55, 51, 55, 52, 55, 53, 55, 54, 55, 55, 55, 56, 55, 57, 56, 48, 56, 49, 56, 50, 56, 51, 56, 52, 56, 53, 56, 54, 56, 55, 56, 56, 56, 57, 57, 48, 57, 49, 57, 50, 57, 51, 57, 52, 57, 53, 57, 54, 57, 55, 57, 56, 57, 57]⟩
def str2 : ByteArray := ⟨#[0, 1, 2, 2, 3, 3, 3, 3, 4, 4, 4, 4, 4, 4, 4, 4, 5, 5, 5, 5, 5, 5, 5, 5, 5, 5, 5, 5, 5, 5, 5, 5, 6, 6, 6, 6, 6, 6, 6, 6, 6, 6, 6, 6, 6, 6, 6, 6, 6, 6, 6, 6, 6, 6, 6, 6, 6, 6, 6, 6, 6, 6, 6, 6, 7, 7, 7, 7, 7, 7, 7, 7, 7, 7, 7, 7, 7, 7, 7, 7, 7, 7, 7, 7, 7, 7, 7, 7, 7, 7, 7, 7, 7, 7, 7, 7, 7, 7, 7, 7, 7, 7, 7, 7, 7, 7, 7, 7, 7, 7, 7, 7, 7, 7, 7, 7, 7, 7, 7, 7, 7, 7, 7, 7, 7, 7, 7, 7, 8, 8, 8, 8, 8, 8, 8, 8, 8, 8, 8, 8, 8, 8, 8, 8, 8, 8, 8, 8, 8, 8, 8, 8, 8, 8, 8, 8, 8, 8, 8, 8, 8, 8, 8, 8, 8, 8, 8, 8, 8, 8, 8, 8, 8, 8, 8, 8, 8, 8, 8, 8, 8, 8, 8, 8, 8, 8, 8, 8, 8, 8, 8, 8, 8, 8, 8, 8, 8, 8, 8, 8, 8, 8, 8, 8, 8, 8, 8, 8, 8, 8, 8, 8, 8, 8, 8, 8, 8, 8, 8, 8, 8, 8, 8, 8, 8, 8, 8, 8, 8, 8, 8, 8, 8, 8, 8, 8, 8, 8, 8, 8, 8, 8, 8, 8, 8, 8, 8, 8, 8, 8, 8, 8, 8, 8, 8, 8]⟩
def str4 : ByteArray := ⟨#[116, 99, 112]⟩
def str5 : ByteArray := ⟨#[117, 100, 112]⟩
def str6 : ByteArray := ⟨#[105, 99, 109, 112]⟩
def str7 : ByteArray := ⟨#[105, 99, 109, 112, 54]⟩
def str8 : ByteArray := ⟨#[32]⟩
def str9 : ByteArray := ⟨#[32, 112, 114, 111, 116, 111, 32]⟩
def ZtB : ByteArray := ⟨#[32, 97, 110, 121]⟩
def Zgl : ByteArray := ⟨#[46]⟩
def Znm : ByteArray := ⟨#[58]⟩
def Znl : ByteArray := ⟨#[58, 58, 102, 102, 102, 102, 58]⟩
def Ziv : ByteArray := ⟨#[58, 58]⟩
def Zkt : ByteArray := ⟨#[47]⟩
def ZjF : ByteArray := ⟨#[45]⟩
def Zlt : ByteArray := ⟨#[97, 110, 121]⟩
def ZeE : ByteArray := ⟨#[44]⟩
def Znk : ByteArray := ⟨#[110, 111, 116, 32]⟩
def Znj : ByteArray := ⟨#[32, 112, 111, 114, 116, 32]⟩
def Zls : ByteArray := ⟨#[32, 99, 108, 97, 115, 115, 32]⟩
def Zlr : ByteArray := ⟨#[32, 111, 110, 32, 112]⟩
def Zlq : ByteArray := ⟨#[32, 118, 105, 100, 32]⟩
def Zks : ByteArray := ⟨#[102, 114, 111, 109]⟩
def Zmd : ByteArray := ⟨#[116, 111]⟩
def Zlp : ByteArray := ⟨#[33]⟩
def Zni : ByteArray := ⟨#[32, 102, 108, 97, 103, 115, 32]⟩
def ZjE : ByteArray := ⟨#[32, 116, 121, 112, 101, 32]⟩
def Zlo : ByteArray := ⟨#[32, 112, 105, 101, 99, 101, 115]⟩
def ZsF : ByteArray := ⟨#[112, 114, 111, 116, 111, 32]⟩
def ZtA : ByteArray := ⟨#[97, 114, 112]⟩
def Ztz : ByteArray := ⟨#[105, 112, 52]⟩
def Zty : ByteArray := ⟨#[105, 112, 54]⟩
def Ziu : ByteArray := ⟨#[48, 49, 50, 51, 52, 53, 54, 55, 56, 57, 97, 98, 99, 100, 101, 102]⟩
def ZsE : ByteArray := ⟨#[102, 105, 110]⟩
def ZsD : ByteArray := ⟨#[115, 121, 110]⟩
def ZsC : ByteArray := ⟨#[114, 115, 116]⟩
def ZsB : ByteArray := ⟨#[112, 115, 104]⟩
def ZsA : ByteArray := ⟨#[97, 99, 107]⟩
def Zsz : ByteArray := ⟨#[117, 114, 103]⟩
def Zsy : ByteArray := ⟨#[101, 99, 101]⟩
def Zsx : ByteArray := ⟨#[99, 119, 114]⟩
def Ztx : ByteArray := ⟨#[112, 101, 114, 109, 105, 116]⟩
def Ztw : ByteArray := ⟨#[100, 101, 110, 121]⟩
def Ztv : ByteArray := ⟨#[114, 101, 106, 101, 99, 116]⟩
def Zsw : ByteArray := ⟨#[112, 101, 114, 109, 105, 116, 32, 116, 99, 112, 32, 102, 114, 111, 109, 32, 49, 48, 46, 48, 46, 48, 46, 48, 47, 56, 32, 116, 111, 32, 97, 110, 121, 32, 112, 111, 114, 116, 32, 56, 48]⟩
def Ztu : ByteArray := ⟨#[112, 114, 111, 116, 111]⟩
def Ztt : ByteArray := ⟨#[99, 108, 97, 115, 115]⟩
def Zsv : ByteArray := ⟨#[112]⟩
def Zts : ByteArray := ⟨#[110, 111, 116]⟩
def Ztr : ByteArray := ⟨#[112, 111, 114, 116]⟩
def Zsu : ByteArray := ⟨#[111, 110]⟩
def Zst : ByteArray := ⟨#[118, 105, 100]⟩
def Znh : ByteArray := ⟨#[102, 108, 97, 103, 115]⟩
def Zng : ByteArray := ⟨#[116, 121, 112, 101]⟩
def Zss : ByteArray := ⟨#[112, 105, 101, 99, 101, 115]⟩
theorem Eq5 : EqT Tryz.prog 5 1 (cI .u8) := EqT.int Tryz.underlying5
theorem Zud : EqT Tryz.prog 280 2 ((cI .u8).arr 12) := EqT.arr Tryz.underlying280 Ty5 Eq5
theorem Eq64 : EqT Tryz.prog 64 2 ((cI .u8).arr 16) := EqT.arr Tryz.underlying64 Ty5 Eq5
theorem Eq3 : EqT Tryz.prog 3 1 (cI .i64) := EqT.int Tryz.underlying3
theorem Eq66 : EqT Tryz.prog 66 3 Zbo := EqT.struct (D := 2) Tryz.underlying66 (by kernel_rfl) rfl (fun d hd x y w => EqFs.congr (EqFs.cons rfl Ty3 (Zcp x) (Zcp y) Eq3 (by omega) (EqFs.cons rfl Ty64 (ZbZ x) (ZbZ y) Eq64 (by omega) EqFs.nil)) (by obtain ⟨⟩ := x; obtain ⟨⟩ := y; simp))
theorem Zuf : EqT Tryz.prog 117 4 ZaF := EqT.struct (D := 3) Tryz.underlying117 (by kernel_rfl) rfl (fun d hd x y w => EqFs.congr (EqFs.cons rfl Ty66 (Zbq x) (Zbq y) Eq66 (by omega) (EqFs.cons rfl Ty3 (Zby x) (Zby y) Eq3 (by omega) EqFs.nil)) (by obtain ⟨⟩ := x; obtain ⟨⟩ := y; simp))
theorem Zue : EqT Tryz.prog 147 2 Zbb := EqT.struct (D := 1) Tryz.underlying147 (by kernel_rfl) rfl (fun d hd x y w => EqFs.congr (EqFs.cons rfl Ty3 (Zcc x) (Zcc y) Eq3 (by omega) (EqFs.cons rfl Ty3 (Zcd x) (Zcd y) Eq3 (by omega) EqFs.nil)) (by obtain ⟨⟩ := x; obtain ⟨⟩ := y; simp))
theorem Eq9 : EqT Tryz.prog 9 1 cS := EqT.string Tryz.underlying9
theorem Ck9 : CkT Tryz.prog 9 1 cS := CkT.string Tryz.underlying9
theorem Zuc : KeyT Tryz.prog 127 9 1 cS (cI .i64) 0 := ⟨NowK.string Tryz.underlying9, Eq9, Ck9, SbC.string, by decide, ⟨3, by kernel_rfl, Ty3⟩, ⟨_, Tryz.underlying9⟩⟩
theorem ZcR : Tryz.prog.follows .mixedOrders = true := by kernel_rfl
end Go.Proofs.YtpmhinidiplhiaaGreatDoor.Lx
