/- The types of the translation that the programs use. -/
import Derived.Test.YtpmhinidiplhiaaDoorProg
import Derived.Test.YtpmhinidiplhiaaDoorLxShort
set_option linter.unusedVariables false
set_option linter.unusedSimpArgs false
set_option linter.unusedSectionVars false
namespace Go.Proofs.YtpmhinidiplhiaaDoor.Lx
open Go Go.Proofs
structure Za1 where
 V : Int
 A : (Vec Int 16)
 deriving DecidableEq
def Zb0 : Za1 := ⟨0, (Vec.rep 16 0)⟩
instance : Inhabited Za1 := ⟨Zb0⟩
def Za0 : Cod Za1 := ((cI .i64).pair ((cI .u8).arr 16)).iso (fun x => (x.V, x.A)) (fun p => ⟨p.1, p.2⟩) (fun _ => rfl) (fun _ => rfl)
theorem Zdi (x : Za1) : At (Za0.enc x) 0 ((cI .i64).enc x.V) := At.fst
theorem Zg6 (x : Za1) (y : Int) : Upd (Za0.enc x) 0 ((cI .i64).enc y) (Za0.enc (⟨y, x.A⟩ : Za1)) := Upd.fst
theorem Zc1 (x : Za1) : At (Za0.enc x) 1 (((cI .u8).arr 16).enc x.A) := At.last
theorem Zg7 (x : Za1) (y : (Vec Int 16)) : Upd (Za0.enc x) 1 (((cI .u8).arr 16).enc y) (Za0.enc (⟨x.V, y⟩ : Za1)) := Upd.last
structure Zak where
 IP : Za1
 Len : Int
 deriving DecidableEq
def Za4 : Zak := ⟨Zb0, 0⟩
instance : Inhabited Zak := ⟨Za4⟩
def Zau : Cod Zak := (Za0.pair (cI .i64)).iso (fun x => (x.IP, x.Len)) (fun p => ⟨p.1, p.2⟩) (fun _ => rfl) (fun _ => rfl)
theorem ZbB (x : Zak) : At (Zau.enc x) 0 (Za0.enc x.IP) := At.fst
theorem Zem (x : Zak) (y : Za1) : Upd (Zau.enc x) 0 (Za0.enc y) (Zau.enc (⟨y, x.Len⟩ : Zak)) := Upd.fst
theorem ZbS (x : Zak) : At (Zau.enc x) 17 ((cI .i64).enc x.Len) := At.last
theorem Zdn (x : Zak) (y : Int) : Upd (Zau.enc x) 17 ((cI .i64).enc y) (Zau.enc (⟨x.IP, y⟩ : Zak)) := Upd.last
structure Zan where
 Not : Bool
 Nets : Sl
 Ports : Sl
 deriving DecidableEq
def ZaC : Zan := ⟨false, Sl.nil, Sl.nil⟩
instance : Inhabited Zan := ⟨ZaC⟩
def ZaF : Cod Zan := (cB.pair (cL.pair cL)).iso (fun x => (x.Not, x.Nets, x.Ports)) (fun p => ⟨p.1, p.2.1, p.2.2⟩) (fun _ => rfl) (fun _ => rfl)
theorem Zd2 (x : Zan) : At (ZaF.enc x) 0 (cB.enc x.Not) := At.fst
theorem ZjF (x : Zan) (y : Bool) : Upd (ZaF.enc x) 0 (cB.enc y) (ZaF.enc (⟨y, x.Nets, x.Ports⟩ : Zan)) := Upd.fst
theorem Zbi (x : Zan) : At (ZaF.enc x) 1 (cL.enc x.Nets) := At.snd (At.fst)
theorem Zel (x : Zan) (y : Sl) : Upd (ZaF.enc x) 1 (cL.enc y) (ZaF.enc (⟨x.Not, y, x.Ports⟩ : Zan)) := Upd.snd (Upd.fst)
theorem Zbb (x : Zan) : At (ZaF.enc x) 2 (cL.enc x.Ports) := At.snd (At.last)
theorem Zea (x : Zan) (y : Sl) : Upd (ZaF.enc x) 2 (cL.enc y) (ZaF.enc (⟨x.Not, x.Nets, y⟩ : Zan)) := Upd.snd (Upd.last)
structure ZaM where
 Lo : Int
 Hi : Int
 deriving DecidableEq
def Zfs : ZaM := ⟨0, 0⟩
instance : Inhabited ZaM := ⟨Zfs⟩
def ZaS : Cod ZaM := ((cI .i64).pair (cI .i64)).iso (fun x => (x.Lo, x.Hi)) (fun p => ⟨p.1, p.2⟩) (fun _ => rfl) (fun _ => rfl)
theorem ZcQ (x : ZaM) : At (ZaS.enc x) 0 ((cI .i64).enc x.Lo) := At.fst
theorem ZdX (x : ZaM) (y : Int) : Upd (ZaS.enc x) 0 ((cI .i64).enc y) (ZaS.enc (⟨y, x.Hi⟩ : ZaM)) := Upd.fst
theorem ZcR (x : ZaM) : At (ZaS.enc x) 1 ((cI .i64).enc x.Hi) := At.last
theorem ZdY (x : ZaM) (y : Int) : Upd (ZaS.enc x) 1 ((cI .i64).enc y) (ZaS.enc (⟨x.Lo, y⟩ : ZaM)) := Upd.last
structure Zap where
 Act : Int
 Class : Int
 Kind : Int
 Proto : Int
 In : Int
 Vid : Int
 From : Zan
 To : Zan
 Set : Int
 Clear : Int
 Type_ : Int
 Pieces : Bool
 deriving DecidableEq
def Zal : Zap := ⟨0, 0, 0, 0, 0, 0, ZaC, ZaC, 0, 0, 0, false⟩
instance : Inhabited Zap := ⟨Zal⟩
def Zao : Cod Zap := ((cI .i64).pair ((cI .i64).pair ((cI .i64).pair ((cI .i64).pair ((cI .i64).pair ((cI .i64).pair (ZaF.pair (ZaF.pair ((cI .i64).pair ((cI .i64).pair ((cI .i64).pair cB))))))))))).iso (fun x => (x.Act, x.Class, x.Kind, x.Proto, x.In, x.Vid, x.From, x.To, x.Set, x.Clear, x.Type_, x.Pieces)) (fun p => ⟨p.1, p.2.1, p.2.2.1, p.2.2.2.1, p.2.2.2.2.1, p.2.2.2.2.2.1, p.2.2.2.2.2.2.1, p.2.2.2.2.2.2.2.1, p.2.2.2.2.2.2.2.2.1, p.2.2.2.2.2.2.2.2.2.1, p.2.2.2.2.2.2.2.2.2.2.1, p.2.2.2.2.2.2.2.2.2.2.2⟩) (fun _ => rfl) (fun _ => rfl)
theorem ZbV (x : Zap) : At (Zao.enc x) 0 ((cI .i64).enc x.Act) := At.fst
theorem Zdg (x : Zap) (y : Int) : Upd (Zao.enc x) 0 ((cI .i64).enc y) (Zao.enc (⟨y, x.Class, x.Kind, x.Proto, x.In, x.Vid, x.From, x.To, x.Set, x.Clear, x.Type_, x.Pieces⟩ : Zap)) := Upd.fst
theorem Zcn (x : Zap) : At (Zao.enc x) 1 ((cI .i64).enc x.Class) := At.snd (At.fst)
theorem Zfr (x : Zap) (y : Int) : Upd (Zao.enc x) 1 ((cI .i64).enc y) (Zao.enc (⟨x.Act, y, x.Kind, x.Proto, x.In, x.Vid, x.From, x.To, x.Set, x.Clear, x.Type_, x.Pieces⟩ : Zap)) := Upd.snd (Upd.fst)
theorem ZbA (x : Zap) : At (Zao.enc x) 2 ((cI .i64).enc x.Kind) := At.snd (At.snd (At.fst))
theorem ZfR (x : Zap) (y : Int) : Upd (Zao.enc x) 2 ((cI .i64).enc y) (Zao.enc (⟨x.Act, x.Class, y, x.Proto, x.In, x.Vid, x.From, x.To, x.Set, x.Clear, x.Type_, x.Pieces⟩ : Zap)) := Upd.snd (Upd.snd (Upd.fst))
theorem Zbk (x : Zap) : At (Zao.enc x) 3 ((cI .i64).enc x.Proto) := At.snd (At.snd (At.snd (At.fst)))
theorem Zdm (x : Zap) (y : Int) : Upd (Zao.enc x) 3 ((cI .i64).enc y) (Zao.enc (⟨x.Act, x.Class, x.Kind, y, x.In, x.Vid, x.From, x.To, x.Set, x.Clear, x.Type_, x.Pieces⟩ : Zap)) := Upd.snd (Upd.snd (Upd.snd (Upd.fst)))
theorem Zdu (x : Zap) : At (Zao.enc x) 4 ((cI .i64).enc x.In) := At.snd (At.snd (At.snd (At.snd (At.fst))))
theorem ZgK (x : Zap) (y : Int) : Upd (Zao.enc x) 4 ((cI .i64).enc y) (Zao.enc (⟨x.Act, x.Class, x.Kind, x.Proto, y, x.Vid, x.From, x.To, x.Set, x.Clear, x.Type_, x.Pieces⟩ : Zap)) := Upd.snd (Upd.snd (Upd.snd (Upd.snd (Upd.fst))))
theorem Zdh (x : Zap) : At (Zao.enc x) 5 ((cI .i64).enc x.Vid) := At.snd (At.snd (At.snd (At.snd (At.snd (At.fst)))))
theorem Zgi (x : Zap) (y : Int) : Upd (Zao.enc x) 5 ((cI .i64).enc y) (Zao.enc (⟨x.Act, x.Class, x.Kind, x.Proto, x.In, y, x.From, x.To, x.Set, x.Clear, x.Type_, x.Pieces⟩ : Zap)) := Upd.snd (Upd.snd (Upd.snd (Upd.snd (Upd.snd (Upd.fst)))))
theorem Zdy (x : Zap) : At (Zao.enc x) 6 (ZaF.enc x.From) := At.snd (At.snd (At.snd (At.snd (At.snd (At.snd (At.fst))))))
theorem Zdx (x : Zap) (y : Zan) : Upd (Zao.enc x) 6 (ZaF.enc y) (Zao.enc (⟨x.Act, x.Class, x.Kind, x.Proto, x.In, x.Vid, y, x.To, x.Set, x.Clear, x.Type_, x.Pieces⟩ : Zap)) := Upd.snd (Upd.snd (Upd.snd (Upd.snd (Upd.snd (Upd.snd (Upd.fst))))))
theorem Zdt (x : Zap) : At (Zao.enc x) 9 (ZaF.enc x.To) := At.snd (At.snd (At.snd (At.snd (At.snd (At.snd (At.snd (At.fst)))))))
theorem Zef (x : Zap) (y : Zan) : Upd (Zao.enc x) 9 (ZaF.enc y) (Zao.enc (⟨x.Act, x.Class, x.Kind, x.Proto, x.In, x.Vid, x.From, y, x.Set, x.Clear, x.Type_, x.Pieces⟩ : Zap)) := Upd.snd (Upd.snd (Upd.snd (Upd.snd (Upd.snd (Upd.snd (Upd.snd (Upd.fst)))))))
theorem Zca (x : Zap) : At (Zao.enc x) 12 ((cI .i64).enc x.Set) := At.snd (At.snd (At.snd (At.snd (At.snd (At.snd (At.snd (At.snd (At.fst))))))))
theorem ZjG (x : Zap) (y : Int) : Upd (Zao.enc x) 12 ((cI .i64).enc y) (Zao.enc (⟨x.Act, x.Class, x.Kind, x.Proto, x.In, x.Vid, x.From, x.To, y, x.Clear, x.Type_, x.Pieces⟩ : Zap)) := Upd.snd (Upd.snd (Upd.snd (Upd.snd (Upd.snd (Upd.snd (Upd.snd (Upd.snd (Upd.fst))))))))
theorem ZbR (x : Zap) : At (Zao.enc x) 13 ((cI .i64).enc x.Clear) := At.snd (At.snd (At.snd (At.snd (At.snd (At.snd (At.snd (At.snd (At.snd (At.fst)))))))))
theorem Zh6 (x : Zap) (y : Int) : Upd (Zao.enc x) 13 ((cI .i64).enc y) (Zao.enc (⟨x.Act, x.Class, x.Kind, x.Proto, x.In, x.Vid, x.From, x.To, x.Set, y, x.Type_, x.Pieces⟩ : Zap)) := Upd.snd (Upd.snd (Upd.snd (Upd.snd (Upd.snd (Upd.snd (Upd.snd (Upd.snd (Upd.snd (Upd.fst)))))))))
theorem Zcm (x : Zap) : At (Zao.enc x) 14 ((cI .i64).enc x.Type_) := At.snd (At.snd (At.snd (At.snd (At.snd (At.snd (At.snd (At.snd (At.snd (At.snd (At.fst))))))))))
theorem Zfq (x : Zap) (y : Int) : Upd (Zao.enc x) 14 ((cI .i64).enc y) (Zao.enc (⟨x.Act, x.Class, x.Kind, x.Proto, x.In, x.Vid, x.From, x.To, x.Set, x.Clear, y, x.Pieces⟩ : Zap)) := Upd.snd (Upd.snd (Upd.snd (Upd.snd (Upd.snd (Upd.snd (Upd.snd (Upd.snd (Upd.snd (Upd.snd (Upd.fst))))))))))
theorem Zc8 (x : Zap) : At (Zao.enc x) 15 (cB.enc x.Pieces) := At.snd (At.snd (At.snd (At.snd (At.snd (At.snd (At.snd (At.snd (At.snd (At.snd (At.last))))))))))
theorem ZhE (x : Zap) (y : Bool) : Upd (Zao.enc x) 15 (cB.enc y) (Zao.enc (⟨x.Act, x.Class, x.Kind, x.Proto, x.In, x.Vid, x.From, x.To, x.Set, x.Clear, x.Type_, y⟩ : Zap)) := Upd.snd (Upd.snd (Upd.snd (Upd.snd (Upd.snd (Upd.snd (Upd.snd (Upd.snd (Upd.snd (Upd.snd (Upd.last))))))))))
structure ZbT where
 addr : (Option Addr)
 buf : Sl
 deriving DecidableEq
def Zdj : ZbT := ⟨none, Sl.nil⟩
instance : Inhabited ZbT := ⟨Zdj⟩
def ZbE : Cod ZbT := (cP.pair cL).iso (fun x => (x.addr, x.buf)) (fun p => ⟨p.1, p.2⟩) (fun _ => rfl) (fun _ => rfl)
theorem Zd1 (x : ZbT) : At (ZbE.enc x) 0 (cP.enc x.addr) := At.fst
theorem ZfJ (x : ZbT) (y : (Option Addr)) : Upd (ZbE.enc x) 0 (cP.enc y) (ZbE.enc (⟨y, x.buf⟩ : ZbT)) := Upd.fst
theorem Zbd (x : ZbT) : At (ZbE.enc x) 1 (cL.enc x.buf) := At.last
theorem Zd5 (x : ZbT) (y : Sl) : Upd (ZbE.enc x) 1 (cL.enc y) (ZbE.enc (⟨x.addr, y⟩ : ZbT)) := Upd.last
structure Zaw where
 s : ByteArray
 at_ : Int
 deriving DecidableEq
def ZbM : Zaw := ⟨ByteArray.empty, 0⟩
instance : Inhabited Zaw := ⟨ZbM⟩
def ZaJ : Cod Zaw := (cS.pair (cI .i64)).iso (fun x => (x.s, x.at_)) (fun p => ⟨p.1, p.2⟩) (fun _ => rfl) (fun _ => rfl)
theorem ZaZ (x : Zaw) : At (ZaJ.enc x) 0 (cS.enc x.s) := At.fst
theorem Zgh (x : Zaw) (y : ByteArray) : Upd (ZaJ.enc x) 0 (cS.enc y) (ZaJ.enc (⟨y, x.at_⟩ : Zaw)) := Upd.fst
theorem Zbh (x : Zaw) : At (ZaJ.enc x) 1 ((cI .i64).enc x.at_) := At.last
theorem Zfp (x : Zaw) (y : Int) : Upd (ZaJ.enc x) 1 ((cI .i64).enc y) (ZaJ.enc (⟨x.s, y⟩ : Zaw)) := Upd.last
structure Zbo where
 why : Int
 at_ : Int
 deriving DecidableEq
def Zh8 : Zbo := ⟨0, 0⟩
instance : Inhabited Zbo := ⟨Zh8⟩
def Za6 : Cod Zbo := ((cI .i64).pair (cI .i64)).iso (fun x => (x.why, x.at_)) (fun p => ⟨p.1, p.2⟩) (fun _ => rfl) (fun _ => rfl)
theorem Zdo (x : Zbo) : At (Za6.enc x) 0 ((cI .i64).enc x.why) := At.fst
theorem Za8 (x : Zbo) (y : Int) : Upd (Za6.enc x) 0 ((cI .i64).enc y) (Za6.enc (⟨y, x.at_⟩ : Zbo)) := Upd.fst
theorem Zdp (x : Zbo) : At (Za6.enc x) 1 ((cI .i64).enc x.at_) := At.last
theorem Za9 (x : Zbo) (y : Int) : Upd (Za6.enc x) 1 ((cI .i64).enc y) (Za6.enc (⟨x.why, y⟩ : Zbo)) := Upd.last
structure ZcH where
 s : ByteArray
 at_ : Int
 groups : Sl
 gap : Int
 deriving DecidableEq
def Zgk : ZcH := ⟨ByteArray.empty, 0, Sl.nil, 0⟩
instance : Inhabited ZcH := ⟨Zgk⟩
def Zb5 : Cod ZcH := (cS.pair ((cI .i64).pair (cL.pair (cI .i64)))).iso (fun x => (x.s, x.at_, x.groups, x.gap)) (fun p => ⟨p.1, p.2.1, p.2.2.1, p.2.2.2⟩) (fun _ => rfl) (fun _ => rfl)
theorem ZbL (x : ZcH) : At (Zb5.enc x) 0 (cS.enc x.s) := At.fst
theorem Zlr (x : ZcH) (y : ByteArray) : Upd (Zb5.enc x) 0 (cS.enc y) (Zb5.enc (⟨y, x.at_, x.groups, x.gap⟩ : ZcH)) := Upd.fst
theorem ZbW (x : ZcH) : At (Zb5.enc x) 1 ((cI .i64).enc x.at_) := At.snd (At.fst)
theorem ZeL (x : ZcH) (y : Int) : Upd (Zb5.enc x) 1 ((cI .i64).enc y) (Zb5.enc (⟨x.s, y, x.groups, x.gap⟩ : ZcH)) := Upd.snd (Upd.fst)
theorem Zbc (x : ZcH) : At (Zb5.enc x) 2 (cL.enc x.groups) := At.snd (At.snd (At.fst))
theorem ZdZ (x : ZcH) (y : Sl) : Upd (Zb5.enc x) 2 (cL.enc y) (Zb5.enc (⟨x.s, x.at_, y, x.gap⟩ : ZcH)) := Upd.snd (Upd.snd (Upd.fst))
theorem Zcs (x : ZcH) : At (Zb5.enc x) 3 ((cI .i64).enc x.gap) := At.snd (At.snd (At.last))
theorem Zgj (x : ZcH) (y : Int) : Upd (Zb5.enc x) 3 ((cI .i64).enc y) (Zb5.enc (⟨x.s, x.at_, x.groups, y⟩ : ZcH)) := Upd.snd (Upd.snd (Upd.last))
structure ZaY where
 l : Sl
 i : Int
 end_ : Int
 rule : Zap
 err : Int
 at_ : Int
 deriving DecidableEq
def Zc5 : ZaY := ⟨Sl.nil, 0, 0, Zal, 0, 0⟩
instance : Inhabited ZaY := ⟨Zc5⟩
def ZaW : Cod ZaY := (cL.pair ((cI .i64).pair ((cI .i64).pair (Zao.pair ((cI .i64).pair (cI .i64)))))).iso (fun x => (x.l, x.i, x.end_, x.rule, x.err, x.at_)) (fun p => ⟨p.1, p.2.1, p.2.2.1, p.2.2.2.1, p.2.2.2.2.1, p.2.2.2.2.2⟩) (fun _ => rfl) (fun _ => rfl)
theorem ZbF (x : ZaY) : At (ZaW.enc x) 0 (cL.enc x.l) := At.fst
theorem Zh5 (x : ZaY) (y : Sl) : Upd (ZaW.enc x) 0 (cL.enc y) (ZaW.enc (⟨y, x.i, x.end_, x.rule, x.err, x.at_⟩ : ZaY)) := Upd.fst
theorem Zba (x : ZaY) : At (ZaW.enc x) 1 ((cI .i64).enc x.i) := At.snd (At.fst)
theorem Zd9 (x : ZaY) (y : Int) : Upd (ZaW.enc x) 1 ((cI .i64).enc y) (ZaW.enc (⟨x.l, y, x.end_, x.rule, x.err, x.at_⟩ : ZaY)) := Upd.snd (Upd.fst)
theorem ZgC (x : ZaY) : At (ZaW.enc x) 2 ((cI .i64).enc x.end_) := At.snd (At.snd (At.fst))
theorem ZgB (x : ZaY) (y : Int) : Upd (ZaW.enc x) 2 ((cI .i64).enc y) (ZaW.enc (⟨x.l, x.i, y, x.rule, x.err, x.at_⟩ : ZaY)) := Upd.snd (Upd.snd (Upd.fst))
theorem Zbq (x : ZaY) : At (ZaW.enc x) 3 (Zao.enc x.rule) := At.snd (At.snd (At.snd (At.fst)))
theorem ZcI (x : ZaY) (y : Zap) : Upd (ZaW.enc x) 3 (Zao.enc y) (ZaW.enc (⟨x.l, x.i, x.end_, y, x.err, x.at_⟩ : ZaY)) := Upd.snd (Upd.snd (Upd.snd (Upd.fst)))
theorem Zc0 (x : ZaY) : At (ZaW.enc x) 19 ((cI .i64).enc x.err) := At.snd (At.snd (At.snd (At.snd (At.fst))))
theorem Zg4 (x : ZaY) (y : Int) : Upd (ZaW.enc x) 19 ((cI .i64).enc y) (ZaW.enc (⟨x.l, x.i, x.end_, x.rule, y, x.at_⟩ : ZaY)) := Upd.snd (Upd.snd (Upd.snd (Upd.snd (Upd.fst))))
theorem ZeM (x : ZaY) : At (ZaW.enc x) 20 ((cI .i64).enc x.at_) := At.snd (At.snd (At.snd (At.snd (At.last))))
theorem Zg5 (x : ZaY) (y : Int) : Upd (ZaW.enc x) 20 ((cI .i64).enc y) (ZaW.enc (⟨x.l, x.i, x.end_, x.rule, x.err, y⟩ : ZaY)) := Upd.snd (Upd.snd (Upd.snd (Upd.snd (Upd.last))))
theorem Ty3 : Ty Tryd.prog 3 (cI .i64) 0 := ⟨by kernel_rfl, by kernel_rfl⟩
theorem Ty4 : Ty Tryd.prog 4 cB false := ⟨by kernel_rfl, by kernel_rfl⟩
theorem Ty5 : Ty Tryd.prog 5 (cI .u8) 0 := ⟨by kernel_rfl, by kernel_rfl⟩
theorem Ty9 : Ty Tryd.prog 9 cS ByteArray.empty := ⟨by kernel_rfl, by kernel_rfl⟩
theorem Ty22 : Ty Tryd.prog 22 cL Sl.nil := ⟨by kernel_rfl, by kernel_rfl⟩
theorem Ty23 : Ty Tryd.prog 23 cL Sl.nil := ⟨by kernel_rfl, by kernel_rfl⟩
theorem Ty25 : Ty Tryd.prog 25 ZaF ZaC := ⟨by kernel_rfl, by kernel_rfl⟩
theorem Ty27 : Ty Tryd.prog 27 Zao Zal := ⟨by kernel_rfl, by kernel_rfl⟩
theorem Ty28 : Ty Tryd.prog 28 (cI .i64) 0 := ⟨by kernel_rfl, by kernel_rfl⟩
theorem Ty45 : Ty Tryd.prog 45 cL Sl.nil := ⟨by kernel_rfl, by kernel_rfl⟩
theorem Ty50 : Ty Tryd.prog 50 ZaW Zc5 := ⟨by kernel_rfl, by kernel_rfl⟩
theorem Ty53 : Ty Tryd.prog 53 ZaJ ZbM := ⟨by kernel_rfl, by kernel_rfl⟩
theorem Ty57 : Ty Tryd.prog 57 ((cI .u8).arr 16) (Vec.rep 16 0) := ⟨by kernel_rfl, by kernel_rfl⟩
theorem Ty59 : Ty Tryd.prog 59 Za0 Zb0 := ⟨by kernel_rfl, by kernel_rfl⟩
theorem Ty61 : Ty Tryd.prog 61 Zau Za4 := ⟨by kernel_rfl, by kernel_rfl⟩
theorem Ty64 : Ty Tryd.prog 64 ZaS Zfs := ⟨by kernel_rfl, by kernel_rfl⟩
theorem Ty65 : Ty Tryd.prog 65 cL Sl.nil := ⟨by kernel_rfl, by kernel_rfl⟩
theorem Ty80 : Ty Tryd.prog 80 cP none := ⟨by kernel_rfl, by kernel_rfl⟩
theorem Ty81 : Ty Tryd.prog 81 cL Sl.nil := ⟨by kernel_rfl, by kernel_rfl⟩
theorem Ty83 : Ty Tryd.prog 83 ZbE Zdj := ⟨by kernel_rfl, by kernel_rfl⟩
theorem Zrz : Ty Tryd.prog 102 ((cI .u8).arr 12) (Vec.rep 12 0) := ⟨by kernel_rfl, by kernel_rfl⟩
theorem Ztr : Ty Tryd.prog 103 ((cI .i64).arr 8) (Vec.rep 8 0) := ⟨by kernel_rfl, by kernel_rfl⟩
theorem Zh7 : Ty Tryd.prog 107 cL Sl.nil := ⟨by kernel_rfl, by kernel_rfl⟩
theorem ZtS : Ty Tryd.prog 115 ((cI .u8).arr 24) (Vec.rep 24 0) := ⟨by kernel_rfl, by kernel_rfl⟩
theorem ZtR : Ty Tryd.prog 116 (cI .u64) 0 := ⟨by kernel_rfl, by kernel_rfl⟩
theorem ZhF : Ty Tryd.prog 131 Za6 Zh8 := ⟨by kernel_rfl, by kernel_rfl⟩
theorem ZtQ : Ty Tryd.prog 135 ((cI .u8).arr 65) (Vec.rep 65 0) := ⟨by kernel_rfl, by kernel_rfl⟩
theorem ZfK : Ty Tryd.prog 137 ((cI .u8).arr 4) (Vec.rep 4 0) := ⟨by kernel_rfl, by kernel_rfl⟩
theorem ZtP : Ty Tryd.prog 142 Zb5 Zgk := ⟨by kernel_rfl, by kernel_rfl⟩
theorem F6 : Fun Tryd.prog 6 Tryd.f6 := ⟨Tryd.func6, by kernel_rfl, by kernel_rfl⟩
theorem F7 : Fun Tryd.prog 7 Tryd.f7 := ⟨Tryd.func7, by kernel_rfl, by kernel_rfl⟩
theorem F8 : Fun Tryd.prog 8 Tryd.f8 := ⟨Tryd.func8, by kernel_rfl, by kernel_rfl⟩
theorem F9 : Fun Tryd.prog 9 Tryd.f9 := ⟨Tryd.func9, by kernel_rfl, by kernel_rfl⟩
theorem F10 : Fun Tryd.prog 10 Tryd.f10 := ⟨Tryd.func10, by kernel_rfl, by kernel_rfl⟩
theorem F11 : Fun Tryd.prog 11 Tryd.f11 := ⟨Tryd.func11, by kernel_rfl, by kernel_rfl⟩
theorem F12 : Fun Tryd.prog 12 Tryd.f12 := ⟨Tryd.func12, by kernel_rfl, by kernel_rfl⟩
theorem F13 : Fun Tryd.prog 13 Tryd.f13 := ⟨Tryd.func13, by kernel_rfl, by kernel_rfl⟩
theorem F14 : Fun Tryd.prog 14 Tryd.f14 := ⟨Tryd.func14, by kernel_rfl, by kernel_rfl⟩
theorem F15 : Fun Tryd.prog 15 Tryd.f15 := ⟨Tryd.func15, by kernel_rfl, by kernel_rfl⟩
theorem F16 : Fun Tryd.prog 16 Tryd.f16 := ⟨Tryd.func16, by kernel_rfl, by kernel_rfl⟩
theorem F17 : Fun Tryd.prog 17 Tryd.f17 := ⟨Tryd.func17, by kernel_rfl, by kernel_rfl⟩
theorem F18 : Fun Tryd.prog 18 Tryd.f18 := ⟨Tryd.func18, by kernel_rfl, by kernel_rfl⟩
theorem F19 : Fun Tryd.prog 19 Tryd.f19 := ⟨Tryd.func19, by kernel_rfl, by kernel_rfl⟩
theorem F20 : Fun Tryd.prog 20 Tryd.f20 := ⟨Tryd.func20, by kernel_rfl, by kernel_rfl⟩
theorem F21 : Fun Tryd.prog 21 Tryd.f21 := ⟨Tryd.func21, by kernel_rfl, by kernel_rfl⟩
theorem F22 : Fun Tryd.prog 22 Tryd.f22 := ⟨Tryd.func22, by kernel_rfl, by kernel_rfl⟩
theorem F23 : Fun Tryd.prog 23 Tryd.f23 := ⟨Tryd.func23, by kernel_rfl, by kernel_rfl⟩
theorem F24 : Fun Tryd.prog 24 Tryd.f24 := ⟨Tryd.func24, by kernel_rfl, by kernel_rfl⟩
theorem F25 : Fun Tryd.prog 25 Tryd.f25 := ⟨Tryd.func25, by kernel_rfl, by kernel_rfl⟩
theorem F26 : Fun Tryd.prog 26 Tryd.f26 := ⟨Tryd.func26, by kernel_rfl, by kernel_rfl⟩
theorem F27 : Fun Tryd.prog 27 Tryd.f27 := ⟨Tryd.func27, by kernel_rfl, by kernel_rfl⟩
theorem F28 : Fun Tryd.prog 28 Tryd.f28 := ⟨Tryd.func28, by kernel_rfl, by kernel_rfl⟩
theorem F29 : Fun Tryd.prog 29 Tryd.f29 := ⟨Tryd.func29, by kernel_rfl, by kernel_rfl⟩
theorem F30 : Fun Tryd.prog 30 Tryd.f30 := ⟨Tryd.func30, by kernel_rfl, by kernel_rfl⟩
theorem F31 : Fun Tryd.prog 31 Tryd.f31 := ⟨Tryd.func31, by kernel_rfl, by kernel_rfl⟩
theorem F32 : Fun Tryd.prog 32 Tryd.f32 := ⟨Tryd.func32, by kernel_rfl, by kernel_rfl⟩
theorem F33 : Fun Tryd.prog 33 Tryd.f33 := ⟨Tryd.func33, by kernel_rfl, by kernel_rfl⟩
theorem F34 : Fun Tryd.prog 34 Tryd.f34 := ⟨Tryd.func34, by kernel_rfl, by kernel_rfl⟩
theorem F35 : Fun Tryd.prog 35 Tryd.f35 := ⟨Tryd.func35, by kernel_rfl, by kernel_rfl⟩
theorem F36 : Fun Tryd.prog 36 Tryd.f36 := ⟨Tryd.func36, by kernel_rfl, by kernel_rfl⟩
theorem F37 : Fun Tryd.prog 37 Tryd.f37 := ⟨Tryd.func37, by kernel_rfl, by kernel_rfl⟩
theorem F38 : Fun Tryd.prog 38 Tryd.f38 := ⟨Tryd.func38, by kernel_rfl, by kernel_rfl⟩
theorem F39 : Fun Tryd.prog 39 Tryd.f39 := ⟨Tryd.func39, by kernel_rfl, by kernel_rfl⟩
theorem F40 : Fun Tryd.prog 40 Tryd.f40 := ⟨Tryd.func40, by kernel_rfl, by kernel_rfl⟩
theorem F41 : Fun Tryd.prog 41 Tryd.f41 := ⟨Tryd.func41, by kernel_rfl, by kernel_rfl⟩
theorem F42 : Fun Tryd.prog 42 Tryd.f42 := ⟨Tryd.func42, by kernel_rfl, by kernel_rfl⟩
theorem F43 : Fun Tryd.prog 43 Tryd.f43 := ⟨Tryd.func43, by kernel_rfl, by kernel_rfl⟩
theorem F44 : Fun Tryd.prog 44 Tryd.f44 := ⟨Tryd.func44, by kernel_rfl, by kernel_rfl⟩
theorem F45 : Fun Tryd.prog 45 Tryd.f45 := ⟨Tryd.func45, by kernel_rfl, by kernel_rfl⟩
theorem F46 : Fun Tryd.prog 46 Tryd.f46 := ⟨Tryd.func46, by kernel_rfl, by kernel_rfl⟩
theorem F47 : Fun Tryd.prog 47 Tryd.f47 := ⟨Tryd.func47, by kernel_rfl, by kernel_rfl⟩
theorem F48 : Fun Tryd.prog 48 Tryd.f48 := ⟨Tryd.func48, by kernel_rfl, by kernel_rfl⟩
theorem F49 : Fun Tryd.prog 49 Tryd.f49 := ⟨Tryd.func49, by kernel_rfl, by kernel_rfl⟩
theorem F50 : Fun Tryd.prog 50 Tryd.f50 := ⟨Tryd.func50, by kernel_rfl, by kernel_rfl⟩
theorem F51 : Fun Tryd.prog 51 Tryd.f51 := ⟨Tryd.func51, by kernel_rfl, by kernel_rfl⟩
theorem F52 : Fun Tryd.prog 52 Tryd.f52 := ⟨Tryd.func52, by kernel_rfl, by kernel_rfl⟩
theorem F53 : Fun Tryd.prog 53 Tryd.f53 := ⟨Tryd.func53, by kernel_rfl, by kernel_rfl⟩
theorem F54 : Fun Tryd.prog 54 Tryd.f54 := ⟨Tryd.func54, by kernel_rfl, by kernel_rfl⟩
theorem F55 : Fun Tryd.prog 55 Tryd.f55 := ⟨Tryd.func55, by kernel_rfl, by kernel_rfl⟩
theorem F56 : Fun Tryd.prog 56 Tryd.f56 := ⟨Tryd.func56, by kernel_rfl, by kernel_rfl⟩
theorem F57 : Fun Tryd.prog 57 Tryd.f57 := ⟨Tryd.func57, by kernel_rfl, by kernel_rfl⟩
theorem F58 : Fun Tryd.prog 58 Tryd.f58 := ⟨Tryd.func58, by kernel_rfl, by kernel_rfl⟩
theorem F59 : Fun Tryd.prog 59 Tryd.f59 := ⟨Tryd.func59, by kernel_rfl, by kernel_rfl⟩
theorem F60 : Fun Tryd.prog 60 Tryd.f60 := ⟨Tryd.func60, by kernel_rfl, by kernel_rfl⟩
theorem F61 : Fun Tryd.prog 61 Tryd.f61 := ⟨Tryd.func61, by kernel_rfl, by kernel_rfl⟩
theorem F62 : Fun Tryd.prog 62 Tryd.f62 := ⟨Tryd.func62, by kernel_rfl, by kernel_rfl⟩
theorem F63 : Fun Tryd.prog 63 Tryd.f63 := ⟨Tryd.func63, by kernel_rfl, by kernel_rfl⟩
theorem F64 : Fun Tryd.prog 64 Tryd.f64 := ⟨Tryd.func64, by kernel_rfl, by kernel_rfl⟩
theorem F65 : Fun Tryd.prog 65 Tryd.f65 := ⟨Tryd.func65, by kernel_rfl, by kernel_rfl⟩
theorem F66 : Fun Tryd.prog 66 Tryd.f66 := ⟨Tryd.func66, by kernel_rfl, by kernel_rfl⟩
theorem F67 : Fun Tryd.prog 67 Tryd.f67 := ⟨Tryd.func67, by kernel_rfl, by kernel_rfl⟩
theorem F68 : Fun Tryd.prog 68 Tryd.f68 := ⟨Tryd.func68, by kernel_rfl, by kernel_rfl⟩
theorem F69 : Fun Tryd.prog 69 Tryd.f69 := ⟨Tryd.func69, by kernel_rfl, by kernel_rfl⟩
theorem F72 : Fun Tryd.prog 72 Tryd.f72 := ⟨Tryd.func72, by kernel_rfl, by kernel_rfl⟩
theorem F73 : Fun Tryd.prog 73 Tryd.f73 := ⟨Tryd.func73, by kernel_rfl, by kernel_rfl⟩
theorem F74 : Fun Tryd.prog 74 Tryd.f74 := ⟨Tryd.func74, by kernel_rfl, by kernel_rfl⟩
theorem F75 : Fun Tryd.prog 75 Tryd.f75 := ⟨Tryd.func75, by kernel_rfl, by kernel_rfl⟩
theorem F76 : Fun Tryd.prog 76 Tryd.f76 := ⟨Tryd.func76, by kernel_rfl, by kernel_rfl⟩
theorem F77 : Fun Tryd.prog 77 Tryd.f77 := ⟨Tryd.func77, by kernel_rfl, by kernel_rfl⟩
theorem F78 : Fun Tryd.prog 78 Tryd.f78 := ⟨Tryd.func78, by kernel_rfl, by kernel_rfl⟩
theorem F79 : Fun Tryd.prog 79 Tryd.f79 := ⟨Tryd.func79, by kernel_rfl, by kernel_rfl⟩
theorem F80 : Fun Tryd.prog 80 Tryd.f80 := ⟨Tryd.func80, by kernel_rfl, by kernel_rfl⟩
theorem F81 : Fun Tryd.prog 81 Tryd.f81 := ⟨Tryd.func81, by kernel_rfl, by kernel_rfl⟩
theorem F82 : Fun Tryd.prog 82 Tryd.f82 := ⟨Tryd.func82, by kernel_rfl, by kernel_rfl⟩
theorem F83 : Fun Tryd.prog 83 Tryd.f83 := ⟨Tryd.func83, by kernel_rfl, by kernel_rfl⟩
theorem F84 : Fun Tryd.prog 84 Tryd.f84 := ⟨Tryd.func84, by kernel_rfl, by kernel_rfl⟩
theorem F85 : Fun Tryd.prog 85 Tryd.f85 := ⟨Tryd.func85, by kernel_rfl, by kernel_rfl⟩
theorem F86 : Fun Tryd.prog 86 Tryd.f86 := ⟨Tryd.func86, by kernel_rfl, by kernel_rfl⟩
theorem F87 : Fun Tryd.prog 87 Tryd.f87 := ⟨Tryd.func87, by kernel_rfl, by kernel_rfl⟩
theorem F89 : Fun Tryd.prog 89 Tryd.f89 := ⟨Tryd.func89, by kernel_rfl, by kernel_rfl⟩
theorem F90 : Fun Tryd.prog 90 Tryd.f90 := ⟨Tryd.func90, by kernel_rfl, by kernel_rfl⟩
theorem F91 : Fun Tryd.prog 91 Tryd.f91 := ⟨Tryd.func91, by kernel_rfl, by kernel_rfl⟩
theorem F92 : Fun Tryd.prog 92 Tryd.f92 := ⟨Tryd.func92, by kernel_rfl, by kernel_rfl⟩
theorem F93 : Fun Tryd.prog 93 Tryd.f93 := ⟨Tryd.func93, by kernel_rfl, by kernel_rfl⟩
theorem F95 : Fun Tryd.prog 95 Tryd.f95 := ⟨Tryd.func95, by kernel_rfl, by kernel_rfl⟩
theorem F96 : Fun Tryd.prog 96 Tryd.f96 := ⟨Tryd.func96, by kernel_rfl, by kernel_rfl⟩
theorem F97 : Fun Tryd.prog 97 Tryd.f97 := ⟨Tryd.func97, by kernel_rfl, by kernel_rfl⟩
theorem F98 : Fun Tryd.prog 98 Tryd.f98 := ⟨Tryd.func98, by kernel_rfl, by kernel_rfl⟩
theorem F99 : Fun Tryd.prog 99 Tryd.f99 := ⟨Tryd.func99, by kernel_rfl, by kernel_rfl⟩
theorem F101 : Fun Tryd.prog 101 Tryd.f101 := ⟨Tryd.func101, by kernel_rfl, by kernel_rfl⟩
def str0 : ByteArray := ⟨#[48, 49, 50, 51, 52, 53, 54, 55, 56, 57, 97, 98, 99, 100, 101, 102, 103, 104, 105, 106, 107, 108, 109, 110, 111, 112, 113, 114, 115, 116, 117, 118, 119, 120, 121, 122]⟩
def str1 : ByteArray := ⟨#[48, 48, 48, 49, 48, 50, 48, 51, 48, 52, 48, 53, 48, 54, 48, 55, 48, 56, 48, 57, 49, 48, 49, 49, 49, 50, 49, 51, 49, 52, 49, 53, 49, 54, 49, 55, 49, 56, 49, 57, 50, 48, 50, 49, 50, 50, 50, 51, 50, 52, 50, 53, 50, 54, 50, 55, 50, 56, 50, 57, 51, 48, 51, 49, 51, 50, 51, 51, 51, 52, 51, 53, 51, 54, 51, 55, 51, 56, 51, 57, 52, 48, 52, 49, 52, 50, 52, 51, 52, 52, 52, 53, 52, 54, 52, 55, 52, 56, 52, 57, 53, 48, 53, 49, 53, 50, 53, 51, 53, 52, 53, 53, 53, 54, 53, 55, 53, 56, 53, 57, 54, 48, 54, 49, 54, 50, 54, 51, 54, 52, 54, 53, 54, 54, 54, 55, 54, 56, 54, 57, 55, 48, 55, 49, 55, 50, 55, 51, 55, 52, 55, 53, 55, 54, 55, 55, 55, 56, 55, 57, 56, 48, 56, 49, 56, 50, 56, 51, 56, 52, 56, 53, 56, 54, 56, 55, 56, 56, 56, 57, 57, 48, 57, 49, 57, 50, 57, 51, 57, 52, 57, 53, 57, 54, 57, 55, 57, 56, 57, 57]⟩
def str2 : ByteArray := ⟨#[0, 1, 2, 2, 3, 3, 3, 3, 4, 4, 4, 4, 4, 4, 4, 4, 5, 5, 5, 5, 5, 5, 5, 5, 5, 5, 5, 5, 5, 5, 5, 5, 6, 6, 6, 6, 6, 6, 6, 6, 6, 6, 6, 6, 6, 6, 6, 6, 6, 6, 6, 6, 6, 6, 6, 6, 6, 6, 6, 6, 6, 6, 6, 6, 7, 7, 7, 7, 7, 7, 7, 7, 7, 7, 7, 7, 7, 7, 7, 7, 7, 7, 7, 7, 7, 7, 7, 7, 7, 7, 7, 7, 7, 7, 7, 7, 7, 7, 7, 7, 7, 7, 7, 7, 7, 7, 7, 7, 7, 7, 7, 7, 7, 7, 7, 7, 7, 7, 7, 7, 7, 7, 7, 7, 7, 7, 7, 7, 8, 8, 8, 8, 8, 8, 8, 8, 8, 8, 8, 8, 8, 8, 8, 8, 8, 8, 8, 8, 8, 8, 8, 8, 8, 8, 8, 8, 8, 8, 8, 8, 8, 8, 8, 8, 8, 8, 8, 8, 8, 8, 8, 8, 8, 8, 8, 8, 8, 8, 8, 8, 8, 8, 8, 8, 8, 8, 8, 8, 8, 8, 8, 8, 8, 8, 8, 8, 8, 8, 8, 8, 8, 8, 8, 8, 8, 8, 8, 8, 8, 8, 8, 8, 8, 8, 8, 8, 8, 8, 8, 8, 8, 8, 8, 8, 8, 8, 8, 8, 8, 8, 8, 8, 8, 8, 8, 8, 8, 8, 8, 8, 8, 8, 8, 8, 8, 8, 8, 8, 8, 8, 8, 8, 8, 8, 8, 8]⟩
def str4 : ByteArray := ⟨#[116, 99, 112]⟩
def str5 : ByteArray := ⟨#[117, 100, 112]⟩
def str6 : ByteArray := ⟨#[105, 99, 109, 112]⟩
def str7 : ByteArray := ⟨#[105, 99, 109, 112, 54]⟩
def str8 : ByteArray := ⟨#[32]⟩
def str9 : ByteArray := ⟨#[32, 112, 114, 111, 116, 111, 32]⟩
def ZsT : ByteArray := ⟨#[32, 97, 110, 121]⟩
def ZsS : ByteArray := ⟨#[46]⟩
def Zr2 : ByteArray := ⟨#[58]⟩
def Zol : ByteArray := ⟨#[58, 58, 102, 102, 102, 102, 58]⟩
def ZhK : ByteArray := ⟨#[58, 58]⟩
def ZkN : ByteArray := ⟨#[47]⟩
def ZgO : ByteArray := ⟨#[45]⟩
def ZkM : ByteArray := ⟨#[97, 110, 121]⟩
def ZiV : ByteArray := ⟨#[44]⟩
def ZlH : ByteArray := ⟨#[110, 111, 116, 32]⟩
def ZmO : ByteArray := ⟨#[32, 112, 111, 114, 116, 32]⟩
def ZlG : ByteArray := ⟨#[32, 99, 108, 97, 115, 115, 32]⟩
def ZlF : ByteArray := ⟨#[32, 111, 110, 32, 112]⟩
def ZlE : ByteArray := ⟨#[32, 118, 105, 100, 32]⟩
def ZmN : ByteArray := ⟨#[102, 114, 111, 109]⟩
def Zpe : ByteArray := ⟨#[116, 111]⟩
def Zis : ByteArray := ⟨#[33]⟩
def ZlD : ByteArray := ⟨#[32, 102, 108, 97, 103, 115, 32]⟩
def ZjL : ByteArray := ⟨#[32, 116, 121, 112, 101, 32]⟩
def ZkL : ByteArray := ⟨#[32, 112, 105, 101, 99, 101, 115]⟩
def Zpd : ByteArray := ⟨#[112, 101, 114, 109, 105, 116, 32, 116, 99, 112, 32, 102, 114, 111, 109, 32, 49, 48, 46, 48, 46, 48, 46, 48, 47, 56, 32, 116, 111, 32, 97, 110, 121, 32, 112, 111, 114, 116, 32, 56, 48]⟩
def ZsR : ByteArray := ⟨#[112, 114, 111, 116, 111]⟩
def ZsQ : ByteArray := ⟨#[99, 108, 97, 115, 115]⟩
def Zr1 : ByteArray := ⟨#[112]⟩
def ZsP : ByteArray := ⟨#[110, 111, 116]⟩
def ZsO : ByteArray := ⟨#[112, 111, 114, 116]⟩
def Zr0 : ByteArray := ⟨#[111, 110]⟩
def ZrZ : ByteArray := ⟨#[118, 105, 100]⟩
def ZmM : ByteArray := ⟨#[102, 108, 97, 103, 115]⟩
def ZmL : ByteArray := ⟨#[116, 121, 112, 101]⟩
def ZrY : ByteArray := ⟨#[112, 105, 101, 99, 101, 115]⟩
theorem Eq5 : EqT Tryd.prog 5 1 (cI .u8) := EqT.int Tryd.underlying5
theorem Ztv : EqT Tryd.prog 102 2 ((cI .u8).arr 12) := EqT.arr Tryd.underlying102 Ty5 Eq5
theorem Eq57 : EqT Tryd.prog 57 2 ((cI .u8).arr 16) := EqT.arr Tryd.underlying57 Ty5 Eq5
theorem Eq9 : EqT Tryd.prog 9 1 cS := EqT.string Tryd.underlying9
theorem Ck9 : CkT Tryd.prog 9 1 cS := CkT.string Tryd.underlying9
theorem Kt51 : KeyT Tryd.prog 51 9 1 cS (cI .i64) 0 := ⟨NowK.string Tryd.underlying9, Eq9, Ck9, SbC.string, by decide, ⟨3, by kernel_rfl, Ty3⟩, ⟨_, Tryd.underlying9⟩⟩
theorem Eq3 : EqT Tryd.prog 3 1 (cI .i64) := EqT.int Tryd.underlying3
theorem Eq59 : EqT Tryd.prog 59 3 Za0 := EqT.struct (D := 2) Tryd.underlying59 (by kernel_rfl) rfl (fun d hd x y w => EqFs.congr (EqFs.cons rfl Ty3 (Zdi x) (Zdi y) Eq3 (by omega) (EqFs.cons rfl Ty57 (Zc1 x) (Zc1 y) Eq57 (by omega) EqFs.nil)) (by obtain ⟨⟩ := x; obtain ⟨⟩ := y; simp))
theorem Eq61 : EqT Tryd.prog 61 4 Zau := EqT.struct (D := 3) Tryd.underlying61 (by kernel_rfl) rfl (fun d hd x y w => EqFs.congr (EqFs.cons rfl Ty59 (ZbB x) (ZbB y) Eq59 (by omega) (EqFs.cons rfl Ty3 (ZbS x) (ZbS y) Eq3 (by omega) EqFs.nil)) (by obtain ⟨⟩ := x; obtain ⟨⟩ := y; simp))
theorem Eq64 : EqT Tryd.prog 64 2 ZaS := EqT.struct (D := 1) Tryd.underlying64 (by kernel_rfl) rfl (fun d hd x y w => EqFs.congr (EqFs.cons rfl Ty3 (ZcQ x) (ZcQ y) Eq3 (by omega) (EqFs.cons rfl Ty3 (ZcR x) (ZcR y) Eq3 (by omega) EqFs.nil)) (by obtain ⟨⟩ := x; obtain ⟨⟩ := y; simp))
theorem Zc3 : Tryd.prog.follows .mixedOrders = true := by kernel_rfl
end Go.Proofs.YtpmhinidiplhiaaDoor.Lx
