/- The types of the translation that the programs use. -/
import Derived.Test.YtfgcobigollfjaaDoorProg
import Derived.Test.YtfgcobigollfjaaDoorLxShort
set_option linter.unusedVariables false
set_option linter.unusedSimpArgs false
set_option linter.unusedSectionVars false
namespace Go.Proofs.YtfgcobigollfjaaDoor.Lx
open Go Go.Proofs
structure Zdf where
 routes : (Option Nat)
 deriving DecidableEq
def Zfx : Zdf := ⟨none⟩
instance : Inhabited Zdf := ⟨Zfx⟩
def Zcs : Cod Zdf := (cM.pair Cod.unit).iso (fun x => (x.routes, ())) (fun p => ⟨p.1⟩) (fun _ => rfl) (fun _ => rfl)
theorem ZaK (x : Zdf) : At (Zcs.enc x) 0 (cM.enc x.routes) := At.fst
theorem ZeW (x : Zdf) (y : (Option Nat)) : Upd (Zcs.enc x) 0 (cM.enc y) (Zcs.enc (⟨y⟩ : Zdf)) := Upd.fst
structure ZaH where
 V : Int
 A : (Vec Int 16)
 deriving DecidableEq
def Zby : ZaH := ⟨0, (Vec.rep 16 0)⟩
instance : Inhabited ZaH := ⟨Zby⟩
def ZaI : Cod ZaH := ((cI .i64).pair ((cI .u8).arr 16)).iso (fun x => (x.V, x.A)) (fun p => ⟨p.1, p.2⟩) (fun _ => rfl) (fun _ => rfl)
theorem Zbp (x : ZaH) : At (ZaI.enc x) 0 ((cI .i64).enc x.V) := At.fst
theorem Zdv (x : ZaH) (y : Int) : Upd (ZaI.enc x) 0 ((cI .i64).enc y) (ZaI.enc (⟨y, x.A⟩ : ZaH)) := Upd.fst
theorem ZbW (x : ZaH) : At (ZaI.enc x) 1 (((cI .u8).arr 16).enc x.A) := At.last
theorem ZdX (x : ZaH) (y : (Vec Int 16)) : Upd (ZaI.enc x) 1 (((cI .u8).arr 16).enc y) (ZaI.enc (⟨x.V, y⟩ : ZaH)) := Upd.last
structure Zar where
 IP : ZaH
 Len : Int
 deriving DecidableEq
def Zbg : Zar := ⟨Zby, 0⟩
instance : Inhabited Zar := ⟨Zbg⟩
def ZaA : Cod Zar := (ZaI.pair (cI .i64)).iso (fun x => (x.IP, x.Len)) (fun p => ⟨p.1, p.2⟩) (fun _ => rfl) (fun _ => rfl)
theorem Za6 (x : Zar) : At (ZaA.enc x) 0 (ZaI.enc x.IP) := At.fst
theorem Zdc (x : Zar) (y : ZaH) : Upd (ZaA.enc x) 0 (ZaI.enc y) (ZaA.enc (⟨y, x.Len⟩ : Zar)) := Upd.fst
theorem Zbl (x : Zar) : At (ZaA.enc x) 17 ((cI .i64).enc x.Len) := At.last
theorem Zdu (x : Zar) (y : Int) : Upd (ZaA.enc x) 17 ((cI .i64).enc y) (ZaA.enc (⟨x.IP, y⟩ : Zar)) := Upd.last
structure Zab where
 Prefix : Zar
 Port : Int
 Via : ZaH
 deriving DecidableEq
def Zaa : Zab := ⟨Zbg, 0, Zby⟩
instance : Inhabited Zab := ⟨Zaa⟩
def Zac : Cod Zab := (ZaA.pair ((cI .i64).pair ZaI)).iso (fun x => (x.Prefix, x.Port, x.Via)) (fun p => ⟨p.1, p.2.1, p.2.2⟩) (fun _ => rfl) (fun _ => rfl)
theorem ZaT (x : Zab) : At (Zac.enc x) 0 (ZaA.enc x.Prefix) := At.fst
theorem ZdW (x : Zab) (y : Zar) : Upd (Zac.enc x) 0 (ZaA.enc y) (Zac.enc (⟨y, x.Port, x.Via⟩ : Zab)) := Upd.fst
theorem Zcg (x : Zab) : At (Zac.enc x) 18 ((cI .i64).enc x.Port) := At.snd (At.fst)
theorem Zc3 (x : Zab) (y : Int) : Upd (Zac.enc x) 18 ((cI .i64).enc y) (Zac.enc (⟨x.Prefix, y, x.Via⟩ : Zab)) := Upd.snd (Upd.fst)
theorem ZbQ (x : Zab) : At (Zac.enc x) 19 (ZaI.enc x.Via) := At.snd (At.last)
structure Zb3 where
 v : Int
 a : (Vec Int 16)
 bits : Int
 class_ : Int
 deriving DecidableEq
def Zb6 : Zb3 := ⟨0, (Vec.rep 16 0), 0, 0⟩
instance : Inhabited Zb3 := ⟨Zb6⟩
def Zcf : Cod Zb3 := ((cI .i64).pair (((cI .u8).arr 16).pair ((cI .i64).pair (cI .i64)))).iso (fun x => (x.v, x.a, x.bits, x.class_)) (fun p => ⟨p.1, p.2.1, p.2.2.1, p.2.2.2⟩) (fun _ => rfl) (fun _ => rfl)
theorem Zh7 (x : Zb3) : At (Zcf.enc x) 0 ((cI .i64).enc x.v) := At.fst
theorem ZfT (x : Zb3) : At (Zcf.enc x) 1 (((cI .u8).arr 16).enc x.a) := At.snd (At.fst)
theorem Zgs (x : Zb3) : At (Zcf.enc x) 17 ((cI .i64).enc x.bits) := At.snd (At.snd (At.fst))
theorem ZfS (x : Zb3) : At (Zcf.enc x) 18 ((cI .i64).enc x.class_) := At.snd (At.snd (At.last))
structure Zbn where
 s : ByteArray
 groups : Sl
 gap : Int
 p : Int
 err : Int
 at_ : Int
 deriving DecidableEq
def ZcP : Zbn := ⟨ByteArray.empty, Sl.nil, 0, 0, 0, 0⟩
instance : Inhabited Zbn := ⟨ZcP⟩
def Zbf : Cod Zbn := (cS.pair (cL.pair ((cI .i64).pair ((cI .i64).pair ((cI .i64).pair (cI .i64)))))).iso (fun x => (x.s, x.groups, x.gap, x.p, x.err, x.at_)) (fun p => ⟨p.1, p.2.1, p.2.2.1, p.2.2.2.1, p.2.2.2.2.1, p.2.2.2.2.2⟩) (fun _ => rfl) (fun _ => rfl)
theorem Zbt (x : Zbn) : At (Zbf.enc x) 0 (cS.enc x.s) := At.fst
theorem Zf9 (x : Zbn) (y : ByteArray) : Upd (Zbf.enc x) 0 (cS.enc y) (Zbf.enc (⟨y, x.groups, x.gap, x.p, x.err, x.at_⟩ : Zbn)) := Upd.fst
theorem Za5 (x : Zbn) : At (Zbf.enc x) 1 (cL.enc x.groups) := At.snd (At.fst)
theorem Zdp (x : Zbn) (y : Sl) : Upd (Zbf.enc x) 1 (cL.enc y) (Zbf.enc (⟨x.s, y, x.gap, x.p, x.err, x.at_⟩ : Zbn)) := Upd.snd (Upd.fst)
theorem Zcn (x : Zbn) : At (Zbf.enc x) 2 ((cI .i64).enc x.gap) := At.snd (At.snd (At.fst))
theorem Zdh (x : Zbn) (y : Int) : Upd (Zbf.enc x) 2 ((cI .i64).enc y) (Zbf.enc (⟨x.s, x.groups, y, x.p, x.err, x.at_⟩ : Zbn)) := Upd.snd (Upd.snd (Upd.fst))
theorem Zbb (x : Zbn) : At (Zbf.enc x) 3 ((cI .i64).enc x.p) := At.snd (At.snd (At.snd (At.fst)))
theorem ZcC (x : Zbn) (y : Int) : Upd (Zbf.enc x) 3 ((cI .i64).enc y) (Zbf.enc (⟨x.s, x.groups, x.gap, y, x.err, x.at_⟩ : Zbn)) := Upd.snd (Upd.snd (Upd.snd (Upd.fst)))
theorem ZbG (x : Zbn) : At (Zbf.enc x) 4 ((cI .i64).enc x.err) := At.snd (At.snd (At.snd (At.snd (At.fst))))
theorem Zft (x : Zbn) (y : Int) : Upd (Zbf.enc x) 4 ((cI .i64).enc y) (Zbf.enc (⟨x.s, x.groups, x.gap, x.p, y, x.at_⟩ : Zbn)) := Upd.snd (Upd.snd (Upd.snd (Upd.snd (Upd.fst))))
theorem ZdY (x : Zbn) : At (Zbf.enc x) 5 ((cI .i64).enc x.at_) := At.snd (At.snd (At.snd (At.snd (At.last))))
theorem Zfu (x : Zbn) (y : Int) : Upd (Zbf.enc x) 5 ((cI .i64).enc y) (Zbf.enc (⟨x.s, x.groups, x.gap, x.p, x.err, y⟩ : Zbn)) := Upd.snd (Upd.snd (Upd.snd (Upd.snd (Upd.last))))
structure Zas where
 T : (Option Addr)
 L : Sl
 Kept : Any
def ZaC : Zas := ⟨none, Sl.nil, ⟨.nilFunc, rfl⟩⟩
instance : Inhabited Zas := ⟨ZaC⟩
def Zau : Cod Zas := (cP.pair (cL.pair cV)).iso (fun x => (x.T, x.L, x.Kept)) (fun p => ⟨p.1, p.2.1, p.2.2⟩) (fun _ => rfl) (fun _ => rfl)
theorem ZbH (x : Zas) : At (Zau.enc x) 0 (cP.enc x.T) := At.fst
theorem ZdU (x : Zas) (y : (Option Addr)) : Upd (Zau.enc x) 0 (cP.enc y) (Zau.enc (⟨y, x.L, x.Kept⟩ : Zas)) := Upd.fst
theorem Zbk (x : Zas) : At (Zau.enc x) 1 (cL.enc x.L) := At.snd (At.fst)
theorem ZdV (x : Zas) (y : Sl) : Upd (Zau.enc x) 1 (cL.enc y) (Zau.enc (⟨x.T, y, x.Kept⟩ : Zas)) := Upd.snd (Upd.fst)
theorem ZeG (x : Zas) : At (Zau.enc x) 2 (cV.enc x.Kept) := At.snd (At.last)
theorem Zdq (x : Zas) (y : Any) : Upd (Zau.enc x) 2 (cV.enc y) (Zau.enc (⟨x.T, x.L, y⟩ : Zas)) := Upd.snd (Upd.last)
structure ZaO where
 Kind : Int
 Obj : Int
 R : Zab
 IP : ZaH
 N : Int
 deriving DecidableEq
def ZaJ : ZaO := ⟨0, 0, Zaa, Zby, 0⟩
instance : Inhabited ZaO := ⟨ZaJ⟩
def ZaF : Cod ZaO := ((cI .i64).pair ((cI .i64).pair (Zac.pair (ZaI.pair (cI .i64))))).iso (fun x => (x.Kind, x.Obj, x.R, x.IP, x.N)) (fun p => ⟨p.1, p.2.1, p.2.2.1, p.2.2.2.1, p.2.2.2.2⟩) (fun _ => rfl) (fun _ => rfl)
theorem ZcS (x : ZaO) : At (ZaF.enc x) 0 ((cI .i64).enc x.Kind) := At.fst
theorem ZbC (x : ZaO) (y : Int) : Upd (ZaF.enc x) 0 ((cI .i64).enc y) (ZaF.enc (⟨y, x.Obj, x.R, x.IP, x.N⟩ : ZaO)) := Upd.fst
theorem ZeX (x : ZaO) : At (ZaF.enc x) 1 ((cI .i64).enc x.Obj) := At.snd (At.fst)
theorem Zco (x : ZaO) : At (ZaF.enc x) 2 (Zac.enc x.R) := At.snd (At.snd (At.fst))
theorem ZcK (x : ZaO) (y : Zab) : Upd (ZaF.enc x) 2 (Zac.enc y) (ZaF.enc (⟨x.Kind, x.Obj, y, x.IP, x.N⟩ : ZaO)) := Upd.snd (Upd.snd (Upd.fst))
theorem Zca (x : ZaO) : At (ZaF.enc x) 38 (ZaI.enc x.IP) := At.snd (At.snd (At.snd (At.fst)))
theorem Ze9 (x : ZaO) (y : ZaH) : Upd (ZaF.enc x) 38 (ZaI.enc y) (ZaF.enc (⟨x.Kind, x.Obj, x.R, y, x.N⟩ : ZaO)) := Upd.snd (Upd.snd (Upd.snd (Upd.fst)))
theorem Zdi (x : ZaO) : At (ZaF.enc x) 55 ((cI .i64).enc x.N) := At.snd (At.snd (At.snd (At.last)))
structure Zb2 where
 L : Sl
 M : Sl
 deriving DecidableEq
def ZcL : Zb2 := ⟨Sl.nil, Sl.nil⟩
instance : Inhabited Zb2 := ⟨ZcL⟩
def ZbJ : Cod Zb2 := (cL.pair cL).iso (fun x => (x.L, x.M)) (fun p => ⟨p.1, p.2⟩) (fun _ => rfl) (fun _ => rfl)
theorem ZbZ (x : Zb2) : At (ZbJ.enc x) 0 (cL.enc x.L) := At.fst
theorem Zfw (x : Zb2) (y : Sl) : Upd (ZbJ.enc x) 0 (cL.enc y) (ZbJ.enc (⟨y, x.M⟩ : Zb2)) := Upd.fst
theorem ZdZ (x : Zb2) : At (ZbJ.enc x) 1 (cL.enc x.M) := At.last
theorem Zfv (x : Zb2) (y : Sl) : Upd (ZbJ.enc x) 1 (cL.enc y) (ZbJ.enc (⟨x.L, y⟩ : Zb2)) := Upd.last
theorem Ty3 : Ty Tryd.prog 3 (cI .i64) 0 := ⟨by kernel_rfl, by kernel_rfl⟩
theorem Ty4 : Ty Tryd.prog 4 cB false := ⟨by kernel_rfl, by kernel_rfl⟩
theorem Ty5 : Ty Tryd.prog 5 (cI .u8) 0 := ⟨by kernel_rfl, by kernel_rfl⟩
theorem Ty9 : Ty Tryd.prog 9 cS ByteArray.empty := ⟨by kernel_rfl, by kernel_rfl⟩
theorem Ty22 : Ty Tryd.prog 22 cP none := ⟨by kernel_rfl, by kernel_rfl⟩
theorem Ty26 : Ty Tryd.prog 26 ((cI .u8).arr 16) (Vec.rep 16 0) := ⟨by kernel_rfl, by kernel_rfl⟩
theorem Ty28 : Ty Tryd.prog 28 ZaI Zby := ⟨by kernel_rfl, by kernel_rfl⟩
theorem Ty30 : Ty Tryd.prog 30 ZaA Zbg := ⟨by kernel_rfl, by kernel_rfl⟩
theorem Ty32 : Ty Tryd.prog 32 Zac Zaa := ⟨by kernel_rfl, by kernel_rfl⟩
theorem Ty39 : Ty Tryd.prog 39 cL Sl.nil := ⟨by kernel_rfl, by kernel_rfl⟩
theorem Ty46 : Ty Tryd.prog 46 cL Sl.nil := ⟨by kernel_rfl, by kernel_rfl⟩
theorem Ty55 : Ty Tryd.prog 55 cV ⟨.nilFunc, rfl⟩ := ⟨by kernel_rfl, by kernel_rfl⟩
theorem Ty57 : Ty Tryd.prog 57 Zau ZaC := ⟨by kernel_rfl, by kernel_rfl⟩
theorem Ty61 : Ty Tryd.prog 61 ZaF ZaJ := ⟨by kernel_rfl, by kernel_rfl⟩
theorem Ty62 : Ty Tryd.prog 62 cV ⟨.nilFunc, rfl⟩ := ⟨by kernel_rfl, by kernel_rfl⟩
theorem Ty70 : Ty Tryd.prog 70 (Zau.arr 2) (Vec.rep 2 ZaC) := ⟨by kernel_rfl, by kernel_rfl⟩
theorem Ty73 : Ty Tryd.prog 73 cL Sl.nil := ⟨by kernel_rfl, by kernel_rfl⟩
theorem Ty75 : Ty Tryd.prog 75 ZbJ ZcL := ⟨by kernel_rfl, by kernel_rfl⟩
theorem Ty79 : Ty Tryd.prog 79 cM none := ⟨by kernel_rfl, by kernel_rfl⟩
theorem Ty81 : Ty Tryd.prog 81 Zcs Zfx := ⟨by kernel_rfl, by kernel_rfl⟩
theorem Zne : Ty Tryd.prog 104 Zcf Zb6 := ⟨by kernel_rfl, by kernel_rfl⟩
theorem ZnV : Ty Tryd.prog 105 (Zcf.arr 12) (Vec.rep 12 Zb6) := ⟨by kernel_rfl, by kernel_rfl⟩
theorem ZnK : Ty Tryd.prog 115 ((cI .u8).arr 12) (Vec.rep 12 0) := ⟨by kernel_rfl, by kernel_rfl⟩
theorem Zgr : Ty Tryd.prog 141 (cI .u64) 0 := ⟨by kernel_rfl, by kernel_rfl⟩
theorem ZnU : Ty Tryd.prog 156 Zbf ZcP := ⟨by kernel_rfl, by kernel_rfl⟩
theorem F9 : Fun Tryd.prog 9 Tryd.f9 := ⟨Tryd.func9, by kernel_rfl, by kernel_rfl⟩
theorem F10 : Fun Tryd.prog 10 Tryd.f10 := ⟨Tryd.func10, by kernel_rfl, by kernel_rfl⟩
theorem F12 : Fun Tryd.prog 12 Tryd.f12 := ⟨Tryd.func12, by kernel_rfl, by kernel_rfl⟩
theorem F13 : Fun Tryd.prog 13 Tryd.f13 := ⟨Tryd.func13, by kernel_rfl, by kernel_rfl⟩
theorem F14 : Fun Tryd.prog 14 Tryd.f14 := ⟨Tryd.func14, by kernel_rfl, by kernel_rfl⟩
theorem F16 : Fun Tryd.prog 16 Tryd.f16 := ⟨Tryd.func16, by kernel_rfl, by kernel_rfl⟩
theorem F17 : Fun Tryd.prog 17 Tryd.f17 := ⟨Tryd.func17, by kernel_rfl, by kernel_rfl⟩
theorem F18 : Fun Tryd.prog 18 Tryd.f18 := ⟨Tryd.func18, by kernel_rfl, by kernel_rfl⟩
theorem F19 : Fun Tryd.prog 19 Tryd.f19 := ⟨Tryd.func19, by kernel_rfl, by kernel_rfl⟩
theorem F20 : Fun Tryd.prog 20 Tryd.f20 := ⟨Tryd.func20, by kernel_rfl, by kernel_rfl⟩
theorem F21 : Fun Tryd.prog 21 Tryd.f21 := ⟨Tryd.func21, by kernel_rfl, by kernel_rfl⟩
theorem F23 : Fun Tryd.prog 23 Tryd.f23 := ⟨Tryd.func23, by kernel_rfl, by kernel_rfl⟩
theorem F24 : Fun Tryd.prog 24 Tryd.f24 := ⟨Tryd.func24, by kernel_rfl, by kernel_rfl⟩
theorem F26 : Fun Tryd.prog 26 Tryd.f26 := ⟨Tryd.func26, by kernel_rfl, by kernel_rfl⟩
theorem F27 : Fun Tryd.prog 27 Tryd.f27 := ⟨Tryd.func27, by kernel_rfl, by kernel_rfl⟩
theorem F28 : Fun Tryd.prog 28 Tryd.f28 := ⟨Tryd.func28, by kernel_rfl, by kernel_rfl⟩
theorem F29 : Fun Tryd.prog 29 Tryd.f29 := ⟨Tryd.func29, by kernel_rfl, by kernel_rfl⟩
theorem F30 : Fun Tryd.prog 30 Tryd.f30 := ⟨Tryd.func30, by kernel_rfl, by kernel_rfl⟩
theorem F31 : Fun Tryd.prog 31 Tryd.f31 := ⟨Tryd.func31, by kernel_rfl, by kernel_rfl⟩
theorem F32 : Fun Tryd.prog 32 Tryd.f32 := ⟨Tryd.func32, by kernel_rfl, by kernel_rfl⟩
theorem F33 : Fun Tryd.prog 33 Tryd.f33 := ⟨Tryd.func33, by kernel_rfl, by kernel_rfl⟩
theorem F34 : Fun Tryd.prog 34 Tryd.f34 := ⟨Tryd.func34, by kernel_rfl, by kernel_rfl⟩
theorem F35 : Fun Tryd.prog 35 Tryd.f35 := ⟨Tryd.func35, by kernel_rfl, by kernel_rfl⟩
theorem F36 : Fun Tryd.prog 36 Tryd.f36 := ⟨Tryd.func36, by kernel_rfl, by kernel_rfl⟩
theorem F37 : Fun Tryd.prog 37 Tryd.f37 := ⟨Tryd.func37, by kernel_rfl, by kernel_rfl⟩
theorem F38 : Fun Tryd.prog 38 Tryd.f38 := ⟨Tryd.func38, by kernel_rfl, by kernel_rfl⟩
theorem F40 : Fun Tryd.prog 40 Tryd.f40 := ⟨Tryd.func40, by kernel_rfl, by kernel_rfl⟩
theorem F41 : Fun Tryd.prog 41 Tryd.f41 := ⟨Tryd.func41, by kernel_rfl, by kernel_rfl⟩
theorem F42 : Fun Tryd.prog 42 Tryd.f42 := ⟨Tryd.func42, by kernel_rfl, by kernel_rfl⟩
theorem F43 : Fun Tryd.prog 43 Tryd.f43 := ⟨Tryd.func43, by kernel_rfl, by kernel_rfl⟩
theorem F44 : Fun Tryd.prog 44 Tryd.f44 := ⟨Tryd.func44, by kernel_rfl, by kernel_rfl⟩
theorem F45 : Fun Tryd.prog 45 Tryd.f45 := ⟨Tryd.func45, by kernel_rfl, by kernel_rfl⟩
theorem F46 : Fun Tryd.prog 46 Tryd.f46 := ⟨Tryd.func46, by kernel_rfl, by kernel_rfl⟩
theorem F47 : Fun Tryd.prog 47 Tryd.f47 := ⟨Tryd.func47, by kernel_rfl, by kernel_rfl⟩
theorem F48 : Fun Tryd.prog 48 Tryd.f48 := ⟨Tryd.func48, by kernel_rfl, by kernel_rfl⟩
theorem F49 : Fun Tryd.prog 49 Tryd.f49 := ⟨Tryd.func49, by kernel_rfl, by kernel_rfl⟩
theorem F50 : Fun Tryd.prog 50 Tryd.f50 := ⟨Tryd.func50, by kernel_rfl, by kernel_rfl⟩
theorem F51 : Fun Tryd.prog 51 Tryd.f51 := ⟨Tryd.func51, by kernel_rfl, by kernel_rfl⟩
theorem F52 : Fun Tryd.prog 52 Tryd.f52 := ⟨Tryd.func52, by kernel_rfl, by kernel_rfl⟩
theorem F53 : Fun Tryd.prog 53 Tryd.f53 := ⟨Tryd.func53, by kernel_rfl, by kernel_rfl⟩
theorem F54 : Fun Tryd.prog 54 Tryd.f54 := ⟨Tryd.func54, by kernel_rfl, by kernel_rfl⟩
theorem F55 : Fun Tryd.prog 55 Tryd.f55 := ⟨Tryd.func55, by kernel_rfl, by kernel_rfl⟩
theorem F56 : Fun Tryd.prog 56 Tryd.f56 := ⟨Tryd.func56, by kernel_rfl, by kernel_rfl⟩
theorem F57 : Fun Tryd.prog 57 Tryd.f57 := ⟨Tryd.func57, by kernel_rfl, by kernel_rfl⟩
theorem F58 : Fun Tryd.prog 58 Tryd.f58 := ⟨Tryd.func58, by kernel_rfl, by kernel_rfl⟩
theorem F59 : Fun Tryd.prog 59 Tryd.f59 := ⟨Tryd.func59, by kernel_rfl, by kernel_rfl⟩
theorem F60 : Fun Tryd.prog 60 Tryd.f60 := ⟨Tryd.func60, by kernel_rfl, by kernel_rfl⟩
theorem F61 : Fun Tryd.prog 61 Tryd.f61 := ⟨Tryd.func61, by kernel_rfl, by kernel_rfl⟩
theorem F62 : Fun Tryd.prog 62 Tryd.f62 := ⟨Tryd.func62, by kernel_rfl, by kernel_rfl⟩
theorem F63 : Fun Tryd.prog 63 Tryd.f63 := ⟨Tryd.func63, by kernel_rfl, by kernel_rfl⟩
theorem F64 : Fun Tryd.prog 64 Tryd.f64 := ⟨Tryd.func64, by kernel_rfl, by kernel_rfl⟩
theorem F65 : Fun Tryd.prog 65 Tryd.f65 := ⟨Tryd.func65, by kernel_rfl, by kernel_rfl⟩
theorem F66 : Fun Tryd.prog 66 Tryd.f66 := ⟨Tryd.func66, by kernel_rfl, by kernel_rfl⟩
theorem F67 : Fun Tryd.prog 67 Tryd.f67 := ⟨Tryd.func67, by kernel_rfl, by kernel_rfl⟩
theorem F68 : Fun Tryd.prog 68 Tryd.f68 := ⟨Tryd.func68, by kernel_rfl, by kernel_rfl⟩
theorem F69 : Fun Tryd.prog 69 Tryd.f69 := ⟨Tryd.func69, by kernel_rfl, by kernel_rfl⟩
theorem F70 : Fun Tryd.prog 70 Tryd.f70 := ⟨Tryd.func70, by kernel_rfl, by kernel_rfl⟩
theorem F71 : Fun Tryd.prog 71 Tryd.f71 := ⟨Tryd.func71, by kernel_rfl, by kernel_rfl⟩
theorem F72 : Fun Tryd.prog 72 Tryd.f72 := ⟨Tryd.func72, by kernel_rfl, by kernel_rfl⟩
theorem F73 : Fun Tryd.prog 73 Tryd.f73 := ⟨Tryd.func73, by kernel_rfl, by kernel_rfl⟩
theorem F74 : Fun Tryd.prog 74 Tryd.f74 := ⟨Tryd.func74, by kernel_rfl, by kernel_rfl⟩
theorem F75 : Fun Tryd.prog 75 Tryd.f75 := ⟨Tryd.func75, by kernel_rfl, by kernel_rfl⟩
theorem F76 : Fun Tryd.prog 76 Tryd.f76 := ⟨Tryd.func76, by kernel_rfl, by kernel_rfl⟩
theorem F77 : Fun Tryd.prog 77 Tryd.f77 := ⟨Tryd.func77, by kernel_rfl, by kernel_rfl⟩
theorem F79 : Fun Tryd.prog 79 Tryd.f79 := ⟨Tryd.func79, by kernel_rfl, by kernel_rfl⟩
theorem F80 : Fun Tryd.prog 80 Tryd.f80 := ⟨Tryd.func80, by kernel_rfl, by kernel_rfl⟩
theorem F81 : Fun Tryd.prog 81 Tryd.f81 := ⟨Tryd.func81, by kernel_rfl, by kernel_rfl⟩
theorem F82 : Fun Tryd.prog 82 Tryd.f82 := ⟨Tryd.func82, by kernel_rfl, by kernel_rfl⟩
theorem F83 : Fun Tryd.prog 83 Tryd.f83 := ⟨Tryd.func83, by kernel_rfl, by kernel_rfl⟩
theorem F84 : Fun Tryd.prog 84 Tryd.f84 := ⟨Tryd.func84, by kernel_rfl, by kernel_rfl⟩
theorem F85 : Fun Tryd.prog 85 Tryd.f85 := ⟨Tryd.func85, by kernel_rfl, by kernel_rfl⟩
theorem F86 : Fun Tryd.prog 86 Tryd.f86 := ⟨Tryd.func86, by kernel_rfl, by kernel_rfl⟩
theorem F87 : Fun Tryd.prog 87 Tryd.f87 := ⟨Tryd.func87, by kernel_rfl, by kernel_rfl⟩
theorem F88 : Fun Tryd.prog 88 Tryd.f88 := ⟨Tryd.func88, by kernel_rfl, by kernel_rfl⟩
theorem F89 : Fun Tryd.prog 89 Tryd.f89 := ⟨Tryd.func89, by kernel_rfl, by kernel_rfl⟩
theorem F90 : Fun Tryd.prog 90 Tryd.f90 := ⟨Tryd.func90, by kernel_rfl, by kernel_rfl⟩
theorem F91 : Fun Tryd.prog 91 Tryd.f91 := ⟨Tryd.func91, by kernel_rfl, by kernel_rfl⟩
theorem F92 : Fun Tryd.prog 92 Tryd.f92 := ⟨Tryd.func92, by kernel_rfl, by kernel_rfl⟩
theorem F93 : Fun Tryd.prog 93 Tryd.f93 := ⟨Tryd.func93, by kernel_rfl, by kernel_rfl⟩
theorem F94 : Fun Tryd.prog 94 Tryd.f94 := ⟨Tryd.func94, by kernel_rfl, by kernel_rfl⟩
theorem F95 : Fun Tryd.prog 95 Tryd.f95 := ⟨Tryd.func95, by kernel_rfl, by kernel_rfl⟩
theorem F96 : Fun Tryd.prog 96 Tryd.f96 := ⟨Tryd.func96, by kernel_rfl, by kernel_rfl⟩
theorem F97 : Fun Tryd.prog 97 Tryd.f97 := ⟨Tryd.func97, by kernel_rfl, by kernel_rfl⟩
theorem F98 : Fun Tryd.prog 98 Tryd.f98 := ⟨Tryd.func98, by kernel_rfl, by kernel_rfl⟩
theorem F99 : Fun Tryd.prog 99 Tryd.f99 := ⟨Tryd.func99, by kernel_rfl, by kernel_rfl⟩
def str0 : ByteArray := ⟨#[0, 1, 2, 2, 3, 3, 3, 3, 4, 4, 4, 4, 4, 4, 4, 4, 5, 5, 5, 5, 5, 5, 5, 5, 5, 5, 5, 5, 5, 5, 5, 5, 6, 6, 6, 6, 6, 6, 6, 6, 6, 6, 6, 6, 6, 6, 6, 6, 6, 6, 6, 6, 6, 6, 6, 6, 6, 6, 6, 6, 6, 6, 6, 6, 7, 7, 7, 7, 7, 7, 7, 7, 7, 7, 7, 7, 7, 7, 7, 7, 7, 7, 7, 7, 7, 7, 7, 7, 7, 7, 7, 7, 7, 7, 7, 7, 7, 7, 7, 7, 7, 7, 7, 7, 7, 7, 7, 7, 7, 7, 7, 7, 7, 7, 7, 7, 7, 7, 7, 7, 7, 7, 7, 7, 7, 7, 7, 7, 8, 8, 8, 8, 8, 8, 8, 8, 8, 8, 8, 8, 8, 8, 8, 8, 8, 8, 8, 8, 8, 8, 8, 8, 8, 8, 8, 8, 8, 8, 8, 8, 8, 8, 8, 8, 8, 8, 8, 8, 8, 8, 8, 8, 8, 8, 8, 8, 8, 8, 8, 8, 8, 8, 8, 8, 8, 8, 8, 8, 8, 8, 8, 8, 8, 8, 8, 8, 8, 8, 8, 8, 8, 8, 8, 8, 8, 8, 8, 8, 8, 8, 8, 8, 8, 8, 8, 8, 8, 8, 8, 8, 8, 8, 8, 8, 8, 8, 8, 8, 8, 8, 8, 8, 8, 8, 8, 8, 8, 8, 8, 8, 8, 8, 8, 8, 8, 8, 8, 8, 8, 8, 8, 8, 8, 8, 8, 8]⟩
def str1 : ByteArray := ⟨#[48, 46, 48, 46, 48, 46, 48, 47, 51, 50]⟩
def str2 : ByteArray := ⟨#[58, 58, 47, 49, 50, 56]⟩
def str3 : ByteArray := ⟨#[49, 50, 55, 46, 48, 46, 48, 46, 48, 47, 56]⟩
def str4 : ByteArray := ⟨#[58, 58, 49, 47, 49, 50, 56]⟩
def str5 : ByteArray := ⟨#[50, 50, 52, 46, 48, 46, 48, 46, 48, 47, 52]⟩
def str6 : ByteArray := ⟨#[102, 102, 48, 48, 58, 58, 47, 56]⟩
def str7 : ByteArray := ⟨#[49, 54, 57, 46, 50, 53, 52, 46, 48, 46, 48, 47, 49, 54]⟩
def str8 : ByteArray := ⟨#[102, 101, 56, 48, 58, 58, 47, 49, 48]⟩
def str9 : ByteArray := ⟨#[50, 53, 53, 46, 50, 53, 53, 46, 50, 53, 53, 46, 50, 53, 53, 47, 51, 50]⟩
def Znn : ByteArray := ⟨#[48, 46, 48, 46, 48, 46, 48, 47, 56]⟩
def Znm : ByteArray := ⟨#[50, 52, 48, 46, 48, 46, 48, 46, 48, 47, 52]⟩
def Znl : ByteArray := ⟨#[58, 58, 47, 56]⟩
theorem Eq5 : EqT Tryd.prog 5 1 (cI .u8) := EqT.int Tryd.underlying5
theorem ZnX : EqT Tryd.prog 115 2 ((cI .u8).arr 12) := EqT.arr Tryd.underlying115 Ty5 Eq5
theorem Eq3 : EqT Tryd.prog 3 1 (cI .i64) := EqT.int Tryd.underlying3
theorem Eq26 : EqT Tryd.prog 26 2 ((cI .u8).arr 16) := EqT.arr Tryd.underlying26 Ty5 Eq5
theorem Eq28 : EqT Tryd.prog 28 3 ZaI := EqT.struct (D := 2) Tryd.underlying28 (by kernel_rfl) rfl (fun d hd x y w => EqFs.congr (EqFs.cons rfl Ty3 (Zbp x) (Zbp y) Eq3 (by omega) (EqFs.cons rfl Ty26 (ZbW x) (ZbW y) Eq26 (by omega) EqFs.nil)) (by obtain ⟨⟩ := x; obtain ⟨⟩ := y; simp))
theorem Eq30 : EqT Tryd.prog 30 4 ZaA := EqT.struct (D := 3) Tryd.underlying30 (by kernel_rfl) rfl (fun d hd x y w => EqFs.congr (EqFs.cons rfl Ty28 (Za6 x) (Za6 y) Eq28 (by omega) (EqFs.cons rfl Ty3 (Zbl x) (Zbl y) Eq3 (by omega) EqFs.nil)) (by obtain ⟨⟩ := x; obtain ⟨⟩ := y; simp))
theorem Ck3 : CkT Tryd.prog 3 1 (cI .i64) := CkT.int Tryd.underlying3
theorem Ck5 : CkT Tryd.prog 5 1 (cI .u8) := CkT.int Tryd.underlying5
theorem Ck26 : CkT Tryd.prog 26 2 ((cI .u8).arr 16) := CkT.arr Tryd.underlying26 Ty5 Ck5
theorem Ck28 : CkT Tryd.prog 28 3 ZaI := CkT.struct (D := 2) Tryd.underlying28 rfl (fun d hd b x w => (CkFs.cons rfl Ty3 (Zbp x) Ck3 (by omega) (CkFs.cons rfl Ty26 (ZbW x) Ck26 (by omega) CkFs.nil)))
theorem Ck30 : CkT Tryd.prog 30 4 ZaA := CkT.struct (D := 3) Tryd.underlying30 rfl (fun d hd b x w => (CkFs.cons rfl Ty28 (Za6 x) Ck28 (by omega) (CkFs.cons rfl Ty3 (Zbl x) Ck3 (by omega) CkFs.nil)))
theorem Kt79 : KeyT Tryd.prog 79 30 4 ZaA Zac Zaa := ⟨.inl rfl, Eq30, Ck30, (SbC.iso (SbC.pair (SbC.iso (SbC.pair SbC.int (SbC.arr SbC.int))) SbC.int)), by decide, ⟨32, by kernel_rfl, Ty32⟩, ⟨_, Tryd.underlying30⟩⟩
theorem Eq32 : EqT Tryd.prog 32 5 Zac := EqT.struct (D := 4) Tryd.underlying32 (by kernel_rfl) rfl (fun d hd x y w => EqFs.congr (EqFs.cons rfl Ty30 (ZaT x) (ZaT y) Eq30 (by omega) (EqFs.cons rfl Ty3 (Zcg x) (Zcg y) Eq3 (by omega) (EqFs.cons rfl Ty28 (ZbQ x) (ZbQ y) Eq28 (by omega) EqFs.nil))) (by obtain ⟨⟩ := x; obtain ⟨⟩ := y; simp))
theorem ZbO : Tryd.prog.follows .mixedOrders = true := by kernel_rfl
end Go.Proofs.YtfgcobigollfjaaDoor.Lx
