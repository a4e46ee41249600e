/- Programs of the M-world for Go functions, each with the proof that the Go text does what it says. Printed by lxgen.py. -/
import Derived.Test.YtfnokeoldcfcoaaGreatDoorLxT
import Derived.Test.YtfnokeoldcfcoaaGreatDoorLxP0
set_option maxRecDepth 100000
set_option linter.unusedSectionVars false
set_option linter.unusedSimpArgs false
set_option linter.unusedVariables false
namespace Go.Proofs.YtfnokeoldcfcoaaGreatDoor.Lx
open SJ (sr seq block inBlock forget exit)
open Go.IntKind (wrap)
open Go Go.Proofs
variable [Zd5]
noncomputable def Zac.B : Code := bod Tryz.f45
noncomputable def Zac.cx : Fx := ⟨Tryz.prog, 45, Tryz.f45, none⟩
noncomputable def Zac.out (r_ : Zar) : Value := ZaM.val r_
noncomputable def Zac.F1 (a0 : (Option Addr)) (b1 : Nat) (b2 : Nat) : LF (Bool × Zar) Zar := ⟨[.inBlock 2, .code (c2 (c2 (c2 (c2 (c2 (c2 Zac.B))))))], c1 (c2 (c1 (c2 (c2 (c2 (c2 (c2 Zac.B))))))), fun s_ => [(0, .pointer a0), (2, .pointer (some (pt b1 0))), (3, .pointer (some (pt b2 0))), (5, .bool s_.1)], fun s_ => [(b2, ZaM.enc s_.2), (b1, ZaM.enc Za6)], (rt Zac.out)⟩
noncomputable def Zac.L1 (a0 : (Option Addr)) (s35 : Bool) (s36 : Zar) : M (LS (Bool × Zar) Zar) :=
 (if s35 = true then
   nilck a0 >>= fun p45 =>
   ld (cI .i64) (Addr.add p45 19) >>= fun x46 =>
   pure (x46 == 0)
  else
   pure false) >>= fun y47 =>
 if y47 = true then
  draw >>= fun _ =>
  ZaV a0 (s36.Ports.len : Int) >>= fun r48 =>
  slot 131 >>= fun b49 =>
  appl Zbd 131 16 Zgn s36.Ports [r48] >>= fun r50 =>
  Zbo a0 str0 >>= fun r51 =>
  pure (LS.next (r51, (⟨s36.Not, s36.Nets, r50⟩ : Zar)))
 else
  pure (LS.done s36)
theorem Zac.L1_ok (a0 : (Option Addr)) (b1 : Nat) (b2 : Nat) : LJ Zac.cx (Zac.F1 a0 b1 b2) (fun s_ => Zac.L1 a0 s_.1 s_.2) := by
 rintro ⟨s35, s36⟩
 show SJ _ _ _ _ (Zac.L1 a0 s35 s36) _
 unfold Zac.L1
 refine seq <| sr 8 <| J.j 2 5 .bool ?_ ?_ fun y47 => ?_
 ·exact J.n 1 fun p45 => J.l 1 Ty25 fun x46 => J.e 2
 ·exact J.e 6
 refine J.z 0 <| J.f ?_ ?_
 ·exact SJ.skip <| seq <| block (id := 3) <| J.R 11 ZcY <| J.k 1 0 rfl Ty31 (Za7 _) <| J.k 2 0 rfl Ty31 (Za7 _) <| J.g 1 <| OJ.call (d := 73) (g := 70) (ats := #[85, 3]) (args := [.tmp 69, .tmp 72]) (owed := [⟨1, 31, (pt b2 2), cL.val s36.Ports⟩]) F70 (Zio a0 (s36.Ports.len : Int)) fun r48 => OW.known (j := 0) (q := s36.Ports) Ty31 rfl (Za7 s36) <| OW.nil <| OJ.rowSlot (d := 74) (t := 31) (parts := [(0, .tmp 73)]) (ps := [(0, Zbd.val r48)]) (cd := Zbd) (⟨[r48], rfl⟩ : Vec ZaH 1) (owed := [⟨1, 31, (pt b2 2), cL.val s36.Ports⟩]) Zgj (Zcg.cons (cd := Zbd) (q := r48) (o := 0) rfl (Upd.arr (i := 0) (by decide) (by decide)) Zcg.nil) fun b49 => OW.known (j := 1) (q := s36.Ports) Ty31 rfl (Za7 s36) <| OW.nil <| J.p 0 0 rfl Zgj fun r50 => J.s 1 1 rfl Ty31 (ZeX _ r50) <| J.z 0 <| inBlock <| SJ.rg 3 <| J.C 1 F40 (Zcy _ _) fun r51 => J.z 1 <| forget (List.Sublist.cons _ (List.Sublist.cons_cons _ (List.Sublist.cons_cons _ List.Sublist.slnil))) <| J.o rfl
 exact exit (id := 2) (by rfl) <| sr 2 <| J.k 0 0 rfl Ty33 (At.whole _) <| J.s 0 1 rfl Ty33 (Upd.w s36) <| J.z 0 <| J.rc (.c 1 rfl Ty33 .n)
noncomputable def Zac.K1 (a0 : (Option Addr)) (j23 : Zar) : M Zar :=
 Zcn (fun s_ : (Bool × Zar) => Zac.L1 a0 s_.1 s_.2) (true, j23)
theorem Zac.K1_ok (a0 : (Option Addr)) (b1 : Nat) (b2 : Nat) (j23 : Zar) :
  SJ Zac.cx [.code (c2 (c2 (c2 (c2 (c2 Zac.B)))))] [(0, .pointer a0), (2, .pointer (some (pt b1 0))), (3, .pointer (some (pt b2 0)))] [(b2, ZaM.enc j23), (b1, ZaM.enc Za6)] (Zac.K1 a0 j23) (rt Zac.out) := by
 unfold Zac.K1
 exact seq <| sr 1 <| J.z 1 <| block (id := 2) <| J.L (Zac.L1_ok a0 b1 b2)
noncomputable def Zac.K2 (a0 : (Option Addr)) (j23 : Zar) : M Zar :=
 Zbo a0 ZwZ >>= fun r24 =>
 if ¬ (r24 = true) then
  pure j23
 else
  nilck a0 >>= fun p25 =>
  ld (cI .i64) (Addr.add (Addr.add p25 3) 3) >>= fun x26 =>
  Zel x26 >>= fun r27 =>
  if ¬ (r27 = true) then
   draw >>= fun _ =>
   nilck a0 >>= fun p53 =>
   ld cL p53 >>= fun x54 =>
   nilck a0 >>= fun p55 =>
   ld (cI .i64) (Addr.add p55 1) >>= fun x56 =>
   idx x54.a x54.len (wrap .i64 (x56 - 1)) 2 >>= fun p57 =>
   ld (cI .i64) (Addr.add p57 1) >>= fun x58 =>
   Za0 a0 165 x58 >>= fun r59 =>
   Zac.K1 a0 j23
  else
   Zac.K1 a0 j23
theorem Zac.K2_ok (a0 : (Option Addr)) (b1 : Nat) (b2 : Nat) (j23 : Zar) :
  SJ Zac.cx [.code (c2 (c2 (c2 Zac.B)))] [(0, .pointer a0), (2, .pointer (some (pt b1 0))), (3, .pointer (some (pt b2 0)))] [(b2, ZaM.enc j23), (b1, ZaM.enc Za6)] (Zac.K2 a0 j23) (rt Zac.out) := by
 unfold Zac.K2
 refine seq <| sr 3 <| J.C 1 F40 (Zcy _ _) fun r24 => J.z 1 <| J.f ?_ ?_
 ·exact sr 2 <| J.k 0 0 rfl Ty33 (At.whole _) <| J.s 0 1 rfl Ty33 (Upd.w j23) <| J.z 0 <| J.rc (.c 1 rfl Ty33 .n)
 refine SJ.skip <| seq <| sr 7 <| J.n 1 fun p25 => J.l 2 Ty3 fun x26 => J.C 0 F69 (Ziq _) fun r27 => J.z 1 <| J.f ?_ ?_
 ·exact J.R 14 ZcY <| J.n 2 fun p53 => J.l 1 Ty82 fun x54 => J.n 1 fun p55 => J.l 1 Ty3 fun x56 => J.i 1 fun p57 => J.l 1 Ty3 fun x58 => J.C 0 F21 (Zbl _ _ _) fun r59 => J.z 0 <| J.q <| Zac.K1_ok a0 b1 b2 j23
 exact SJ.skip <| J.q <| Zac.K1_ok a0 b1 b2 j23
noncomputable def Zac.K3 (a0 : (Option Addr)) (s64 : Zar) : M Zar :=
 Zac.K2 a0 s64
theorem Zac.K3_ok (a0 : (Option Addr)) (b1 : Nat) (b2 : Nat) (s64 : Zar) :
  SJ Zac.cx [.code (c2 (c2 (c2 Zac.B)))] [(0, .pointer a0), (2, .pointer (some (pt b1 0))), (3, .pointer (some (pt b2 0)))] [(b2, ZaM.enc s64), (b1, ZaM.enc Za6)] (Zac.K3 a0 s64) (rt Zac.out) := by
 unfold Zac.K3
 exact J.q <| Zac.K2_ok a0 b1 b2 s64
noncomputable def Zac.F2 (a0 : (Option Addr)) (b1 : Nat) (b2 : Nat) : LF (Bool × Zar) Zar := ⟨[.inBlock 0, .code (c2 (c2 (c2 Zac.B)))], c1 (c2 (c2 (c1 (c2 (c1 (c2 (c2 Zac.B))))))), fun s_ => [(0, .pointer a0), (2, .pointer (some (pt b1 0))), (3, .pointer (some (pt b2 0))), (4, .bool s_.1)], fun s_ => [(b2, ZaM.enc s_.2), (b1, ZaM.enc Za6)], (rt Zac.out)⟩
noncomputable def Zac.L2 (a0 : (Option Addr)) (s63 : Bool) (s64 : Zar) : M (LS (Bool × Zar) Zar) :=
 (if s63 = true then
   nilck a0 >>= fun p73 =>
   ld (cI .i64) (Addr.add p73 19) >>= fun x74 =>
   pure (x74 == 0)
  else
   pure false) >>= fun y75 =>
 if y75 = true then
  draw >>= fun _ =>
  ZaC a0 (s64.Nets.len : Int) >>= fun r76 =>
  slot 129 >>= fun b77 =>
  appl ZaI 129 32 ZbP s64.Nets [r76] >>= fun r78 =>
  Zbo a0 str0 >>= fun r79 =>
  pure (LS.next (r79, (⟨s64.Not, r78, s64.Ports⟩ : Zar)))
 else
  (Zac.K3 a0 s64) >>= fun b => pure (LS.done b)
theorem Zac.L2_ok (a0 : (Option Addr)) (b1 : Nat) (b2 : Nat) : LJ Zac.cx (Zac.F2 a0 b1 b2) (fun s_ => Zac.L2 a0 s_.1 s_.2) := by
 rintro ⟨s63, s64⟩
 show SJ _ _ _ _ (Zac.L2 a0 s63 s64) _
 unfold Zac.L2
 refine seq <| sr 8 <| J.j 2 5 .bool ?_ ?_ fun y75 => ?_
 ·exact J.n 1 fun p73 => J.l 1 Ty25 fun x74 => J.e 2
 ·exact J.e 6
 refine J.z 0 <| J.f ?_ ?_
 ·exact SJ.skip <| seq <| block (id := 1) <| J.R 11 ZcY <| J.k 1 0 rfl Ty30 (ZaF _) <| J.k 2 0 rfl Ty30 (ZaF _) <| J.g 1 <| OJ.call (d := 28) (g := 68) (ats := #[85, 3]) (args := [.tmp 24, .tmp 27]) (owed := [⟨1, 30, (pt b2 1), cL.val s64.Nets⟩]) F68 (ZjC a0 (s64.Nets.len : Int)) fun r76 => OW.known (j := 0) (q := s64.Nets) Ty30 rfl (ZaF s64) <| OW.nil <| OJ.rowSlot (d := 29) (t := 30) (parts := [(0, .tmp 28)]) (ps := [(0, ZaI.val r76)]) (cd := ZaI) (⟨[r76], rfl⟩ : Vec Zag 1) (owed := [⟨1, 30, (pt b2 1), cL.val s64.Nets⟩]) Zc5 (Zcg.cons (cd := ZaI) (q := r76) (o := 0) rfl (Upd.arr (i := 0) (by decide) (by decide)) Zcg.nil) fun b77 => OW.known (j := 1) (q := s64.Nets) Ty30 rfl (ZaF s64) <| OW.nil <| J.p 0 0 rfl Zc5 fun r78 => J.s 1 1 rfl Ty30 (Ze9 _ r78) <| J.z 0 <| inBlock <| SJ.rg 3 <| J.C 1 F40 (Zcy _ _) fun r79 => J.z 1 <| forget (List.Sublist.cons _ (List.Sublist.cons_cons _ (List.Sublist.cons_cons _ List.Sublist.slnil))) <| J.o rfl
 exact exit (id := 0) (by rfl) <| J.q <| SJ.done <| Zac.K3_ok a0 b1 b2 s64
noncomputable def Zac (a0 : (Option Addr)) : M Zar :=
 slot 33 >>= fun b1 =>
 slot 33 >>= fun b2 =>
 Zbo a0 str7 >>= fun r3 =>
 if ¬ (r3 = true) then
  Zbo a0 Zw0 >>= fun r62 =>
  Zcn (fun s_ : (Bool × Zar) => Zac.L2 a0 s_.1 s_.2) (true, (⟨r62, Za6.Nets, Za6.Ports⟩ : Zar))
 else
  Zac.K2 a0 Za6
theorem Zgc (a0 : (Option Addr)) : Ref Tryz.prog 45 [.pointer a0] (Zac a0) Zac.out := by
 refine J.Fn Tryz.func45 ?_
 unfold Zac
 refine sr 1 <| J.a 0 Ty33 fun b1 => J.z 0 <| sr 1 <| J.a 0 Ty33 fun b2 => J.z 0 <| seq <| sr 3 <| J.C 1 F40 (Zcy _ _) fun r3 => J.z 1 <| J.f ?_ ?_
 ·exact sr 4 <| J.C 1 F40 (Zcy _ _) fun r62 => J.s 1 0 rfl Ty4 (ZmZ _ r62) <| J.z 0 <| sr 1 <| J.z 1 <| block (id := 0) <| J.L (Zac.L2_ok a0 b1 b2)
 exact SJ.skip <| J.q <| Zac.K2_ok a0 b1 b2 Za6

noncomputable def Zap.B : Code := bod Tryz.f46
noncomputable def Zap.cx : Fx := ⟨Tryz.prog, 46, Tryz.f46, none⟩
noncomputable def Zap.out (r_ : Unit) : Value := .tuple #[]
noncomputable def Zap.F1 (a0 : (Option Addr)) : LF Bool Unit := ⟨[.inBlock 0], c1 (c2 Zap.B), fun s_ => [(0, .pointer a0), (2, .bool s_)], fun s_ => [], (rt Zap.out)⟩
noncomputable def Zap.K1 (a0 : (Option Addr)) : M (LS Bool Unit) :=
 Zbo a0 str0 >>= fun r99 =>
 pure (LS.next r99)
theorem Zap.K1_ok (a0 : (Option Addr)) :
  SJ Zap.cx [.inBlock 2, .inBlock 1, .code (c2 (c2 (c1 (c1 (c2 Zap.B))))), .inLoop (c1 (c1 (c2 Zap.B))), .inBlock 0] [(0, .pointer a0)] [] (Zap.K1 a0) (Zap.F1 a0).f := by
 unfold Zap.K1
 exact inBlock <| inBlock <| SJ.rg 3 <| J.C 1 F40 (Zcy _ _) fun r99 => J.z 1 <| J.o rfl
noncomputable def Zap.L1 (a0 : (Option Addr)) (s1 : Bool) : M (LS Bool Unit) :=
 (if s1 = true then
   nilck a0 >>= fun p2 =>
   ld (cI .i64) (Addr.add p2 19) >>= fun x3 =>
   pure (x3 == 0)
  else
   pure false) >>= fun y4 =>
 if y4 = true then
  Zb0 a0 >>= fun r5 =>
  slot 90 >>= fun b6 =>
  Zcp r5.s Zr7 >>= fun r7 =>
  ld cL ⟨2, 0, none⟩ >>= fun x8 =>
  Zav x8 r7.1 >>= fun r9 =>
  nilck a0 >>= fun p10 =>
  ld (cI .i64) (Addr.add p10 19) >>= fun x11 =>
  if x11 ≠ 0 then
   Zap.K1 a0
  else
   if r9 < 0 then
    Za0 a0 160 r5.at_ >>= fun r143 =>
    Zap.K1 a0
   else
    draw >>= fun _ =>
    nilck a0 >>= fun p144 =>
    ld (cI .i64) (Addr.add (Addr.add p144 3) 12) >>= fun x145 =>
    nilck a0 >>= fun p146 =>
    ld (cI .i64) (Addr.add (Addr.add p146 3) 13) >>= fun x147 =>
    chk (0 ≤ (wrap .u64 r9)) >>= fun _ =>
    if (band .i64 (Int.fdiv (bor .i64 x145 x147) (2 ^ min (Int.toNat (wrap .u64 r9)) 64)) 1) = 1 then
     Za0 a0 165 r5.at_ >>= fun r166 =>
     Zap.K1 a0
    else
     if r7.2 = true then
      nilck a0 >>= fun p175 =>
      ld (cI .i64) (Addr.add (Addr.add p175 3) 13) >>= fun x176 =>
      chk (0 ≤ (wrap .u64 r9)) >>= fun _ =>
      nilck a0 >>= fun p177 =>
      st (cI .i64) (Addr.add (Addr.add p177 3) 13) (bor .i64 x176 (wrap .i64 (1 * 2 ^ min (Int.toNat (wrap .u64 r9)) 64))) >>= fun _ =>
      Zap.K1 a0
     else
      nilck a0 >>= fun p179 =>
      ld (cI .i64) (Addr.add (Addr.add p179 3) 12) >>= fun x180 =>
      chk (0 ≤ (wrap .u64 r9)) >>= fun _ =>
      nilck a0 >>= fun p181 =>
      st (cI .i64) (Addr.add (Addr.add p181 3) 12) (bor .i64 x180 (wrap .i64 (1 * 2 ^ min (Int.toNat (wrap .u64 r9)) 64))) >>= fun _ =>
      Zap.K1 a0
 else
  pure (LS.done ())
theorem Zap.L1_ok (a0 : (Option Addr)) : LJ Zap.cx (Zap.F1 a0) (fun s_ => Zap.L1 a0 s_) := by
 rintro s1
 show SJ _ _ _ _ (Zap.L1 a0 s1) _
 unfold Zap.L1
 refine seq <| sr 8 <| J.j 2 5 .bool ?_ ?_ fun y4 => ?_
 ·exact J.n 1 fun p2 => J.l 1 Ty25 fun x3 => J.e 2
 ·exact J.e 6
 refine J.z 0 <| J.f ?_ ?_
 ·refine SJ.skip <| seq <| block (id := 1) <| sr 4 <| J.C 1 F64 (Zdu _) fun r5 => J.a 0 Ty90 fun b6 => J.s 0 0 rfl Ty90 (Upd.w r5) <| J.z 0 <| sr 8 <| J.k 1 0 rfl Ty9 (Zbq _) <| J.C 0 F67 (Zga _ _) fun r7 => J.z 5 <| sr 4 <| J.l 0 Ty22 fun x8 => J.C 1 F39 (Zdq _ _) fun r9 => J.z 1 <| block (id := 2) <| sr 6 <| J.n 1 fun p10 => J.l 1 Ty25 fun x11 => J.z 2 <| J.f ?_ ?_
  ·exact SJ.skip <| forget (List.Sublist.cons _ List.Sublist.slnil) <| J.q <| Zap.K1_ok a0
  refine sr 3 <| J.z 3 <| J.f ?_ ?_
  ·exact SJ.rg 4 <| J.k 2 0 rfl Ty3 (ZbN _) <| J.C 0 F21 (Zbl _ _ _) fun r143 => J.z 0 <| forget (List.Sublist.cons _ List.Sublist.slnil) <| J.q <| Zap.K1_ok a0
  refine seq <| J.R 17 ZcY <| J.n 1 fun p144 => J.l 2 Ty3 fun x145 => J.n 1 fun p146 => J.l 2 Ty3 fun x147 => J.g 3 <| OJ.shr (d := 67) (T := 3) (yT := 136) (y := .tmp 64) (z := .tmp 66) (k := .i64) (yk := .u64) (p := (bor .i64 x145 x147)) (q := (wrap .u64 r9)) fun hq185 => J.z 3 <| J.f ?_ ?_
  ·exact SJ.rg 4 <| J.k 2 0 rfl Ty3 (ZbN _) <| J.C 0 F21 (Zbl _ _ _) fun r166 => J.z 0 <| forget (List.Sublist.cons _ List.Sublist.slnil) <| J.q <| Zap.K1_ok a0
  refine sr 2 <| J.z 2 <| J.f ?_ ?_
  ·exact SJ.rg 13 <| J.n 1 fun p175 => J.l 2 Ty3 fun x176 => J.g 2 <| OJ.shl (d := 83) (T := 3) (yT := 136) (y := .const (.int .i64 1)) (z := .tmp 82) (k := .i64) (yk := .u64) (p := 1) (q := (wrap .u64 r9)) fun hq178 => J.n 1 fun p177 => J.w 2 Ty3 <| J.z 0 <| forget (List.Sublist.cons _ List.Sublist.slnil) <| J.q <| Zap.K1_ok a0
  exact SJ.rg 13 <| J.n 1 fun p179 => J.l 2 Ty3 fun x180 => J.g 2 <| OJ.shl (d := 35) (T := 3) (yT := 136) (y := .const (.int .i64 1)) (z := .tmp 34) (k := .i64) (yk := .u64) (p := 1) (q := (wrap .u64 r9)) fun hq182 => J.n 1 fun p181 => J.w 2 Ty3 <| J.z 0 <| forget (List.Sublist.cons _ List.Sublist.slnil) <| J.q <| Zap.K1_ok a0
 exact exit (id := 0) (by rfl) <| SJ.end_ rfl (Res.run (ys := []) .nil rfl)
noncomputable def Zap (a0 : (Option Addr)) : M Unit :=
 Zcn (fun s_ : Bool => Zap.L1 a0 s_) true
theorem Zip (a0 : (Option Addr)) : Ref Tryz.prog 46 [.pointer a0] (Zap a0) Zap.out := by
 refine J.Fn Tryz.func46 ?_
 unfold Zap
 exact sr 1 <| J.z 1 <| block (id := 0) <| J.L (Zap.L1_ok a0)

noncomputable def ZaB.B : Code := bod Tryz.f22
noncomputable def ZaB.cx : Fx := ⟨Tryz.prog, 22, Tryz.f22, none⟩
noncomputable def ZaB.out (r_ : Bool) : Value := .bool r_
noncomputable def ZaB.K1  : M Bool :=
 pure true
theorem ZaB.K1_ok  :
  SJ ZaB.cx [.inBlock 0, .code (c2 (c2 ZaB.B))] [] [] (ZaB.K1) (rt ZaB.out) := by
 unfold ZaB.K1
 exact inBlock <| sr 1 <| J.z 1 <| J.r
noncomputable def ZaB (a0 : (Option Addr)) (a1 : ByteArray) : M Bool :=
 if a1.toList = Zv3.toList then
  Zda a0 >>= fun r238 =>
  nilck a0 >>= fun p239 =>
  st (cI .i64) (Addr.add (Addr.add p239 3) 4) (wrap .i64 (r238 + 1)) >>= fun _ =>
  pure true
 else
  if a1.toList = Zv2.toList then
   ZbU a0 1 4094 >>= fun r357 =>
   nilck a0 >>= fun p358 =>
   st (cI .i64) (Addr.add (Addr.add p358 3) 5) r357 >>= fun _ =>
   pure true
  else
   if a1.toList = Zqs.toList then
    Zac a0 >>= fun r416 =>
    nilck a0 >>= fun p417 =>
    st ZaM (Addr.add (Addr.add p417 3) 6) r416 >>= fun _ =>
    ZaB.K1
   else
    if a1.toList = Zta.toList then
     Zac a0 >>= fun r445 =>
     nilck a0 >>= fun p446 =>
     st ZaM (Addr.add (Addr.add p446 3) 9) r445 >>= fun _ =>
     ZaB.K1
    else
     if a1.toList = Zqr.toList then
      Zap a0 >>= fun r459 =>
      ZaB.K1
     else
      if a1.toList = Zqq.toList then
       ZbU a0 0 255 >>= fun r465 =>
       nilck a0 >>= fun p466 =>
       st (cI .i64) (Addr.add (Addr.add p466 3) 14) (wrap .i64 (r465 + 1)) >>= fun _ =>
       ZaB.K1
      else
       if a1.toList = Zv1.toList then
        nilck a0 >>= fun p468 =>
        st cB (Addr.add (Addr.add p468 3) 15) true >>= fun _ =>
        ZaB.K1
       else
        pure false
theorem Zib (a0 : (Option Addr)) (a1 : ByteArray) : Ref Tryz.prog 22 [.pointer a0, .string a1] (ZaB a0 a1) ZaB.out := by
 refine J.Fn Tryz.func22 ?_
 unfold ZaB
 refine sr 1 <| J.z 1 <| seq <| sr 1 <| J.z 1 <| block (id := 0) <| sr 2 <| J.z 2 <| J.f ?_ ?_
 ·exact SJ.rg 8 <| J.C 2 F44 (Zi7 _) fun r238 => J.n 1 fun p239 => J.w 2 Ty3 <| J.z 0 <| inBlock <| sr 1 <| J.z 1 <| J.r
 refine sr 2 <| J.z 2 <| J.f ?_ ?_
 ·exact SJ.rg 7 <| J.C 2 F41 (ZdN _ _ _) fun r357 => J.n 0 fun p358 => J.w 2 Ty3 <| J.z 0 <| inBlock <| sr 1 <| J.z 1 <| J.r
 refine sr 2 <| J.z 2 <| J.f ?_ ?_
 ·exact SJ.rg 7 <| J.C 2 F45 (Zgc _) fun r416 => J.n 0 fun p417 => J.w 2 Ty33 <| J.z 0 <| J.q <| ZaB.K1_ok 
 refine sr 2 <| J.z 2 <| J.f ?_ ?_
 ·exact SJ.rg 7 <| J.C 2 F45 (Zgc _) fun r445 => J.n 0 fun p446 => J.w 2 Ty33 <| J.z 0 <| J.q <| ZaB.K1_ok 
 refine sr 2 <| J.z 2 <| J.f ?_ ?_
 ·exact SJ.rg 2 <| J.C 1 F46 (Zip _) fun r459 => J.z 0 <| J.q <| ZaB.K1_ok 
 refine sr 2 <| J.z 2 <| J.f ?_ ?_
 ·exact SJ.rg 8 <| J.C 2 F41 (ZdN _ _ _) fun r465 => J.n 1 fun p466 => J.w 2 Ty3 <| J.z 0 <| J.q <| ZaB.K1_ok 
 refine sr 2 <| J.z 2 <| J.f ?_ ?_
 ·exact SJ.rg 5 <| J.n 1 fun p468 => J.w 2 Ty4 <| J.z 0 <| J.q <| ZaB.K1_ok 
 exact sr 1 <| J.z 1 <| J.r

noncomputable def Zal.B : Code := bod Tryz.f6
noncomputable def Zal.cx : Fx := ⟨Tryz.prog, 6, Tryz.f6, none⟩
noncomputable def Zal.out (r_ : (Zaf × Int × Int)) : Value := .tuple #[Zah.val r_.1, .int .i64 r_.2.1, .int .i64 r_.2.2]
noncomputable def Zal.K1 (b3 : Nat) : M (Zaf × Int × Int) :=
 ld (cI .i64) (Addr.add (pt b3 0) 19) >>= fun x28 =>
 if x28 ≠ 0 then
  draw >>= fun _ =>
  ld (cI .i64) (Addr.add (pt b3 0) 19) >>= fun x31 =>
  ld (cI .i64) (Addr.add (pt b3 0) 20) >>= fun x32 =>
  same (cI .i64) (Addr.add (pt b3 0) 20) x32 >>= fun _ =>
  same (cI .i64) (Addr.add (pt b3 0) 19) x31 >>= fun _ =>
  pure (ZaL, x31, x32)
 else
  ld Zah (Addr.add (pt b3 0) 3) >>= fun x33 =>
  pure (x33, 0, 0)
theorem Zal.K1_ok (b1 : Nat) (b3 : Nat) :
  SJ Zal.cx [.code (c2 (c2 (c2 (c2 (c2 (c2 (c2 (c2 Zal.B))))))))] [(2, .pointer (some (pt b1 0))), (7, .pointer (some (pt b3 0)))] [(b1, Zah.enc ZaL)] (Zal.K1 b3) (rt Zal.out) := by
 unfold Zal.K1
 refine seq <| sr 5 <| J.l 3 Ty25 fun x28 => J.z 1 <| J.f ?_ ?_
 ·exact seq <| J.R 12 ZcY <| J.u 0 Ty35 .nil <| J.l 3 Ty25 fun x31 => J.l 3 Ty3 fun x32 => OJ.kst (y := .tmp 2) (z := .tmp 104) (cd := Zah) (u := ZaL) (j := 0) (b := b1) (o := 0) (Zah.enc ZaL) (owed := [⟨8, 3, (Addr.add (pt b3 0) 20), (cI .i64).val x32⟩, ⟨4, 25, (Addr.add (pt b3 0) 19), (cI .i64).val x31⟩]) Ty35 rfl (Upd.whole ((Cod.len _ _).trans (Cod.len _ _).symm)) rfl <| OW.same Ty3 <| OW.same Ty25 <| OW.nil <| J.z 2 <| J.rc (.c 0 rfl Ty35 .n)
 exact SJ.skip <| sr 7 <| J.l 3 Ty35 fun x33 => J.s 0 0 rfl Ty35 (Upd.w x33) <| J.z 2 <| J.rc (.c 0 rfl Ty35 .n)
noncomputable def Zal.F1 (b1 : Nat) (r2 : (Sl × Int)) (b3 : Nat) (b5 : Nat) : LF Unit (Zaf × Int × Int) := ⟨[.inBlock 0, .code (c2 (c2 (c2 (c2 (c2 (c2 (c2 (c2 Zal.B))))))))], c1 (c1 (c2 (c2 (c2 (c2 (c2 (c2 (c2 Zal.B)))))))), fun s_ => [(2, .pointer (some (pt b1 0))), (5, Sl.v r2.1), (7, .pointer (some (pt b3 0))), (8, .map (some b5))], fun s_ => [(b1, Zah.enc ZaL)], (rt Zal.out)⟩
noncomputable def Zal.K2 (b3 : Nat) (b5 : Nat) (r38 : ZaG) : M (LS Unit (Zaf × Int × Int)) :=
 draw >>= fun _ =>
 ld (cI .i64) (Addr.add (pt b3 0) 1) >>= fun x52 =>
 mset cS (cI .i64) (some b5) r38.s x52 >>= fun _ =>
 pure (LS.next ())
theorem Zal.K2_ok (b1 : Nat) (r2 : (Sl × Int)) (b3 : Nat) (b5 : Nat) (r38 : ZaG) (b39 : Nat) :
  SJ Zal.cx [.code (c2 (c2 (c2 (c1 (c2 (c1 (c1 (c1 (c2 (c2 (c2 (c2 (c2 (c2 (c2 Zal.B))))))))))))))), .inBlock 1, .inLoop (c1 (c1 (c1 (c2 (c2 (c2 (c2 (c2 (c2 (c2 Zal.B)))))))))), .inBlock 0, .code (c2 (c2 (c2 (c2 (c2 (c2 (c2 (c2 Zal.B))))))))] [(2, .pointer (some (pt b1 0))), (5, Sl.v r2.1), (7, .pointer (some (pt b3 0))), (8, .map (some b5)), (9, .pointer (some (pt b39 0)))] [(b39, Zbr.enc r38), (b1, Zah.enc ZaL)] (Zal.K2 b3 b5 r38) (Zal.F1 b1 r2 b3 b5).f := by
 unfold Zal.K2
 exact J.R 8 ZcY <| J.k 2 0 rfl Ty9 (Zbq _) <| J.l 3 Ty3 fun x52 => OJ.mset (x := .tmp 92) (y := .tmp 94) (q := .tmp 98) (owed := []) Kt88 <| OW.nil <| J.z 0 <| inBlock <| forget (List.Sublist.cons _ (List.Sublist.cons_cons _ List.Sublist.slnil)) <| J.o rfl
noncomputable def Zal.L1 (r2 : (Sl × Int)) (b3 : Nat) (b5 : Nat) : M (LS Unit (Zaf × Int × Int)) :=
 ld (cI .i64) (Addr.add (pt b3 0) 19) >>= fun x35 =>
 (if x35 = 0 then
   ld (cI .i64) (Addr.add (pt b3 0) 1) >>= fun x36 =>
   pure (decide (x36 < (r2.1.len : Int)))
  else
   pure false) >>= fun y37 =>
 if y37 = true then
  ZaO (some (pt b3 0)) >>= fun r38 =>
  slot 90 >>= fun b39 =>
  mget cS (cI .i64) 0 (some b5) r38.s >>= fun r40 =>
  (if r40.1 > 0 then
    pure true
   else
    (if r38.s.toList = Zqr.toList then
      ld (cI .i64) (Addr.add (Addr.add (pt b3 0) 3) 3) >>= fun x41 =>
      pure (x41 != 6)
     else
      pure false) >>= fun y42 =>
    pure y42) >>= fun y43 =>
  (if y43 = true then
    pure true
   else
    (if r38.s.toList = Zqq.toList then
      ld (cI .i64) (Addr.add (Addr.add (pt b3 0) 3) 3) >>= fun x44 =>
      Zep x44 >>= fun r45 =>
      pure (!r45)
     else
      pure false) >>= fun y46 =>
    pure y46) >>= fun y47 =>
  if y47 = true then
   Za0 (some (pt b3 0)) 165 r38.at_ >>= fun r49 =>
   (Zal.K1 b3) >>= fun b => pure (LS.done b)
  else
   ZaB (some (pt b3 0)) r38.s >>= fun r50 =>
   if ¬ (r50 = true) then
    Za0 (some (pt b3 0)) 160 r38.at_ >>= fun r53 =>
    Zal.K2 b3 b5 r38
   else
    Zal.K2 b3 b5 r38
 else
  (Zal.K1 b3) >>= fun b => pure (LS.done b)
theorem Zal.L1_ok (b1 : Nat) (r2 : (Sl × Int)) (b3 : Nat) (b5 : Nat) : LJ Zal.cx (Zal.F1 b1 r2 b3 b5) (fun s_ => Zal.L1 r2 b3 b5) := by
 rintro _
 show SJ _ _ _ _ (Zal.L1 r2 b3 b5) _
 unfold Zal.L1
 refine seq <| sr 14 <| J.l 3 Ty25 fun x35 => J.j 2 7 .bool ?_ ?_ fun y37 => ?_
 ·exact J.l 3 Ty3 fun x36 => J.e 4
 ·exact J.e 8
 refine J.z 0 <| J.f ?_ ?_
 ·refine SJ.skip <| block (id := 1) <| sr 4 <| J.C 1 F19 (Zdt _) fun r38 => J.a 0 Ty90 fun b39 => J.s 0 0 rfl Ty90 (Upd.w r38) <| J.z 0 <| seq <| sr 32 <| J.k 2 0 rfl Ty9 (Zbq _) <| OJ.get0 (d := 50) (x := .tmp 47) (y := .tmp 49) (owed := []) Kt88 fun r40 => OW.nil <| J.g 2 <| OJ.join (b := decide (r40.1 > 0)) [6, 7, 8, 9, 10, 11, 12, 13, 14, 15, 16, 17] [18, 19, 20, 21, 22, 23, 24, 25, 26, 27, 28, 29, 30, 31] [2, 5, 7, 8, 9, 64] (fun y43 => [(2, .pointer (some (pt b1 0))), (5, Sl.v r2.1), (7, .pointer (some (pt b3 0))), (8, .map (some b5)), (9, .pointer (some (pt b39 0))), (64, .bool y43)]) [] [] (t := 52) ze (fun hp_ => ?_) (fun hp_ => ?_) (fun _ _ _ _ _ _ h_ => h_) fun y43 => ?_
  ·exact J.g 12 <| OJ.nil ⟨(Cov.mem Cov.nil), rfl, _, rfl, by kernel_rfl⟩
  ·refine J.k 1 0 rfl Ty9 (Zbq _) <| J.g 2 <| OJ.join (b := (r38.s.toList == Zqr.toList)) [10, 11, 12, 13, 14, 15, 16] [17] [2, 5, 7, 8, 9, 52, 63] (fun y42 => [(2, .pointer (some (pt b1 0))), (5, Sl.v r2.1), (7, .pointer (some (pt b3 0))), (8, .map (some b5)), (9, .pointer (some (pt b39 0))), (52, .bool false), (63, .bool y42)]) [] [] (t := 56) zq (fun hp_ => ?_) (fun hp_ => ?_) (fun _ _ _ _ _ hq_ h_ => ⟨fun e_ he_ => (hq_ e_ he_).elim (fun h => h_.1 e_ h) (fun h => nomatch h), h_.2⟩) fun y42 => ?_
   ·exact J.l 4 Ty3 fun x41 => J.g 2 <| OJ.nil ⟨(Cov.mem Cov.nil), rfl, _, rfl, by kernel_rfl⟩
   ·exact J.g 7 <| OJ.nil ⟨(Cov.mem Cov.nil), rfl, _, rfl, by kernel_rfl⟩
   exact J.g 1 <| OJ.nil ⟨(Cov.mem Cov.nil), rfl, _, rfl, by kernel_rfl⟩
  refine J.g 1 <| OJ.join (b := y43) [19, 20, 21, 22, 23, 24, 25, 26, 27, 28, 29, 30, 31] [] [2, 5, 7, 8, 9, 78] (fun y47 => [(2, .pointer (some (pt b1 0))), (5, Sl.v r2.1), (7, .pointer (some (pt b3 0))), (8, .map (some b5)), (9, .pointer (some (pt b39 0))), (78, .bool y47)]) [] [] (t := 65) Iff.rfl (fun hp_ => ?_) (fun hp_ => ?_) (fun _ _ _ _ _ _ h_ => h_) fun y47 => ?_
  ·exact J.g 13 <| OJ.nil ⟨(Cov.mem Cov.nil), rfl, _, rfl, by kernel_rfl⟩
  ·refine J.k 1 0 rfl Ty9 (Zbq _) <| J.g 2 <| OJ.join (b := (r38.s.toList == Zqq.toList)) [23, 24, 25, 26, 27, 28, 29, 30] [31] [2, 5, 7, 8, 9, 65, 77] (fun y46 => [(2, .pointer (some (pt b1 0))), (5, Sl.v r2.1), (7, .pointer (some (pt b3 0))), (8, .map (some b5)), (9, .pointer (some (pt b39 0))), (65, .bool false), (77, .bool y46)]) [] [] (t := 69) zq (fun hp_ => ?_) (fun hp_ => ?_) (fun _ _ _ _ _ hq_ h_ => ⟨fun e_ he_ => (hq_ e_ he_).elim (fun h => h_.1 e_ h) (fun h => nomatch h), h_.2⟩) fun y46 => ?_
   ·exact J.l 4 Ty3 fun x44 => J.C 0 F20 (Zjk _) fun r45 => J.g 2 <| OJ.nil ⟨(Cov.mem Cov.nil), rfl, _, rfl, by kernel_rfl⟩
   ·exact J.g 8 <| OJ.nil ⟨(Cov.mem Cov.nil), rfl, _, rfl, by kernel_rfl⟩
   exact J.g 1 <| OJ.nil ⟨(Cov.mem Cov.nil), rfl, _, rfl, by kernel_rfl⟩
  refine J.z 0 <| J.f ?_ ?_
  ·exact sr 4 <| J.k 2 0 rfl Ty3 (ZbN _) <| J.C 0 F21 (Zbl _ _ _) fun r49 => J.z 0 <| exit (id := 0) (by rfl) <| forget (List.Sublist.cons _ (List.Sublist.cons_cons _ List.Sublist.slnil)) <| J.q <| SJ.done <| Zal.K1_ok b1 b3
  refine SJ.skip <| seq <| sr 5 <| J.k 2 0 rfl Ty9 (Zbq _) <| J.C 0 F22 (Zib _ _) fun r50 => J.z 1 <| J.f ?_ ?_
  ·exact SJ.rg 4 <| J.k 2 0 rfl Ty3 (ZbN _) <| J.C 0 F21 (Zbl _ _ _) fun r53 => J.z 0 <| J.q <| Zal.K2_ok b1 r2 b3 b5 r38 b39
  exact SJ.skip <| J.q <| Zal.K2_ok b1 r2 b3 b5 r38 b39
 exact exit (id := 0) (by rfl) <| J.q <| SJ.done <| Zal.K1_ok b1 b3
noncomputable def Zal (a0 : ByteArray) : M (Zaf × Int × Int) :=
 slot 35 >>= fun b1 =>
 if (a0.size : Int) > 1024 then
  pure (ZaL, 2, 1024)
 else
  ZaP a0 >>= fun r2 =>
  if r2.2 ≥ 0 then
   pure (ZaL, 160, r2.2)
  else
   newv 87 Zbm (⟨r2.1, ZeD.i, (a0.size : Int), ZeD.rule, ZeD.err, ZeD.at_⟩ : Zbp) >>= fun b3 =>
   ZaA (some (pt b3 0)) >>= fun r4 =>
   mkMap >>= fun b5 =>
   Zcn (fun s_ : Unit => Zal.L1 r2 b3 b5) ()
theorem Zfu (a0 : ByteArray) : Ref Tryz.prog 6 [.string a0] (Zal a0) Zal.out := by
 refine J.Fn Tryz.func6 ?_
 unfold Zal
 refine sr 3 <| J.a 0 Ty35 fun b1 => J.z 2 <| seq <| sr 3 <| J.z 3 <| J.f ?_ ?_
 ·exact sr 4 <| J.u 0 Ty35 .nil <| J.s 0 0 rfl Ty35 (Upd.w ZaL) <| J.z 2 <| J.rc (.c 0 rfl Ty35 .n)
 refine SJ.skip <| sr 7 <| J.C 1 F17 (Znq _) fun r2 => J.z 5 <| seq <| sr 2 <| J.z 2 <| J.f ?_ ?_
 ·exact sr 5 <| J.u 0 Ty35 .nil <| J.s 1 0 rfl Ty35 (Upd.w ZaL) <| J.z 2 <| J.rc (.c 0 rfl Ty35 .n)
 exact SJ.skip <| sr 6 <| J.u 3 Ty87 (.f 0 (ZkY _ r2.1) (.f 2 (Zjd _ (a0.size : Int)) .nil)) <| J.B 0 fun b3 => J.z 1 <| sr 2 <| J.C 1 F18 (Zi8 _) fun r4 => J.z 0 <| sr 2 <| OJ.mkMap (d := 30) (t := 88) (owed := []) fun b5 => OW.nil <| J.z 1 <| seq <| block (id := 0) <| J.L (Zal.L1_ok b1 r2 b3 b5)

noncomputable def ZaN.out (r_ : Sl) : Value := Sl.v r_
noncomputable def ZaN (a0 : Sl) : M Sl :=
 if a0.a = none then
  pure Sl.nil
 else
  newv 129 (ZaI.arr 0) (⟨[], rfl⟩ : Vec Zag 0) >>= fun b1 =>
  appS ZaI 129 32 ZbP (⟨some (pt b1 0), 0, 0⟩ : Sl) a0 >>= fun r2 =>
  pure r2
theorem Zbf (a0 : Sl) : Ref Tryz.prog 73 [Sl.v a0] (ZaN a0) ZaN.out := by
 refine J.Fn Tryz.func73 ?_
 unfold ZaN
 refine sr 1 <| J.z 1 <| seq <| sr 2 <| J.z 2 <| J.f ?_ ?_
 ·exact sr 1 <| J.z 1 <| J.r
 exact SJ.skip <| sr 4 <| J.N 0 Zc5 fun b1 => J.g 1 <| OJ.appS (d := 7) (t := 30) (u := 30) (so := .tmp 5) (xo := .tmp 6) (owed := []) Zc5 fun r2 => OW.nil <| J.z 1 <| J.r

noncomputable def ZbS.out (r_ : Sl) : Value := Sl.v r_
noncomputable def ZbS (a0 : Sl) : M Sl :=
 cut 18 a0 none (some (a0.len : Int)) (some (a0.len : Int)) >>= fun r1 =>
 pure r1
theorem Ze5 (a0 : Sl) : Ref Tryz.prog 72 [Sl.v a0] (ZbS a0) ZbS.out := by
 refine J.Fn Tryz.func72 ?_
 unfold ZbS
 exact sr 1 <| J.z 1 <| sr 7 <| J.cs 5 fun r1 => J.z 1 <| J.r

noncomputable def Zbk.out (r_ : Sl) : Value := Sl.v r_
noncomputable def Zbk (a0 : Sl) : M Sl :=
 if a0.a = none then
  pure Sl.nil
 else
  newv 131 (Zbd.arr 0) (⟨[], rfl⟩ : Vec ZaH 0) >>= fun b1 =>
  appS Zbd 131 16 Zgn (⟨some (pt b1 0), 0, 0⟩ : Sl) a0 >>= fun r2 =>
  pure r2
theorem ZdF (a0 : Sl) : Ref Tryz.prog 75 [Sl.v a0] (Zbk a0) Zbk.out := by
 refine J.Fn Tryz.func75 ?_
 unfold Zbk
 refine sr 1 <| J.z 1 <| seq <| sr 2 <| J.z 2 <| J.f ?_ ?_
 ·exact sr 1 <| J.z 1 <| J.r
 exact SJ.skip <| sr 4 <| J.N 0 Zgj fun b1 => J.g 1 <| OJ.appS (d := 7) (t := 31) (u := 31) (so := .tmp 5) (xo := .tmp 6) (owed := []) Zgj fun r2 => OW.nil <| J.z 1 <| J.r

noncomputable def ZbZ.out (r_ : Sl) : Value := Sl.v r_
noncomputable def ZbZ (a0 : Sl) : M Sl :=
 cut 2 a0 none (some (a0.len : Int)) (some (a0.len : Int)) >>= fun r1 =>
 pure r1
theorem Zfm (a0 : Sl) : Ref Tryz.prog 74 [Sl.v a0] (ZbZ a0) ZbZ.out := by
 refine J.Fn Tryz.func74 ?_
 unfold ZbZ
 exact sr 1 <| J.z 1 <| sr 7 <| J.cs 5 fun r1 => J.z 1 <| J.r

noncomputable def Zdi.out (r_ : Zar) : Value := ZaM.val r_
noncomputable def Zdi (a0 : Zar) : M Zar :=
 slot 33 >>= fun b1 =>
 slot 33 >>= fun b2 =>
 draw >>= fun _ =>
 ZaN a0.Nets >>= fun r3 =>
 ZbS r3 >>= fun r4 =>
 Zbk a0.Ports >>= fun r5 =>
 ZbZ r5 >>= fun r6 =>
 pure (⟨a0.Not, r4, r6⟩ : Zar)
theorem ZgK (a0 : Zar) : Ref Tryz.prog 50 [ZaM.val a0] (Zdi a0) Zdi.out := by
 refine J.Fn Tryz.func50 ?_
 unfold Zdi
 exact sr 2 <| J.b 0 ZaM a0 fun b1 => J.a 0 Ty33 fun b2 => J.z 0 <| seq <| J.D [0, 1, 4, 5, 2, 3, 6, 7, 8, 9, 10, 11] ZcY <| J.k 1 1 rfl Ty30 (ZaF _) <| J.k 1 1 rfl Ty31 (Za7 _) <| OJ.call (d := 5) (g := 73) (ats := #[30]) (args := [.tmp 4]) (owed := [⟨5, 31, (pt b1 2), cL.val a0.Ports⟩]) F73 (Zbf a0.Nets) fun r3 => OW.known (j := 1) (q := a0.Ports) Ty31 rfl (Za7 a0) <| OW.nil <| OJ.call (d := 6) (g := 72) (ats := #[30]) (args := [.tmp 5]) (owed := [⟨5, 31, (pt b1 2), cL.val a0.Ports⟩]) F72 (Ze5 r3) fun r4 => OW.known (j := 1) (q := a0.Ports) Ty31 rfl (Za7 a0) <| OW.nil <| J.C 0 F75 (ZdF _) fun r5 => J.C 0 F74 (Zfm _) fun r6 => J.s 1 1 rfl Ty30 (Ze9 _ r4) <| J.s 1 1 rfl Ty31 (ZeX _ r6) <| J.z 0 <| sr 2 <| J.k 0 1 rfl Ty33 (At.whole _) <| J.s 0 0 rfl Ty33 (Upd.w (⟨a0.Not, r4, r6⟩ : Zar)) <| J.z 0 <| J.rc (.c 0 rfl Ty33 .n)

noncomputable def Zeq.out (r_ : Zaf) : Value := Zah.val r_
noncomputable def Zeq (a0 : Zaf) : M Zaf :=
 slot 35 >>= fun b1 =>
 slot 35 >>= fun b2 =>
 draw >>= fun _ =>
 Zdi a0.From >>= fun r3 =>
 Zdi a0.To >>= fun r4 =>
 pure (⟨a0.Act, a0.Class, a0.Kind, a0.Proto, a0.In, a0.Vid, r3, r4, a0.Set, a0.Clear, a0.Type_, a0.Pieces⟩ : Zaf)
theorem Zjl (a0 : Zaf) : Ref Tryz.prog 27 [Zah.val a0] (Zeq a0) Zeq.out := by
 refine J.Fn Tryz.func27 ?_
 unfold Zeq
 exact sr 2 <| J.b 0 Zah a0 fun b1 => J.a 0 Ty35 fun b2 => J.z 0 <| seq <| J.D [0, 1, 3, 4, 2, 5, 6, 7, 8, 9] ZcY <| J.k 1 1 rfl Ty33 (Zb6 _) <| J.k 1 1 rfl Ty33 (Zb9 _) <| OJ.call (d := 5) (g := 50) (ats := #[33]) (args := [.tmp 4]) (owed := [⟨4, 33, (pt b1 9), ZaM.val a0.To⟩]) F50 (ZgK a0.From) fun r3 => OW.known (j := 1) (q := a0.To) Ty33 rfl (Zb9 a0) <| OW.nil <| J.C 0 F50 (ZgK _) fun r4 => J.s 1 1 rfl Ty33 (ZeC _ r3) <| J.s 1 1 rfl Ty33 (Ze7 _ r4) <| J.z 0 <| sr 2 <| J.k 0 1 rfl Ty35 (At.whole _) <| J.s 0 0 rfl Ty35 (Upd.w (⟨a0.Act, a0.Class, a0.Kind, a0.Proto, a0.In, a0.Vid, r3, r4, a0.Set, a0.Clear, a0.Type_, a0.Pieces⟩ : Zaf)) <| J.z 0 <| J.rc (.c 0 rfl Ty35 .n)

noncomputable def ZbO.out (r_ : Unit) : Value := .tuple #[]
noncomputable def ZbO (a0 : Bool) (a1 : Any) (a2 : Addr) : M Unit :=
 if a0 = true then
  ld cL a2 >>= fun x4 =>
  slot 109 >>= fun b5 =>
  appl cV 109 16 ⟨.nilIface, rfl⟩ x4 [a1] >>= fun r6 =>
  st cL a2 r6 >>= fun _ =>
  pure ()
 else
  pure ()
theorem Zb4 (a0 : Bool) (a1 : Any) (a2 : Addr) : Ref Tryz.prog 61 [.bool a0, a1.v, .pointer (some a2)] (ZbO a0 a1 a2) ZbO.out := by
 refine J.Fn Tryz.func61 ?_
 unfold ZbO
 refine sr 1 <| J.z 1 <| J.f ?_ ?_
 ·exact SJ.rg 5 <| J.l 0 Zq2 fun x4 => J.S 1 [a1] ZwL fun b5 => J.p 0 0 rfl ZwL fun r6 => J.w 0 Zq2 <| J.z 0 <| SJ.end_ rfl (Res.run (ys := []) .nil rfl)
 exact SJ.skip <| SJ.end_ rfl (Res.run (ys := []) .nil rfl)

noncomputable def Zer.out (r_ : (Zbw × Bool)) : Value := .tuple #[Za8.val r_.1, .bool r_.2]
noncomputable def Zer (a0 : Zat) (a1 : Bool) : M (Zbw × Bool) :=
 slot 69 >>= fun b1 =>
 slot 50 >>= fun b2 =>
 slot 50 >>= fun b3 =>
 slot 50 >>= fun b4 =>
 if a0.Kind = 1 then
  draw >>= fun _ =>
  if a1 = true then
   pure (a0.Arp.TIP, true)
  else
   pure (a0.Arp.SIP, true)
 else
  if a0.Kind = 2 then
   draw >>= fun _ =>
   if a1 = true then
    pure (a0.Ip4.Dst, true)
   else
    pure (a0.Ip4.Src, true)
  else
   if a0.Kind = 3 then
    draw >>= fun _ =>
    if a1 = true then
     pure (a0.Ip6.Dst, true)
    else
     pure (a0.Ip6.Src, true)
   else
    pure (ZcF, false)
theorem Zlz (a0 : Zat) (a1 : Bool) : Ref Tryz.prog 86 [Zaz.val a0, .bool a1] (Zer a0 a1) Zer.out := by
 refine J.Fn Tryz.func86 ?_
 unfold Zer
 refine sr 3 <| J.b 0 Zaz a0 fun b1 => J.a 0 Ty50 fun b2 => J.z 1 <| sr 2 <| J.a 0 Ty50 fun b3 => J.a 0 Ty50 fun b4 => J.z 0 <| seq <| sr 2 <| J.k 1 3 rfl Ty3 (Zdn _) <| J.z 0 <| block (id := 0) <| sr 2 <| J.z 2 <| J.f ?_ ?_
 ·refine J.R 8 ZcY <| J.k 2 3 rfl Ty50 (At.trans (ZfS _) (ZnH _)) <| J.k 2 3 rfl Ty50 (At.trans (ZfS _) (Zjw _)) <| OJ.kst (y := .tmp 6) (z := .tmp 15) (cd := Za8) (u := a0.Arp.SIP) (j := 1) (b := b3) (o := 0) (Za8.enc a0.Arp.SIP) (owed := [⟨5, 50, (pt b1 44), Za8.val a0.Arp.TIP⟩]) Ty50 rfl (Upd.whole ((Cod.len _ _).trans (Cod.len _ _).symm)) rfl <| OW.known (j := 3) (q := a0.Arp.TIP) Ty50 rfl (At.trans (ZfS a0) (Zjw a0.Arp)) <| OW.nil <| J.s 0 0 rfl Ty50 (Upd.w a0.Arp.TIP) <| J.z 0 <| inBlock <| seq <| sr 1 <| J.z 1 <| J.f ?_ ?_
  ·exact sr 3 <| J.k 0 0 rfl Ty50 (At.whole _) <| J.s 0 2 rfl Ty50 (Upd.w a0.Arp.TIP) <| J.z 1 <| J.rc (.c 2 rfl Ty50 .n)
  exact SJ.skip <| sr 3 <| J.k 0 1 rfl Ty50 (At.whole _) <| J.s 0 2 rfl Ty50 (Upd.w a0.Arp.SIP) <| J.z 1 <| J.rc (.c 2 rfl Ty50 .n)
 refine sr 2 <| J.z 2 <| J.f ?_ ?_
 ·refine J.R 8 ZcY <| J.k 2 3 rfl Ty50 (At.trans (Zcb _) (ZnF _)) <| J.k 2 3 rfl Ty50 (At.trans (Zcb _) (Zjv _)) <| OJ.kst (y := .tmp 6) (z := .tmp 23) (cd := Za8) (u := a0.Ip4.Src) (j := 1) (b := b3) (o := 0) (Za8.enc a0.Ip4.Src) (owed := [⟨5, 50, (pt b1 85), Za8.val a0.Ip4.Dst⟩]) Ty50 rfl (Upd.whole ((Cod.len _ _).trans (Cod.len _ _).symm)) rfl <| OW.known (j := 3) (q := a0.Ip4.Dst) Ty50 rfl (At.trans (Zcb a0) (Zjv a0.Ip4)) <| OW.nil <| J.s 0 0 rfl Ty50 (Upd.w a0.Ip4.Dst) <| J.z 0 <| inBlock <| seq <| sr 1 <| J.z 1 <| J.f ?_ ?_
  ·exact sr 3 <| J.k 0 0 rfl Ty50 (At.whole _) <| J.s 0 2 rfl Ty50 (Upd.w a0.Ip4.Dst) <| J.z 1 <| J.rc (.c 2 rfl Ty50 .n)
  exact SJ.skip <| sr 3 <| J.k 0 1 rfl Ty50 (At.whole _) <| J.s 0 2 rfl Ty50 (Upd.w a0.Ip4.Src) <| J.z 1 <| J.rc (.c 2 rfl Ty50 .n)
 refine sr 2 <| J.z 2 <| J.f ?_ ?_
 ·refine J.R 8 ZcY <| J.k 2 3 rfl Ty50 (At.trans (ZdB _) (ZnE _)) <| J.k 2 3 rfl Ty50 (At.trans (ZdB _) (Zju _)) <| OJ.kst (y := .tmp 6) (z := .tmp 31) (cd := Za8) (u := a0.Ip6.Src) (j := 1) (b := b3) (o := 0) (Za8.enc a0.Ip6.Src) (owed := [⟨5, 50, (pt b1 124), Za8.val a0.Ip6.Dst⟩]) Ty50 rfl (Upd.whole ((Cod.len _ _).trans (Cod.len _ _).symm)) rfl <| OW.known (j := 3) (q := a0.Ip6.Dst) Ty50 rfl (At.trans (ZdB a0) (Zju a0.Ip6)) <| OW.nil <| J.s 0 0 rfl Ty50 (Upd.w a0.Ip6.Dst) <| J.z 0 <| inBlock <| seq <| sr 1 <| J.z 1 <| J.f ?_ ?_
  ·exact sr 3 <| J.k 0 0 rfl Ty50 (At.whole _) <| J.s 0 2 rfl Ty50 (Upd.w a0.Ip6.Dst) <| J.z 1 <| J.rc (.c 2 rfl Ty50 .n)
  exact SJ.skip <| sr 3 <| J.k 0 1 rfl Ty50 (At.whole _) <| J.s 0 2 rfl Ty50 (Upd.w a0.Ip6.Src) <| J.z 1 <| J.rc (.c 2 rfl Ty50 .n)
 exact sr 3 <| J.u 0 Ty50 .nil <| J.s 0 2 rfl Ty50 (Upd.w ZcF) <| J.z 1 <| J.rc (.c 2 rfl Ty50 .n)

noncomputable def Zfl.out (r_ : Bool) : Value := .bool r_
noncomputable def Zfl (a0 : Zbw) : M Bool :=
 slot 50 >>= fun b1 =>
 ZfD a0 >>= fun r2 =>
 pure (decide (r2 > 0))
theorem Zku (a0 : Zbw) : Ref Tryz.prog 101 [Za8.val a0] (Zfl a0) Zfl.out := by
 refine J.Fn Tryz.func101 ?_
 unfold Zfl
 exact sr 2 <| J.b 0 Za8 a0 fun b1 => J.z 1 <| sr 4 <| J.k 0 0 rfl Ty50 (At.whole _) <| J.C 0 F117 (ZiK _) fun r2 => J.z 2 <| J.r

noncomputable def Zev.out (r_ : Bool) : Value := .bool r_
noncomputable def Zev (a0 : Zag) (a1 : Zbw) : M Bool :=
 slot 129 >>= fun b1 =>
 slot 50 >>= fun b2 =>
 Zcm a0 >>= fun r3 =>
 (if r3 ≠ 0 then
   pure true
  else
   Zfl a1 >>= fun r4 =>
   pure (!r4)) >>= fun y5 =>
 (if y5 = true then
   pure true
  else
   pure (a0.IP.V != a1.V)) >>= fun y6 =>
 if y6 = true then
  pure false
 else
  draw >>= fun _ =>
  ZbG a1.A a0.Len >>= fun r7 =>
  pure (eqv r7 a0.IP.A)
theorem ZlE (a0 : Zag) (a1 : Zbw) : Ref Tryz.prog 89 [ZaI.val a0, Za8.val a1] (Zev a0 a1) Zev.out := by
 refine J.Fn Tryz.func89 ?_
 unfold Zev
 refine sr 3 <| J.b 0 ZaI a0 fun b1 => J.b 0 Za8 a1 fun b2 => J.z 1 <| seq <| sr 16 <| J.k 0 1 rfl Zc5 (At.whole _) <| J.C 0 F99 (Zeu _) fun r3 => J.j 2 3 .bool ?_ ?_ fun y5 => ?_
 ·exact J.e 4
 ·exact J.k 0 0 rfl Ty50 (At.whole _) <| J.C 0 F101 (Zku _) fun r4 => J.e 2
 refine J.j 1 6 .bool ?_ ?_ fun y6 => ?_
 ·exact J.e 7
 ·exact J.k 2 1 rfl Ty3 (At.trans (ZbQ _) (Zd7 _)) <| J.k 1 0 rfl Ty3 (Zd7 _) <| J.e 2
 refine J.z 0 <| J.f ?_ ?_
 ·exact sr 1 <| J.z 1 <| J.r
 exact SJ.skip <| seq <| J.D [0, 1, 2, 3, 5, 6, 7, 4, 8, 9] ZcY <| J.k 1 0 rfl Ty48 (Zds _) <| J.k 1 1 rfl Ty3 (Zct _) <| J.k 2 1 rfl Ty48 (At.trans (ZbQ _) (Zds _)) <| OJ.call (d := 25) (g := 112) (ats := #[48, 3]) (args := [.tmp 22, .tmp 24]) (owed := [⟨7, 48, (pt b1 1), ((cI .u8).arr 16).val a0.IP.A⟩]) F112 (Zjq a1.A a0.Len) fun r7 => OW.known (j := 1) (q := a0.IP.A) Ty48 rfl (At.trans (ZbQ a0) (Zds a0.IP)) <| OW.nil <| OJ.eql (d := 29) (T := 48) (yT := 48) (y := .tmp 25) (z := .tmp 28) (cd := ((cI .u8).arr 16)) (p := r7) (q := a0.IP.A) rfl Eq48 <| J.z 1 <| J.r

noncomputable def ZcV.out (r_ : Bool) : Value := .bool r_
noncomputable def ZcV (a0 : Zag) (a1 : Addr) : M Bool :=
 slot 129 >>= fun b1 =>
 ld Za8 a1 >>= fun x2 =>
 Zev a0 x2 >>= fun r3 =>
 pure r3
theorem Zir (a0 : Zag) (a1 : Addr) : Ref Tryz.prog 88 [ZaI.val a0, .pointer (some a1)] (ZcV a0 a1) ZcV.out := by
 refine J.Fn Tryz.func88 ?_
 unfold ZcV
 exact sr 2 <| J.b 0 ZaI a0 fun b1 => J.z 1 <| sr 4 <| J.k 0 0 rfl Zc5 (At.whole _) <| J.l 0 Ty50 fun x2 => J.C 0 F89 (ZlE _ _) fun r3 => J.z 1 <| J.r

noncomputable def Zan.B : Code := bod Tryz.f111
noncomputable def Zan.cx : Fx := ⟨Tryz.prog, 111, Tryz.f111, none⟩
noncomputable def Zan.out (r_ : Int) : Value := .int .i64 r_
noncomputable def Zan.F1 (a0 : Sl) (a1v : Any) : LF Int Int := ⟨[.inBlock 0, .code (c2 (c2 Zan.B))], c1 (c2 (c1 (c2 Zan.B))), fun s_ => [(0, Sl.v a0), (1, a1v.v), (7, .int .i64 (a0.len : Int)), (8, .int .i64 s_)], fun s_ => [], (rt Zan.out)⟩
noncomputable def Zan.L1 (a0 : Sl) (a1 : Zag → M Bool) (s1 : Int) : M (LS Int Int) :=
 if s1 < (a0.len : Int) then
  idx a0.a a0.len s1 18 >>= fun p7 =>
  ld ZaI p7 >>= fun x8 =>
  a1 x8 >>= fun r9 =>
  if r9 = true then
   pure (LS.done s1)
  else
   pure (LS.next (wrap .i64 (s1 + 1)))
 else
  pure (LS.done (-1))
theorem Zan.L1_ok (a0 : Sl) (a1v : Any) (a1 : Zag → M Bool) (h_a1 : ∀ (x0_ : Zag), RefV Tryz.prog a1v.v [ZaI.val x0_] (a1 x0_) (fun r_ : Bool => .bool r_)) : LJ Zan.cx (Zan.F1 a0 a1v) (fun s_ => Zan.L1 a0 a1 s_) := by
 rintro s1
 show SJ _ _ _ _ (Zan.L1 a0 a1 s1) _
 unfold Zan.L1
 refine sr 1 <| J.z 1 <| seq <| J.f ?_ ?_
 ·refine SJ.skip <| seq <| block (id := 1) <| sr 2 <| J.z 2 <| sr 6 <| J.i 3 fun p7 => J.l 0 Zc5 fun x8 => J.v 0 (h_a1 x8) fun r9 => J.z 0 <| J.f ?_ ?_
  ·exact sr 2 <| J.z 2 <| J.r
  exact SJ.skip <| inBlock <| SJ.rg 2 <| J.z 2 <| J.o rfl
 exact exit (id := 0) (by rfl) <| sr 1 <| J.z 1 <| J.r
noncomputable def Zan (a0 : Sl) (a1 : Zag → M Bool) : M Int :=
 Zcn (fun s_ : Int => Zan.L1 a0 a1 s_) 0
theorem ZeG (a0 : Sl) (a1v : Any) (a1 : Zag → M Bool) (h_a1 : ∀ (x0_ : Zag), RefV Tryz.prog a1v.v [ZaI.val x0_] (a1 x0_) (fun r_ : Bool => .bool r_)) : Ref Tryz.prog 111 [Sl.v a0, a1v.v] (Zan a0 a1) Zan.out := by
 refine J.Fn Tryz.func111 ?_
 unfold Zan
 exact sr 1 <| J.z 1 <| seq <| sr 3 <| J.z 3 <| block (id := 0) <| J.L (Zan.L1_ok a0 a1v a1 h_a1)

noncomputable def Zbi.out (r_ : Bool) : Value := .bool r_
noncomputable def Zbi (a0 : Sl) (a1 : Zag → M Bool) : M Bool :=
 Zan a0 a1 >>= fun r1 =>
 pure (decide (r1 ≥ 0))
theorem Zej (a0 : Sl) (a1v : Any) (a1 : Zag → M Bool) (h_a1 : ∀ (x0_ : Zag), RefV Tryz.prog a1v.v [ZaI.val x0_] (a1 x0_) (fun r_ : Bool => .bool r_)) : Ref Tryz.prog 87 [Sl.v a0, a1v.v] (Zbi a0 a1) Zbi.out := by
 refine J.Fn Tryz.func87 ?_
 unfold Zbi
 exact sr 1 <| J.z 1 <| sr 5 <| J.C 2 F111 (ZeG a0 a1v a1 h_a1) fun r1 => J.z 2 <| J.r

noncomputable def Zc4.out (r_ : Bool) : Value := .bool r_
noncomputable def Zc4 (a0 : Zat) (a1 : Addr) (a2 : Addr) (a3 : Addr) : M Bool :=
 slot 69 >>= fun b1 =>
 ld cB a1 >>= fun x2 =>
 Zer a0 x2 >>= fun r3 =>
 newv 50 Za8 ZcF >>= fun b4 =>
 st Za8 (pt b4 0) r3.1 >>= fun _ =>
 ld cL a2 >>= fun x5 =>
 Zbi x5 (fun (q6 : Zag) => ZcV q6 (pt b4 0)) >>= fun r7 =>
 (if r3.2 = true then
   ld cB a3 >>= fun x8 =>
   pure (!(r7 == x8))
  else
   pure false) >>= fun y9 =>
 pure y9
theorem ZjD (a0 : Zat) (a1 : Addr) (a2 : Addr) (a3 : Addr) : Ref Tryz.prog 85 [Zaz.val a0, .pointer (some a1), .pointer (some a2), .pointer (some a3)] (Zc4 a0 a1 a2 a3) Zc4.out := by
 refine J.Fn Tryz.func85 ?_
 unfold Zc4
 refine sr 2 <| J.b 0 Zaz a0 fun b1 => J.z 1 <| sr 9 <| J.k 0 0 rfl Ty69 (At.whole _) <| J.l 0 Ty4 fun x2 => J.C 0 F86 (Zlz _ _) fun r3 => J.A 3 Ty50 fun b4 => J.w 0 Ty50 <| J.z 1 <| sr 4 <| J.l 0 Ty30 fun x5 => J.C 1 F87 (Zej x5 ⟨.func (.func 88) #[] #[.pointer (some (pt b4 0))], rfl⟩ (fun (q6 : Zag) => ZcV q6 (pt b4 0)) (fun q6 => RefV.of (first := []) (cap := [.pointer (some (pt b4 0))]) F88 (Zir q6 (pt b4 0)))) fun r7 => J.z 1 <| sr 7 <| J.j 2 3 .bool ?_ ?_ fun y9 => ?_
 ·exact J.l 1 Ty4 fun x8 => J.e 2
 ·exact J.e 4
 exact J.z 1 <| J.r

noncomputable def Za3.B : Code := bod Tryz.f62
noncomputable def Za3.cx : Fx := ⟨Tryz.prog, 62, Tryz.f62, none⟩
noncomputable def Za3.out (r_ : Any) : Value := r_.v
noncomputable def Za3.K1 (b2 : Nat) (j27 : Addr) (j28 : Addr) : M Any :=
 pure (⟨.func (.func 85) #[] #[.pointer (some (pt b2 0)), .pointer (some j27), .pointer (some j28)], rfl⟩ : Any)
theorem Za3.K1_ok (b2 : Nat) (j27 : Addr) (j28 : Addr) :
  SJ Za3.cx [.code (c2 (c2 Za3.B))] [(3, .pointer (some (pt b2 0))), (5, .pointer (some j27)), (6, .pointer (some j28))] [] (Za3.K1 b2 j27 j28) (rt Za3.out) := by
 unfold Za3.K1
 exact sr 2 <| J.z 2 <| J.r
noncomputable def Za3 (a0 : Zar) (a1 : Bool) : M Any :=
 slot 33 >>= fun b1 =>
 newv 4 cB a1 >>= fun b2 =>
 draws 62 1 (Zfn (c1 (c2 Za3.B))) >>= fun o3 =>
 if bfr o3 2 5 = true then
  if bfr o3 2 6 = true then
   if bfr o3 5 6 = true then
    ZaN a0.Nets >>= fun r32 =>
    newv 30 cL Sl.nil >>= fun b33 =>
    newv 4 cB false >>= fun b34 =>
    st cL (pt b33 0) r32 >>= fun _ =>
    st cB (pt b34 0) a0.Not >>= fun _ =>
    Za3.K1 b2 (pt b33 0) (pt b34 0)
   else
    ZaN a0.Nets >>= fun r35 =>
    newv 4 cB false >>= fun b36 =>
    newv 30 cL Sl.nil >>= fun b37 =>
    st cL (pt b37 0) r35 >>= fun _ =>
    st cB (pt b36 0) a0.Not >>= fun _ =>
    Za3.K1 b2 (pt b37 0) (pt b36 0)
  else
   newv 4 cB false >>= fun b38 =>
   ZaN a0.Nets >>= fun r39 =>
   newv 30 cL Sl.nil >>= fun b40 =>
   st cL (pt b40 0) r39 >>= fun _ =>
   st cB (pt b38 0) a0.Not >>= fun _ =>
   Za3.K1 b2 (pt b40 0) (pt b38 0)
 else
  if bfr o3 5 6 = true then
   if bfr o3 2 6 = true then
    newv 30 cL Sl.nil >>= fun b43 =>
    ZaN a0.Nets >>= fun r44 =>
    newv 4 cB false >>= fun b45 =>
    st cL (pt b43 0) r44 >>= fun _ =>
    st cB (pt b45 0) a0.Not >>= fun _ =>
    Za3.K1 b2 (pt b43 0) (pt b45 0)
   else
    newv 30 cL Sl.nil >>= fun b46 =>
    newv 4 cB false >>= fun b47 =>
    ZaN a0.Nets >>= fun r48 =>
    st cL (pt b46 0) r48 >>= fun _ =>
    st cB (pt b47 0) a0.Not >>= fun _ =>
    Za3.K1 b2 (pt b46 0) (pt b47 0)
  else
   newv 4 cB false >>= fun b49 =>
   newv 30 cL Sl.nil >>= fun b50 =>
   ZaN a0.Nets >>= fun r51 =>
   st cL (pt b50 0) r51 >>= fun _ =>
   st cB (pt b49 0) a0.Not >>= fun _ =>
   Za3.K1 b2 (pt b50 0) (pt b49 0)
theorem Zhe (a0 : Zar) (a1 : Bool) : Ref Tryz.prog 62 [ZaM.val a0, .bool a1] (Za3 a0 a1) Za3.out := by
 refine J.Fn Tryz.func62 ?_
 unfold Za3
 refine sr 3 <| J.b 0 ZaM a0 fun b1 => J.B 0 fun b2 => J.z 1 <| seq <| SJ.draws (id := 1) (kd := [0, 1, 2, 0, 1, 2, 2, 2, 2]) (bef := [0, 1, 3, 0, 8, 0, 0, 103, 255]) (ord := [0, 1, 3, 4, 2, 5, 6, 7, 8]) (E := [(2, 5), (2, 6), (5, 6)]) ZcY fun o3 hg_ => SJ.bfr hg_ (by decide) (fun ho29 => ?_) fun ho29 => ?_
 ·refine SJ.bfr hg_ (by decide) (fun ho30 => ?_) fun ho30 => ?_
  ·refine SJ.bfr hg_ (by decide) (fun ho31 => ?_) fun ho31 => ?_
   ·exact SJ.leaf hg_ (kd := [0, 1, 2, 0, 1, 2, 2, 2, 2]) (bef := [0, 1, 3, 0, 8, 0, 0, 103, 255]) (ord := [0, 1, 3, 4, 2, 5, 6, 7, 8]) (E := [(2, 5), (2, 6), (5, 6)]) (allB.cons ho29 (allB.cons ho30 (allB.cons ho31 allB.nil))) <| J.k 1 0 rfl Ty30 (ZaF _) <| J.k 1 0 rfl Ty4 (ZaS _) <| OJ.call (d := 9) (g := 73) (ats := #[30]) (args := [.tmp 8]) (owed := [⟨4, 4, (pt b1 0), cB.val a0.Not⟩]) F73 (Zbf a0.Nets) fun r32 => OW.known (j := 0) (q := a0.Not) Ty4 rfl (ZaS a0) <| OW.nil <| OJ.newOf (d := 5) (op := (.alloc 30)) (cd := cL) (u := Sl.nil) (owed := [⟨4, 4, (pt b1 0), cB.val a0.Not⟩, ⟨1, 30, (pt b1 1), cL.val a0.Nets⟩]) (ZdY Ty30) fun b33 => OW.known (j := 0) (q := a0.Not) Ty4 rfl (ZaS a0) <| OW.known (j := 0) (q := a0.Nets) Ty30 rfl (ZaF a0) <| OW.nil <| OJ.newOf (d := 6) (op := (.alloc 4)) (cd := cB) (u := false) (owed := [⟨4, 4, (pt b1 0), cB.val a0.Not⟩, ⟨1, 30, (pt b1 1), cL.val a0.Nets⟩]) (ZdY Ty4) fun b34 => OW.known (j := 0) (q := a0.Not) Ty4 rfl (ZaS a0) <| OW.known (j := 0) (q := a0.Nets) Ty30 rfl (ZaF a0) <| OW.nil <| OJ.st (y := .tmp 5) (z := .tmp 9) (owed := [⟨4, 4, (pt b1 0), cB.val a0.Not⟩]) Ty30 <| OW.known (j := 0) (q := a0.Not) Ty4 rfl (ZaS a0) <| OW.nil <| J.w 0 Ty4 <| J.z 0 <| forget (List.Sublist.cons _ List.Sublist.slnil) <| J.q <| Za3.K1_ok b2 (pt b33 0) (pt b34 0)
   exact SJ.leaf hg_ (kd := [0, 1, 2, 0, 1, 2, 2, 2, 2]) (bef := [0, 1, 3, 0, 8, 0, 0, 103, 255]) (ord := [0, 1, 3, 4, 2, 6, 5, 7, 8]) (E := [(2, 6), (2, 5), (6, 5)]) (allB.cons ho30 (allB.cons ho29 (allB.cons ho31 allB.nil))) <| J.k 1 0 rfl Ty30 (ZaF _) <| J.k 1 0 rfl Ty4 (ZaS _) <| OJ.call (d := 9) (g := 73) (ats := #[30]) (args := [.tmp 8]) (owed := [⟨4, 4, (pt b1 0), cB.val a0.Not⟩]) F73 (Zbf a0.Nets) fun r35 => OW.known (j := 0) (q := a0.Not) Ty4 rfl (ZaS a0) <| OW.nil <| OJ.newOf (d := 6) (op := (.alloc 4)) (cd := cB) (u := false) (owed := [⟨4, 4, (pt b1 0), cB.val a0.Not⟩, ⟨1, 30, (pt b1 1), cL.val a0.Nets⟩]) (ZdY Ty4) fun b36 => OW.known (j := 0) (q := a0.Not) Ty4 rfl (ZaS a0) <| OW.known (j := 0) (q := a0.Nets) Ty30 rfl (ZaF a0) <| OW.nil <| OJ.newOf (d := 5) (op := (.alloc 30)) (cd := cL) (u := Sl.nil) (owed := [⟨4, 4, (pt b1 0), cB.val a0.Not⟩, ⟨1, 30, (pt b1 1), cL.val a0.Nets⟩]) (ZdY Ty30) fun b37 => OW.known (j := 0) (q := a0.Not) Ty4 rfl (ZaS a0) <| OW.known (j := 0) (q := a0.Nets) Ty30 rfl (ZaF a0) <| OW.nil <| OJ.st (y := .tmp 5) (z := .tmp 9) (owed := [⟨4, 4, (pt b1 0), cB.val a0.Not⟩]) Ty30 <| OW.known (j := 0) (q := a0.Not) Ty4 rfl (ZaS a0) <| OW.nil <| J.w 0 Ty4 <| J.z 0 <| forget (List.Sublist.cons _ List.Sublist.slnil) <| J.q <| Za3.K1_ok b2 (pt b37 0) (pt b36 0)
  exact SJ.leaf hg_ (kd := [0, 1, 2, 0, 1, 2, 2, 2, 2]) (bef := [0, 1, 3, 0, 8, 0, 0, 103, 255]) (ord := [0, 1, 3, 4, 6, 2, 5, 7, 8]) (E := [(6, 2), (6, 5), (2, 5)]) (allB.cons ho30 (allB.cons (ZmT ho30 ho29) (allB.cons ho29 allB.nil))) <| J.k 1 0 rfl Ty30 (ZaF _) <| J.k 1 0 rfl Ty4 (ZaS _) <| OJ.newOf (d := 6) (op := (.alloc 4)) (cd := cB) (u := false) (owed := [⟨4, 4, (pt b1 0), cB.val a0.Not⟩, ⟨1, 30, (pt b1 1), cL.val a0.Nets⟩]) (ZdY Ty4) fun b38 => OW.known (j := 0) (q := a0.Not) Ty4 rfl (ZaS a0) <| OW.known (j := 0) (q := a0.Nets) Ty30 rfl (ZaF a0) <| OW.nil <| OJ.call (d := 9) (g := 73) (ats := #[30]) (args := [.tmp 8]) (owed := [⟨4, 4, (pt b1 0), cB.val a0.Not⟩]) F73 (Zbf a0.Nets) fun r39 => OW.known (j := 0) (q := a0.Not) Ty4 rfl (ZaS a0) <| OW.nil <| OJ.newOf (d := 5) (op := (.alloc 30)) (cd := cL) (u := Sl.nil) (owed := [⟨4, 4, (pt b1 0), cB.val a0.Not⟩, ⟨1, 30, (pt b1 1), cL.val a0.Nets⟩]) (ZdY Ty30) fun b40 => OW.known (j := 0) (q := a0.Not) Ty4 rfl (ZaS a0) <| OW.known (j := 0) (q := a0.Nets) Ty30 rfl (ZaF a0) <| OW.nil <| OJ.st (y := .tmp 5) (z := .tmp 9) (owed := [⟨4, 4, (pt b1 0), cB.val a0.Not⟩]) Ty30 <| OW.known (j := 0) (q := a0.Not) Ty4 rfl (ZaS a0) <| OW.nil <| J.w 0 Ty4 <| J.z 0 <| forget (List.Sublist.cons _ List.Sublist.slnil) <| J.q <| Za3.K1_ok b2 (pt b40 0) (pt b38 0)
 refine SJ.bfr hg_ (by decide) (fun ho41 => ?_) fun ho41 => ?_
 ·refine SJ.bfr hg_ (by decide) (fun ho42 => ?_) fun ho42 => ?_
  ·exact SJ.leaf hg_ (kd := [0, 1, 2, 0, 1, 2, 2, 2, 2]) (bef := [0, 1, 3, 0, 8, 0, 0, 103, 255]) (ord := [0, 1, 3, 4, 5, 2, 6, 7, 8]) (E := [(5, 2), (5, 6), (2, 6)]) (allB.cons ho29 (allB.cons ho41 (allB.cons ho42 allB.nil))) <| J.k 1 0 rfl Ty30 (ZaF _) <| J.k 1 0 rfl Ty4 (ZaS _) <| OJ.newOf (d := 5) (op := (.alloc 30)) (cd := cL) (u := Sl.nil) (owed := [⟨4, 4, (pt b1 0), cB.val a0.Not⟩, ⟨1, 30, (pt b1 1), cL.val a0.Nets⟩]) (ZdY Ty30) fun b43 => OW.known (j := 0) (q := a0.Not) Ty4 rfl (ZaS a0) <| OW.known (j := 0) (q := a0.Nets) Ty30 rfl (ZaF a0) <| OW.nil <| OJ.call (d := 9) (g := 73) (ats := #[30]) (args := [.tmp 8]) (owed := [⟨4, 4, (pt b1 0), cB.val a0.Not⟩]) F73 (Zbf a0.Nets) fun r44 => OW.known (j := 0) (q := a0.Not) Ty4 rfl (ZaS a0) <| OW.nil <| OJ.newOf (d := 6) (op := (.alloc 4)) (cd := cB) (u := false) (owed := [⟨4, 4, (pt b1 0), cB.val a0.Not⟩, ⟨1, 30, (pt b1 1), cL.val a0.Nets⟩]) (ZdY Ty4) fun b45 => OW.known (j := 0) (q := a0.Not) Ty4 rfl (ZaS a0) <| OW.known (j := 0) (q := a0.Nets) Ty30 rfl (ZaF a0) <| OW.nil <| OJ.st (y := .tmp 5) (z := .tmp 9) (owed := [⟨4, 4, (pt b1 0), cB.val a0.Not⟩]) Ty30 <| OW.known (j := 0) (q := a0.Not) Ty4 rfl (ZaS a0) <| OW.nil <| J.w 0 Ty4 <| J.z 0 <| forget (List.Sublist.cons _ List.Sublist.slnil) <| J.q <| Za3.K1_ok b2 (pt b43 0) (pt b45 0)
  exact SJ.leaf hg_ (kd := [0, 1, 2, 0, 1, 2, 2, 2, 2]) (bef := [0, 1, 3, 0, 8, 0, 0, 103, 255]) (ord := [0, 1, 3, 4, 5, 6, 2, 7, 8]) (E := [(5, 6), (5, 2), (6, 2)]) (allB.cons ho41 (allB.cons ho29 (allB.cons ho42 allB.nil))) <| J.k 1 0 rfl Ty30 (ZaF _) <| J.k 1 0 rfl Ty4 (ZaS _) <| OJ.newOf (d := 5) (op := (.alloc 30)) (cd := cL) (u := Sl.nil) (owed := [⟨4, 4, (pt b1 0), cB.val a0.Not⟩, ⟨1, 30, (pt b1 1), cL.val a0.Nets⟩]) (ZdY Ty30) fun b46 => OW.known (j := 0) (q := a0.Not) Ty4 rfl (ZaS a0) <| OW.known (j := 0) (q := a0.Nets) Ty30 rfl (ZaF a0) <| OW.nil <| OJ.newOf (d := 6) (op := (.alloc 4)) (cd := cB) (u := false) (owed := [⟨4, 4, (pt b1 0), cB.val a0.Not⟩, ⟨1, 30, (pt b1 1), cL.val a0.Nets⟩]) (ZdY Ty4) fun b47 => OW.known (j := 0) (q := a0.Not) Ty4 rfl (ZaS a0) <| OW.known (j := 0) (q := a0.Nets) Ty30 rfl (ZaF a0) <| OW.nil <| OJ.call (d := 9) (g := 73) (ats := #[30]) (args := [.tmp 8]) (owed := [⟨4, 4, (pt b1 0), cB.val a0.Not⟩]) F73 (Zbf a0.Nets) fun r48 => OW.known (j := 0) (q := a0.Not) Ty4 rfl (ZaS a0) <| OW.nil <| OJ.st (y := .tmp 5) (z := .tmp 9) (owed := [⟨4, 4, (pt b1 0), cB.val a0.Not⟩]) Ty30 <| OW.known (j := 0) (q := a0.Not) Ty4 rfl (ZaS a0) <| OW.nil <| J.w 0 Ty4 <| J.z 0 <| forget (List.Sublist.cons _ List.Sublist.slnil) <| J.q <| Za3.K1_ok b2 (pt b46 0) (pt b47 0)
 exact SJ.leaf hg_ (kd := [0, 1, 2, 0, 1, 2, 2, 2, 2]) (bef := [0, 1, 3, 0, 8, 0, 0, 103, 255]) (ord := [0, 1, 3, 4, 6, 5, 2, 7, 8]) (E := [(6, 5), (6, 2), (5, 2)]) (allB.cons ho41 (allB.cons (ZmT ho41 ho29) (allB.cons ho29 allB.nil))) <| J.k 1 0 rfl Ty30 (ZaF _) <| J.k 1 0 rfl Ty4 (ZaS _) <| OJ.newOf (d := 6) (op := (.alloc 4)) (cd := cB) (u := false) (owed := [⟨4, 4, (pt b1 0), cB.val a0.Not⟩, ⟨1, 30, (pt b1 1), cL.val a0.Nets⟩]) (ZdY Ty4) fun b49 => OW.known (j := 0) (q := a0.Not) Ty4 rfl (ZaS a0) <| OW.known (j := 0) (q := a0.Nets) Ty30 rfl (ZaF a0) <| OW.nil <| OJ.newOf (d := 5) (op := (.alloc 30)) (cd := cL) (u := Sl.nil) (owed := [⟨4, 4, (pt b1 0), cB.val a0.Not⟩, ⟨1, 30, (pt b1 1), cL.val a0.Nets⟩]) (ZdY Ty30) fun b50 => OW.known (j := 0) (q := a0.Not) Ty4 rfl (ZaS a0) <| OW.known (j := 0) (q := a0.Nets) Ty30 rfl (ZaF a0) <| OW.nil <| OJ.call (d := 9) (g := 73) (ats := #[30]) (args := [.tmp 8]) (owed := [⟨4, 4, (pt b1 0), cB.val a0.Not⟩]) F73 (Zbf a0.Nets) fun r51 => OW.known (j := 0) (q := a0.Not) Ty4 rfl (ZaS a0) <| OW.nil <| OJ.st (y := .tmp 5) (z := .tmp 9) (owed := [⟨4, 4, (pt b1 0), cB.val a0.Not⟩]) Ty30 <| OW.known (j := 0) (q := a0.Not) Ty4 rfl (ZaS a0) <| OW.nil <| J.w 0 Ty4 <| J.z 0 <| forget (List.Sublist.cons _ List.Sublist.slnil) <| J.q <| Za3.K1_ok b2 (pt b50 0) (pt b49 0)

noncomputable def ZeO.out (r_ : (Int × Bool)) : Value := .tuple #[.int .i64 r_.1, .bool r_.2]
noncomputable def ZeO (a0 : Zat) (a1 : Bool) : M (Int × Bool) :=
 slot 69 >>= fun b1 =>
 if a0.L4 = 2 then
  draw >>= fun _ =>
  if a1 = true then
   pure (a0.Udp.Dport, true)
  else
   pure (a0.Udp.Sport, true)
 else
  if a0.L4 = 3 then
   draw >>= fun _ =>
   if a1 = true then
    pure (a0.Tcp.Dport, true)
   else
    pure (a0.Tcp.Sport, true)
  else
   pure (0, false)
theorem Zmf (a0 : Zat) (a1 : Bool) : Ref Tryz.prog 91 [Zaz.val a0, .bool a1] (ZeO a0 a1) ZeO.out := by
 refine J.Fn Tryz.func91 ?_
 unfold ZeO
 refine sr 3 <| J.b 0 Zaz a0 fun b1 => J.z 2 <| sr 2 <| J.z 2 <| seq <| sr 2 <| J.k 1 0 rfl Ty3 (Zf6 _) <| J.z 0 <| block (id := 0) <| sr 2 <| J.z 2 <| J.f ?_ ?_
 ·refine J.R 8 ZcY <| J.k 2 0 rfl Ty3 (At.trans (Ze0 _) (ZlH _)) <| J.k 2 0 rfl Ty3 (At.trans (Ze0 _) (ZlI _)) <| J.z 2 <| inBlock <| seq <| sr 1 <| J.z 1 <| J.f ?_ ?_
  ·exact sr 3 <| J.z 3 <| J.r
  exact SJ.skip <| sr 3 <| J.z 3 <| J.r
 refine sr 2 <| J.z 2 <| J.f ?_ ?_
 ·refine J.R 8 ZcY <| J.k 2 0 rfl Ty3 (At.trans (ZcQ _) (ZlJ _)) <| J.k 2 0 rfl Ty3 (At.trans (ZcQ _) (ZlK _)) <| J.z 2 <| inBlock <| seq <| sr 1 <| J.z 1 <| J.f ?_ ?_
  ·exact sr 3 <| J.z 3 <| J.r
  exact SJ.skip <| sr 3 <| J.z 3 <| J.r
 exact sr 2 <| J.z 2 <| J.r

noncomputable def ZcL.out (r_ : Bool) : Value := .bool r_
noncomputable def ZcL (a0 : ZaH) (a1 : Addr) : M Bool :=
 slot 131 >>= fun b1 =>
 ld (cI .i64) a1 >>= fun x2 =>
 ZbT x2 a0.Lo a0.Hi >>= fun r3 =>
 pure r3
theorem Zic (a0 : ZaH) (a1 : Addr) : Ref Tryz.prog 93 [Zbd.val a0, .pointer (some a1)] (ZcL a0 a1) ZcL.out := by
 refine J.Fn Tryz.func93 ?_
 unfold ZcL
 exact sr 2 <| J.b 0 Zbd a0 fun b1 => J.z 1 <| sr 7 <| J.l 0 Ty3 fun x2 => J.k 1 0 rfl Ty3 (ZdK _) <| J.k 1 0 rfl Ty3 (ZdL _) <| J.C 0 F47 (Zcj _ _ _) fun r3 => J.z 1 <| J.r

noncomputable def Zaq.B : Code := bod Tryz.f113
noncomputable def Zaq.cx : Fx := ⟨Tryz.prog, 113, Tryz.f113, none⟩
noncomputable def Zaq.out (r_ : Int) : Value := .int .i64 r_
noncomputable def Zaq.F1 (a0 : Sl) (a1v : Any) : LF Int Int := ⟨[.inBlock 0, .code (c2 (c2 Zaq.B))], c1 (c2 (c1 (c2 Zaq.B))), fun s_ => [(0, Sl.v a0), (1, a1v.v), (7, .int .i64 (a0.len : Int)), (8, .int .i64 s_)], fun s_ => [], (rt Zaq.out)⟩
noncomputable def Zaq.L1 (a0 : Sl) (a1 : ZaH → M Bool) (s1 : Int) : M (LS Int Int) :=
 if s1 < (a0.len : Int) then
  idx a0.a a0.len s1 2 >>= fun p7 =>
  ld Zbd p7 >>= fun x8 =>
  a1 x8 >>= fun r9 =>
  if r9 = true then
   pure (LS.done s1)
  else
   pure (LS.next (wrap .i64 (s1 + 1)))
 else
  pure (LS.done (-1))
theorem Zaq.L1_ok (a0 : Sl) (a1v : Any) (a1 : ZaH → M Bool) (h_a1 : ∀ (x0_ : ZaH), RefV Tryz.prog a1v.v [Zbd.val x0_] (a1 x0_) (fun r_ : Bool => .bool r_)) : LJ Zaq.cx (Zaq.F1 a0 a1v) (fun s_ => Zaq.L1 a0 a1 s_) := by
 rintro s1
 show SJ _ _ _ _ (Zaq.L1 a0 a1 s1) _
 unfold Zaq.L1
 refine sr 1 <| J.z 1 <| seq <| J.f ?_ ?_
 ·refine SJ.skip <| seq <| block (id := 1) <| sr 2 <| J.z 2 <| sr 6 <| J.i 3 fun p7 => J.l 0 Zgj fun x8 => J.v 0 (h_a1 x8) fun r9 => J.z 0 <| J.f ?_ ?_
  ·exact sr 2 <| J.z 2 <| J.r
  exact SJ.skip <| inBlock <| SJ.rg 2 <| J.z 2 <| J.o rfl
 exact exit (id := 0) (by rfl) <| sr 1 <| J.z 1 <| J.r
noncomputable def Zaq (a0 : Sl) (a1 : ZaH → M Bool) : M Int :=
 Zcn (fun s_ : Int => Zaq.L1 a0 a1 s_) 0
theorem ZeN (a0 : Sl) (a1v : Any) (a1 : ZaH → M Bool) (h_a1 : ∀ (x0_ : ZaH), RefV Tryz.prog a1v.v [Zbd.val x0_] (a1 x0_) (fun r_ : Bool => .bool r_)) : Ref Tryz.prog 113 [Sl.v a0, a1v.v] (Zaq a0 a1) Zaq.out := by
 refine J.Fn Tryz.func113 ?_
 unfold Zaq
 exact sr 1 <| J.z 1 <| seq <| sr 3 <| J.z 3 <| block (id := 0) <| J.L (Zaq.L1_ok a0 a1v a1 h_a1)

noncomputable def Zbn.out (r_ : Bool) : Value := .bool r_
noncomputable def Zbn (a0 : Sl) (a1 : ZaH → M Bool) : M Bool :=
 Zaq a0 a1 >>= fun r1 =>
 pure (decide (r1 ≥ 0))
theorem Zez (a0 : Sl) (a1v : Any) (a1 : ZaH → M Bool) (h_a1 : ∀ (x0_ : ZaH), RefV Tryz.prog a1v.v [Zbd.val x0_] (a1 x0_) (fun r_ : Bool => .bool r_)) : Ref Tryz.prog 92 [Sl.v a0, a1v.v] (Zbn a0 a1) Zbn.out := by
 refine J.Fn Tryz.func92 ?_
 unfold Zbn
 exact sr 1 <| J.z 1 <| sr 5 <| J.C 2 F113 (ZeN a0 a1v a1 h_a1) fun r1 => J.z 2 <| J.r

noncomputable def ZcO.out (r_ : Bool) : Value := .bool r_
noncomputable def ZcO (a0 : Zat) (a1 : Addr) (a2 : Addr) : M Bool :=
 slot 69 >>= fun b1 =>
 ld cB a1 >>= fun x2 =>
 ZeO a0 x2 >>= fun r3 =>
 newv 3 (cI .i64) 0 >>= fun b4 =>
 st (cI .i64) (pt b4 0) r3.1 >>= fun _ =>
 (if r3.2 = true then
   ld cL a2 >>= fun x5 =>
   Zbn x5 (fun (q6 : ZaH) => ZcL q6 (pt b4 0)) >>= fun r7 =>
   pure r7
  else
   pure false) >>= fun y8 =>
 pure y8
theorem Zi9 (a0 : Zat) (a1 : Addr) (a2 : Addr) : Ref Tryz.prog 90 [Zaz.val a0, .pointer (some a1), .pointer (some a2)] (ZcO a0 a1 a2) ZcO.out := by
 refine J.Fn Tryz.func90 ?_
 unfold ZcO
 refine sr 2 <| J.b 0 Zaz a0 fun b1 => J.z 1 <| sr 9 <| J.k 0 0 rfl Ty69 (At.whole _) <| J.l 0 Ty4 fun x2 => J.C 0 F91 (Zmf _ _) fun r3 => J.A 3 Ty3 fun b4 => J.w 0 Ty3 <| J.z 1 <| sr 7 <| J.j 2 3 .bool ?_ ?_ fun y8 => ?_
 ·exact J.l 0 Ty31 fun x5 => J.C 1 F92 (Zez x5 ⟨.func (.func 93) #[] #[.pointer (some (pt b4 0))], rfl⟩ (fun (q6 : ZaH) => ZcL q6 (pt b4 0)) (fun q6 => RefV.of (first := []) (cap := [.pointer (some (pt b4 0))]) F93 (Zic q6 (pt b4 0)))) fun r7 => J.e 1
 ·exact J.e 4
 exact J.z 1 <| J.r

noncomputable def Zdh.out (r_ : Any) : Value := r_.v
noncomputable def Zdh (a0 : Zar) (a1 : Bool) : M Any :=
 slot 33 >>= fun b1 =>
 newv 4 cB a1 >>= fun b2 =>
 Zbk a0.Ports >>= fun r3 =>
 newv 31 cL Sl.nil >>= fun b4 =>
 st cL (pt b4 0) r3 >>= fun _ =>
 pure (⟨.func (.func 90) #[] #[.pointer (some (pt b2 0)), .pointer (some (pt b4 0))], rfl⟩ : Any)
theorem ZgJ (a0 : Zar) (a1 : Bool) : Ref Tryz.prog 63 [ZaM.val a0, .bool a1] (Zdh a0 a1) Zdh.out := by
 refine J.Fn Tryz.func63 ?_
 unfold Zdh
 exact sr 3 <| J.b 0 ZaM a0 fun b1 => J.B 0 fun b2 => J.z 1 <| sr 5 <| J.k 1 0 rfl Ty31 (Za7 _) <| J.C 0 F75 (ZdF _) fun r3 => J.A 0 Ty31 fun b4 => J.w 0 Ty31 <| J.z 0 <| sr 2 <| J.z 2 <| J.r

noncomputable def Zfa.out (r_ : Sl) : Value := Sl.v r_
noncomputable def Zfa (a0 : Zaf) : M Sl :=
 slot 35 >>= fun b1 =>
 newv 106 cL Sl.nil >>= fun b2 =>
 ZbO (a0.In != 0) (⟨.iface 147 (.int .i64 a0.In), rfl⟩ : Any) (pt b2 0) >>= fun r3 =>
 ZbO (a0.Vid != 0) (⟨.iface 148 (.int .i64 a0.Vid), rfl⟩ : Any) (pt b2 0) >>= fun r4 =>
 ZbO (a0.Kind != 0) (⟨.iface 149 (.int .i64 a0.Kind), rfl⟩ : Any) (pt b2 0) >>= fun r5 =>
 ZbO (a0.Proto != 0) (⟨.iface 150 (.int .i64 a0.Proto), rfl⟩ : Any) (pt b2 0) >>= fun r6 =>
 draw >>= fun _ =>
 Za3 a0.From false >>= fun r7 =>
 ZbO (decide ((a0.From.Nets.len : Int) > 0)) (⟨.iface 152 (r7.v), rfl⟩ : Any) (pt b2 0) >>= fun r8 =>
 draw >>= fun _ =>
 Zdh a0.From false >>= fun r9 =>
 ZbO (decide ((a0.From.Ports.len : Int) > 0)) (⟨.iface 152 (r9.v), rfl⟩ : Any) (pt b2 0) >>= fun r10 =>
 draw >>= fun _ =>
 Za3 a0.To true >>= fun r11 =>
 ZbO (decide ((a0.To.Nets.len : Int) > 0)) (⟨.iface 152 (r11.v), rfl⟩ : Any) (pt b2 0) >>= fun r12 =>
 draw >>= fun _ =>
 Zdh a0.To true >>= fun r13 =>
 ZbO (decide ((a0.To.Ports.len : Int) > 0)) (⟨.iface 152 (r13.v), rfl⟩ : Any) (pt b2 0) >>= fun r14 =>
 ZbO ((bor .i64 a0.Set a0.Clear) != 0) (⟨.iface 155 (Zbx.val (⟨a0.Set, a0.Clear⟩ : ZbV)), rfl⟩ : Any) (pt b2 0) >>= fun r15 =>
 ZbO (a0.Type_ != 0) (⟨.iface 156 (.int .i64 a0.Type_), rfl⟩ : Any) (pt b2 0) >>= fun r16 =>
 ZbO a0.Pieces (⟨.iface 158 (Zb8.val ZdA), rfl⟩ : Any) (pt b2 0) >>= fun r17 =>
 ld cL (pt b2 0) >>= fun x18 =>
 pure x18
theorem Znr (a0 : Zaf) : Ref Tryz.prog 38 [Zah.val a0] (Zfa a0) Zfa.out := by
 refine J.Fn Tryz.func38 ?_
 unfold Zfa
 exact sr 2 <| J.b 0 Zah a0 fun b1 => J.z 1 <| sr 1 <| J.A 0 Zq2 fun b2 => J.z 0 <| sr 2 <| J.z 2 <| sr 8 <| J.k 2 0 rfl Ty3 (Zd6 _) <| J.k 2 0 rfl Ty3 (Zd6 _) <| J.v 1 (RefV.of (first := []) (cap := [.pointer (some (pt b2 0))]) (vals := [.bool (a0.In != 0), .iface 147 (.int .i64 a0.In)]) F61 (Zb4 (a0.In != 0) (⟨.iface 147 (.int .i64 a0.In), rfl⟩ : Any) (pt b2 0))) fun r3 => J.z 0 <| sr 8 <| J.k 2 0 rfl Ty3 (ZdJ _) <| J.k 2 0 rfl Ty3 (ZdJ _) <| J.v 1 (RefV.of (first := []) (cap := [.pointer (some (pt b2 0))]) (vals := [.bool (a0.Vid != 0), .iface 148 (.int .i64 a0.Vid)]) F61 (Zb4 (a0.Vid != 0) (⟨.iface 148 (.int .i64 a0.Vid), rfl⟩ : Any) (pt b2 0))) fun r4 => J.z 0 <| sr 8 <| J.k 2 0 rfl Ty3 (ZbY _) <| J.k 2 0 rfl Ty3 (ZbY _) <| J.v 1 (RefV.of (first := []) (cap := [.pointer (some (pt b2 0))]) (vals := [.bool (a0.Kind != 0), .iface 149 (.int .i64 a0.Kind)]) F61 (Zb4 (a0.Kind != 0) (⟨.iface 149 (.int .i64 a0.Kind), rfl⟩ : Any) (pt b2 0))) fun r5 => J.z 0 <| sr 8 <| J.k 2 0 rfl Ty3 (ZbD _) <| J.k 2 0 rfl Ty3 (ZbD _) <| J.v 1 (RefV.of (first := []) (cap := [.pointer (some (pt b2 0))]) (vals := [.bool (a0.Proto != 0), .iface 150 (.int .i64 a0.Proto)]) F61 (Zb4 (a0.Proto != 0) (⟨.iface 150 (.int .i64 a0.Proto), rfl⟩ : Any) (pt b2 0))) fun r6 => J.z 0 <| seq <| J.R 11 ZcY <| J.k 3 0 rfl Ty30 (At.trans (Zb6 _) (ZaF _)) <| J.k 3 0 rfl Ty33 (Zb6 _) <| OJ.call (d := 46) (g := 62) (ats := #[33, 4]) (args := [.tmp 45, .const (.bool false)]) (owed := [⟨3, 30, (pt b1 7), cL.val a0.From.Nets⟩]) F62 (Zhe a0.From false) fun r7 => OW.known (j := 0) (q := a0.From.Nets) Ty30 rfl (At.trans (Zb6 a0) (ZaF a0.From)) <| OW.nil <| J.v 1 (RefV.of (first := []) (cap := [.pointer (some (pt b2 0))]) (vals := [.bool (decide ((a0.From.Nets.len : Int) > 0)), .iface 152 (r7.v)]) F61 (Zb4 (decide ((a0.From.Nets.len : Int) > 0)) (⟨.iface 152 (r7.v), rfl⟩ : Any) (pt b2 0))) fun r8 => J.z 0 <| seq <| J.R 11 ZcY <| J.k 3 0 rfl Ty31 (At.trans (Zb6 _) (Za7 _)) <| J.k 3 0 rfl Ty33 (Zb6 _) <| OJ.call (d := 57) (g := 63) (ats := #[33, 4]) (args := [.tmp 56, .const (.bool false)]) (owed := [⟨3, 31, (pt b1 8), cL.val a0.From.Ports⟩]) F63 (ZgJ a0.From false) fun r9 => OW.known (j := 0) (q := a0.From.Ports) Ty31 rfl (At.trans (Zb6 a0) (Za7 a0.From)) <| OW.nil <| J.v 1 (RefV.of (first := []) (cap := [.pointer (some (pt b2 0))]) (vals := [.bool (decide ((a0.From.Ports.len : Int) > 0)), .iface 152 (r9.v)]) F61 (Zb4 (decide ((a0.From.Ports.len : Int) > 0)) (⟨.iface 152 (r9.v), rfl⟩ : Any) (pt b2 0))) fun r10 => J.z 0 <| seq <| J.R 11 ZcY <| J.k 3 0 rfl Ty30 (At.trans (Zb9 _) (ZaF _)) <| J.k 3 0 rfl Ty33 (Zb9 _) <| OJ.call (d := 68) (g := 62) (ats := #[33, 4]) (args := [.tmp 67, .const (.bool true)]) (owed := [⟨3, 30, (pt b1 10), cL.val a0.To.Nets⟩]) F62 (Zhe a0.To true) fun r11 => OW.known (j := 0) (q := a0.To.Nets) Ty30 rfl (At.trans (Zb9 a0) (ZaF a0.To)) <| OW.nil <| J.v 1 (RefV.of (first := []) (cap := [.pointer (some (pt b2 0))]) (vals := [.bool (decide ((a0.To.Nets.len : Int) > 0)), .iface 152 (r11.v)]) F61 (Zb4 (decide ((a0.To.Nets.len : Int) > 0)) (⟨.iface 152 (r11.v), rfl⟩ : Any) (pt b2 0))) fun r12 => J.z 0 <| seq <| J.R 11 ZcY <| J.k 3 0 rfl Ty31 (At.trans (Zb9 _) (Za7 _)) <| J.k 3 0 rfl Ty33 (Zb9 _) <| OJ.call (d := 79) (g := 63) (ats := #[33, 4]) (args := [.tmp 78, .const (.bool true)]) (owed := [⟨3, 31, (pt b1 11), cL.val a0.To.Ports⟩]) F63 (ZgJ a0.To true) fun r13 => OW.known (j := 0) (q := a0.To.Ports) Ty31 rfl (At.trans (Zb9 a0) (Za7 a0.To)) <| OW.nil <| J.v 1 (RefV.of (first := []) (cap := [.pointer (some (pt b2 0))]) (vals := [.bool (decide ((a0.To.Ports.len : Int) > 0)), .iface 152 (r13.v)]) F61 (Zb4 (decide ((a0.To.Ports.len : Int) > 0)) (⟨.iface 152 (r13.v), rfl⟩ : Any) (pt b2 0))) fun r14 => J.z 0 <| sr 14 <| J.k 2 0 rfl Ty3 (ZcD _) <| J.k 1 0 rfl Ty3 (Zca _) <| J.k 3 0 rfl Ty3 (ZcD _) <| J.k 1 0 rfl Ty3 (Zca _) <| J.u 0 Zx4 (.f 0 (ZiN _ a0.Set) (.f 1 (ZhT _ a0.Clear) .nil)) <| J.v 1 (RefV.of (first := []) (cap := [.pointer (some (pt b2 0))]) (vals := [.bool ((bor .i64 a0.Set a0.Clear) != 0), .iface 155 (Zbx.val (⟨a0.Set, a0.Clear⟩ : ZbV))]) F61 (Zb4 ((bor .i64 a0.Set a0.Clear) != 0) (⟨.iface 155 (Zbx.val (⟨a0.Set, a0.Clear⟩ : ZbV)), rfl⟩ : Any) (pt b2 0))) fun r15 => J.z 0 <| sr 8 <| J.k 2 0 rfl Ty3 (ZcP _) <| J.k 2 0 rfl Ty3 (ZcP _) <| J.v 1 (RefV.of (first := []) (cap := [.pointer (some (pt b2 0))]) (vals := [.bool (a0.Type_ != 0), .iface 156 (.int .i64 a0.Type_)]) F61 (Zb4 (a0.Type_ != 0) (⟨.iface 156 (.int .i64 a0.Type_), rfl⟩ : Any) (pt b2 0))) fun r16 => J.z 0 <| sr 6 <| J.k 2 0 rfl Ty4 (Zd1 _) <| J.u 0 Zx3 .nil <| J.v 1 (RefV.of (first := []) (cap := [.pointer (some (pt b2 0))]) (vals := [.bool a0.Pieces, .iface 158 (Zb8.val ZdA)]) F61 (Zb4 a0.Pieces (⟨.iface 158 (Zb8.val ZdA), rfl⟩ : Any) (pt b2 0))) fun r17 => J.z 0 <| sr 2 <| J.l 0 Zq2 fun x18 => J.z 1 <| J.r

noncomputable def ZdU.out (r_ : Unit) : Value := .tuple #[]
noncomputable def ZdU (a0 : (Option Addr)) (a1 : Zaf) : M Unit :=
 slot 35 >>= fun b1 =>
 draw >>= fun _ =>
 nilck a0 >>= fun p2 =>
 ld cL p2 >>= fun x3 =>
 Zeq a1 >>= fun r4 =>
 same cL p2 x3 >>= fun _ =>
 slot 35 >>= fun b5 =>
 same cL p2 x3 >>= fun _ =>
 appl Zah 35 192 ZaL x3 [r4] >>= fun r6 =>
 nilck a0 >>= fun p7 =>
 st cL p7 r6 >>= fun _ =>
 draw >>= fun _ =>
 nilck a0 >>= fun p8 =>
 ld cL (Addr.add p8 1) >>= fun x9 =>
 Zfa a1 >>= fun r10 =>
 same cL (Addr.add p8 1) x9 >>= fun _ =>
 slot 106 >>= fun b11 =>
 same cL (Addr.add p8 1) x9 >>= fun _ =>
 appl cL 106 24 Sl.nil x9 [r10] >>= fun r12 =>
 nilck a0 >>= fun p13 =>
 st cL (Addr.add p13 1) r12 >>= fun _ =>
 pure ()
theorem Zh1 (a0 : (Option Addr)) (a1 : Zaf) : Ref Tryz.prog 16 [.pointer a0, Zah.val a1] (ZdU a0 a1) ZdU.out := by
 refine J.Fn Tryz.func16 ?_
 unfold ZdU
 exact sr 1 <| J.b 0 Zah a1 fun b1 => J.z 0 <| seq <| J.R 12 ZcY <| J.n 2 fun p2 => J.l 1 Ty28 fun x3 => J.k 0 0 rfl Ty35 (At.whole _) <| OJ.call (d := 10) (g := 27) (ats := #[35]) (args := [.tmp 9]) (owed := [⟨4, 28, p2, cL.val x3⟩]) F27 (Zjl a1) fun r4 => OW.same Ty28 <| OW.nil <| OJ.rowSlot (d := 11) (t := 28) (parts := [(0, .tmp 10)]) (ps := [(0, Zah.val r4)]) (cd := Zah) (⟨[r4], rfl⟩ : Vec Zaf 1) (owed := [⟨4, 28, p2, cL.val x3⟩]) Ty35 (Zcg.cons (cd := Zah) (q := r4) (o := 0) rfl (Upd.arr (i := 0) (by decide) (by decide)) Zcg.nil) fun b5 => OW.same Ty28 <| OW.nil <| J.p 0 0 rfl Ty35 fun r6 => J.n 0 fun p7 => J.w 1 Ty28 <| J.z 0 <| J.R 12 ZcY <| J.n 2 fun p8 => J.l 1 Ty77 fun x9 => J.k 0 1 rfl Ty35 (At.whole _) <| OJ.call (d := 21) (g := 38) (ats := #[35]) (args := [.tmp 20]) (owed := [⟨4, 77, (Addr.add p8 1), cL.val x9⟩]) F38 (Znr a1) fun r10 => OW.same Ty77 <| OW.nil <| OJ.rowSlot (d := 22) (t := 77) (parts := [(0, .tmp 21)]) (ps := [(0, cL.val r10)]) (cd := cL) (⟨[r10], rfl⟩ : Vec Sl 1) (owed := [⟨4, 77, (Addr.add p8 1), cL.val x9⟩]) Zq2 (Zcg.cons (cd := cL) (q := r10) (o := 0) rfl (Upd.arr (i := 0) (by decide) (by decide)) Zcg.nil) fun b11 => OW.same Ty77 <| OW.nil <| J.p 0 0 rfl Zq2 fun r12 => J.n 0 fun p13 => J.w 1 Ty77 <| J.z 0 <| SJ.end_ rfl (Res.run (ys := []) .nil rfl)

noncomputable def ZbJ.B : Code := bod Tryz.f4
noncomputable def ZbJ.cx : Fx := ⟨Tryz.prog, 4, Tryz.f4, none⟩
noncomputable def ZbJ.out (r_ : ((Option Addr) × Int × Int × Int)) : Value := .tuple #[.pointer r_.1, .int .i64 r_.2.1, .int .i64 r_.2.2.1, .int .i64 r_.2.2.2]
noncomputable def ZbJ.F1 (a0 : Sl) (b1 : Nat) : LF Int ((Option Addr) × Int × Int × Int) := ⟨[.inBlock 0, .code (c2 (c2 (c2 ZbJ.B)))], c1 (c2 (c1 (c2 (c2 ZbJ.B)))), fun s_ => [(6, .pointer (some (pt b1 0))), (15, Sl.v a0), (16, .int .i64 (a0.len : Int)), (17, .int .i64 s_)], fun s_ => [], (rt ZbJ.out)⟩
noncomputable def ZbJ.L1 (a0 : Sl) (b1 : Nat) (s2 : Int) : M (LS Int ((Option Addr) × Int × Int × Int)) :=
 if s2 < (a0.len : Int) then
  idx a0.a a0.len s2 1 >>= fun p17 =>
  ld cS p17 >>= fun x18 =>
  Zdo x18 ZwY >>= fun r19 =>
  (if r19.toList = ByteArray.empty.toList then
    pure true
   else
    chk ((0 : Int) ≤ 0 ∧ 0 < (r19.size : Int)) >>= fun _ =>
    pure ((sb r19 0) == 35)) >>= fun y22 =>
  if y22 = true then
   pure (LS.next (wrap .i64 (s2 + 1)))
  else
   ld cL (pt b1 0) >>= fun x23 =>
   if (x23.len : Int) = 256 then
    pure (LS.done (none, 167, s2, 0))
   else
    Zal x18 >>= fun r24 =>
    slot 35 >>= fun b25 =>
    if r24.2.1 ≠ 0 then
     pure (LS.done (none, r24.2.1, s2, r24.2.2))
    else
     ZdU (some (pt b1 0)) r24.1 >>= fun r26 =>
     pure (LS.next (wrap .i64 (s2 + 1)))
 else
  pure (LS.done ((some (pt b1 0)), 0, 0, 0))
theorem ZbJ.L1_ok (a0 : Sl) (b1 : Nat) : LJ ZbJ.cx (ZbJ.F1 a0 b1) (fun s_ => ZbJ.L1 a0 b1 s_) := by
 rintro s2
 show SJ _ _ _ _ (ZbJ.L1 a0 b1 s2) _
 unfold ZbJ.L1
 refine sr 1 <| J.z 1 <| seq <| J.f ?_ ?_
 ·refine SJ.skip <| seq <| block (id := 1) <| sr 5 <| J.i 1 fun p17 => J.l 0 Ty9 fun x18 => J.z 2 <| sr 3 <| J.C 1 F15 (Zjx _ _) fun r19 => J.z 1 <| seq <| sr 7 <| J.j 3 3 .bool ?_ ?_ fun y22 => ?_
  ·exact J.e 4
  ·exact J.t 1 fun hb20 hb21 => J.e 2
  refine J.z 0 <| J.f ?_ ?_
  ·exact exit (id := 1) (by rfl) <| SJ.rg 2 <| J.z 2 <| J.o rfl
  refine SJ.skip <| seq <| sr 6 <| J.l 3 Ty28 fun x23 => J.z 2 <| J.f ?_ ?_
  ·exact sr 5 <| J.z 5 <| J.r
  refine SJ.skip <| sr 10 <| J.C 1 F6 (Zfu _) fun r24 => J.a 4 Ty35 fun b25 => J.s 0 0 rfl Ty35 (Upd.w r24.1) <| J.z 2 <| seq <| sr 2 <| J.z 2 <| J.f ?_ ?_
  ·exact sr 7 <| J.z 7 <| J.r
  exact SJ.skip <| SJ.rg 3 <| J.k 1 0 rfl Ty35 (At.whole _) <| J.C 0 F16 (Zh1 _ _) fun r26 => J.z 0 <| inBlock <| SJ.rg 2 <| J.z 2 <| forget (List.Sublist.cons _ List.Sublist.slnil) <| J.o rfl
 exact exit (id := 0) (by rfl) <| sr 5 <| J.z 5 <| J.r
noncomputable def ZbJ (a0 : Sl) : M ((Option Addr) × Int × Int × Int) :=
 newv 79 ZcM Zhx >>= fun b1 =>
 Zcn (fun s_ : Int => ZbJ.L1 a0 b1 s_) 0
theorem Zns (a0 : Sl) : Ref Tryz.prog 4 [Sl.v a0] (ZbJ a0) ZbJ.out := by
 refine J.Fn Tryz.func4 ?_
 unfold ZbJ
 exact sr 4 <| J.z 4 <| sr 3 <| J.u 0 Ty79 .nil <| J.B 0 fun b1 => J.z 1 <| seq <| sr 3 <| J.z 3 <| block (id := 0) <| J.L (ZbJ.L1_ok a0 b1)

noncomputable def Zb3.out (r_ : Int) : Value := .int .i64 r_
noncomputable def Zb3 (a0 : Int) : M Int :=
 pure a0
theorem ZcH (a0 : Int) : Ref Tryz.prog 5 [.int .i64 a0] (Zb3 a0) Zb3.out := by
 refine J.Fn Tryz.func5 ?_
 unfold Zb3
 exact sr 1 <| J.z 1 <| sr 2 <| J.z 2 <| J.r

noncomputable def Zao.B : Code := bod Tryz.f48
noncomputable def Zao.cx : Fx := ⟨Tryz.prog, 48, Tryz.f48, none⟩
noncomputable def Zao.out (r_ : Int) : Value := .int .i64 r_
noncomputable def Zao.K1 (a0 : Zar) (a2 : Int) : M Int :=
 (if (a0.Ports.len : Int) > 0 then
   Zel a2 >>= fun r19 =>
   pure (!r19)
  else
   pure false) >>= fun y20 =>
 if y20 = true then
  pure 165
 else
  pure 0
theorem Zao.K1_ok (a0 : Zar) (a2 : Int) (b1 : Nat) :
  SJ Zao.cx [.code (c2 (c2 (c2 (c2 (c2 Zao.B)))))] [(2, .int .i64 a2), (3, .pointer (some (pt b1 0)))] [(b1, ZaM.enc a0)] (Zao.K1 a0 a2) (rt Zao.out) := by
 unfold Zao.K1
 refine seq <| sr 9 <| J.k 1 0 rfl Ty31 (Za7 _) <| J.j 3 3 .bool ?_ ?_ fun y20 => ?_
 ·exact J.C 1 F69 (Ziq _) fun r19 => J.e 2
 ·exact J.e 4
 refine J.z 0 <| J.f ?_ ?_
 ·exact sr 1 <| J.z 1 <| J.r
 exact SJ.skip <| sr 1 <| J.z 1 <| J.r
noncomputable def Zao.F1 (a0 : Zar) (a2 : Int) (b1 : Nat) : LF Int Int := ⟨[.inBlock 2, .code (c2 (c2 (c2 (c2 (c2 Zao.B)))))], c1 (c2 (c1 (c2 (c2 (c2 (c2 Zao.B)))))), fun s_ => [(2, .int .i64 a2), (3, .pointer (some (pt b1 0))), (42, Sl.v a0.Ports), (43, .int .i64 (a0.Ports.len : Int)), (44, .int .i64 s_)], fun s_ => [(b1, ZaM.enc a0)], (rt Zao.out)⟩
noncomputable def Zao.L1 (a0 : Zar) (a2 : Int) (s11 : Int) : M (LS Int Int) :=
 if s11 < (a0.Ports.len : Int) then
  idx a0.Ports.a a0.Ports.len s11 2 >>= fun p22 =>
  ld Zbd p22 >>= fun x23 =>
  slot 131 >>= fun b24 =>
  (if x23.Lo < 0 then
    pure true
   else
    pure (decide (x23.Hi > 65535))) >>= fun y25 =>
  (if y25 = true then
    pure true
   else
    pure (decide (x23.Lo > x23.Hi))) >>= fun y26 =>
  if y26 = true then
   pure (LS.done 164)
  else
   pure (LS.next (wrap .i64 (s11 + 1)))
 else
  (Zao.K1 a0 a2) >>= fun b => pure (LS.done b)
theorem Zao.L1_ok (a0 : Zar) (a2 : Int) (b1 : Nat) : LJ Zao.cx (Zao.F1 a0 a2 b1) (fun s_ => Zao.L1 a0 a2 s_) := by
 rintro s11
 show SJ _ _ _ _ (Zao.L1 a0 a2 s11) _
 unfold Zao.L1
 refine sr 1 <| J.z 1 <| seq <| J.f ?_ ?_
 ·refine SJ.skip <| seq <| block (id := 3) <| sr 4 <| J.i 0 fun p22 => J.l 0 Zgj fun x23 => J.a 0 Zgj fun b24 => J.s 0 0 rfl Zgj (Upd.w x23) <| J.z 0 <| sr 15 <| J.k 1 0 rfl Ty3 (ZdK _) <| J.j 2 3 .bool ?_ ?_ fun y25 => ?_
  ·exact J.e 4
  ·exact J.k 1 0 rfl Ty3 (ZdL _) <| J.e 2
  refine J.j 1 5 .bool ?_ ?_ fun y26 => ?_
  ·exact J.e 6
  ·exact J.k 1 0 rfl Ty3 (ZdK _) <| J.k 1 0 rfl Ty3 (ZdL _) <| J.e 2
  refine J.z 0 <| J.f ?_ ?_
  ·exact sr 1 <| J.z 1 <| J.r
  exact SJ.skip <| inBlock <| SJ.rg 2 <| J.z 2 <| forget (List.Sublist.cons _ (List.Sublist.cons_cons _ List.Sublist.slnil)) <| J.o rfl
 exact exit (id := 2) (by rfl) <| J.q <| SJ.done <| Zao.K1_ok a0 a2 b1
noncomputable def Zao.K2 (a0 : Zar) (a2 : Int) : M Int :=
 if (a0.Ports.len : Int) > 16 then
  pure 164
 else
  Zcn (fun s_ : Int => Zao.L1 a0 a2 s_) 0
theorem Zao.K2_ok (a0 : Zar) (a2 : Int) (b1 : Nat) :
  SJ Zao.cx [.code (c2 (c2 (c2 Zao.B)))] [(2, .int .i64 a2), (3, .pointer (some (pt b1 0)))] [(b1, ZaM.enc a0)] (Zao.K2 a0 a2) (rt Zao.out) := by
 unfold Zao.K2
 refine seq <| sr 4 <| J.k 1 0 rfl Ty31 (Za7 _) <| J.z 2 <| J.f ?_ ?_
 ·exact sr 1 <| J.z 1 <| J.r
 exact SJ.skip <| seq <| sr 4 <| J.k 1 0 rfl Ty31 (Za7 _) <| J.z 2 <| block (id := 2) <| J.L (Zao.L1_ok a0 a2 b1)
noncomputable def Zao.F2 (a0 : Zar) (a1 : Int) (a2 : Int) (b1 : Nat) : LF Int Int := ⟨[.inBlock 0, .code (c2 (c2 (c2 Zao.B)))], c1 (c2 (c1 (c2 (c2 Zao.B)))), fun s_ => [(1, .int .i64 a1), (2, .int .i64 a2), (3, .pointer (some (pt b1 0))), (26, Sl.v a0.Nets), (27, .int .i64 (a0.Nets.len : Int)), (28, .int .i64 s_)], fun s_ => [(b1, ZaM.enc a0)], (rt Zao.out)⟩
noncomputable def Zao.L2 (a0 : Zar) (a1 : Int) (a2 : Int) (s4 : Int) : M (LS Int Int) :=
 if s4 < (a0.Nets.len : Int) then
  idx a0.Nets.a a0.Nets.len s4 18 >>= fun p30 =>
  ld ZaI p30 >>= fun x31 =>
  slot 129 >>= fun b32 =>
  ZdS x31 a1 >>= fun r33 =>
  if ¬ (r33 = true) then
   pure (LS.done 163)
  else
   pure (LS.next (wrap .i64 (s4 + 1)))
 else
  (Zao.K2 a0 a2) >>= fun b => pure (LS.done b)
theorem Zao.L2_ok (a0 : Zar) (a1 : Int) (a2 : Int) (b1 : Nat) : LJ Zao.cx (Zao.F2 a0 a1 a2 b1) (fun s_ => Zao.L2 a0 a1 a2 s_) := by
 rintro s4
 show SJ _ _ _ _ (Zao.L2 a0 a1 a2 s4) _
 unfold Zao.L2
 refine sr 1 <| J.z 1 <| seq <| J.f ?_ ?_
 ·refine SJ.skip <| seq <| block (id := 1) <| sr 4 <| J.i 0 fun p30 => J.l 0 Zc5 fun x31 => J.a 0 Zc5 fun b32 => J.s 0 0 rfl Zc5 (Upd.w x31) <| J.z 0 <| sr 4 <| J.k 0 0 rfl Zc5 (At.whole _) <| J.C 1 F71 (Zh0 _ _) fun r33 => J.z 1 <| J.f ?_ ?_
  ·exact sr 1 <| J.z 1 <| J.r
  exact SJ.skip <| inBlock <| SJ.rg 2 <| J.z 2 <| forget (List.Sublist.cons _ (List.Sublist.cons_cons _ List.Sublist.slnil)) <| J.o rfl
 exact exit (id := 0) (by rfl) <| J.q <| SJ.done <| Zao.K2_ok a0 a2 b1
noncomputable def Zao (a0 : Zar) (a1 : Int) (a2 : Int) : M Int :=
 slot 33 >>= fun b1 =>
 (if (a0.Nets.len : Int) > 16 then
   pure true
  else
   (if a0.Not = true then
     pure ((a0.Nets.len : Int) == 0)
    else
     pure false) >>= fun y2 =>
   pure y2) >>= fun y3 =>
 if y3 = true then
  pure 163
 else
  Zcn (fun s_ : Int => Zao.L2 a0 a1 a2 s_) 0
theorem ZgL (a0 : Zar) (a1 : Int) (a2 : Int) : Ref Tryz.prog 48 [ZaM.val a0, .int .i64 a1, .int .i64 a2] (Zao a0 a1 a2) Zao.out := by
 refine J.Fn Tryz.func48 ?_
 unfold Zao
 refine sr 2 <| J.b 0 ZaM a0 fun b1 => J.z 1 <| seq <| sr 14 <| J.k 1 0 rfl Ty30 (ZaF _) <| J.g 3 <| OJ.join (b := decide ((a0.Nets.len : Int) > 16)) [5, 6, 7, 8, 9, 10, 11, 12, 13] [] [1, 2, 3, 24] (fun y3 => [(1, .int .i64 a1), (2, .int .i64 a2), (3, .pointer (some (pt b1 0))), (24, .bool y3)]) [] [] (t := 15) ze (fun hp_ => ?_) (fun hp_ => ?_) (fun _ _ _ _ _ _ h_ => h_) fun y3 => ?_
 ·exact J.g 9 <| OJ.nil ⟨(Cov.mem Cov.nil), rfl, _, rfl, by kernel_rfl⟩
 ·refine J.k 1 0 rfl Ty4 (ZaS _) <| J.g 1 <| OJ.join (b := a0.Not) [8, 9, 10, 11, 12] [13] [1, 2, 3, 15, 23] (fun y2 => [(1, .int .i64 a1), (2, .int .i64 a2), (3, .pointer (some (pt b1 0))), (15, .bool false), (23, .bool y2)]) [] [] (t := 18) Iff.rfl (fun hp_ => ?_) (fun hp_ => ?_) (fun _ _ _ _ _ hq_ h_ => ⟨fun e_ he_ => (hq_ e_ he_).elim (fun h => h_.1 e_ h) (fun h => nomatch h), h_.2⟩) fun y2 => ?_
  ·exact J.k 1 0 rfl Ty30 (ZaF _) <| J.g 3 <| OJ.nil ⟨(Cov.mem Cov.nil), rfl, _, rfl, by kernel_rfl⟩
  ·exact J.g 5 <| OJ.nil ⟨(Cov.mem Cov.nil), rfl, _, rfl, by kernel_rfl⟩
  exact J.g 1 <| OJ.nil ⟨(Cov.mem Cov.nil), rfl, _, rfl, by kernel_rfl⟩
 refine J.z 0 <| J.f ?_ ?_
 ·exact sr 1 <| J.z 1 <| J.r
 exact SJ.skip <| seq <| sr 4 <| J.k 1 0 rfl Ty30 (ZaF _) <| J.z 2 <| block (id := 0) <| J.L (Zao.L2_ok a0 a1 a2 b1)

noncomputable def Za4.B : Code := bod Tryz.f23
noncomputable def Za4.cx : Fx := ⟨Tryz.prog, 23, Tryz.f23, none⟩
noncomputable def Za4.out (r_ : Int) : Value := .int .i64 r_
noncomputable def Za4.K1 (a0 : Zaf) (j56 : Bool) : M Int :=
 if j56 = true then
  pure 165
 else
  Zao a0.From a0.Kind a0.Proto >>= fun r57 =>
  if r57 ≠ 0 then
   pure r57
  else
   Zao a0.To a0.Kind a0.Proto >>= fun r58 =>
   pure r58
theorem Za4.K1_ok (a0 : Zaf) (b1 : Nat) (j56 : Bool) :
  SJ Za4.cx [.code (c2 (c2 (c2 (c2 (c2 (c1 (c1 (c2 (c2 (c2 Za4.B)))))))))), .inBlock 0, .code (c2 (c2 (c2 (c2 Za4.B))))] [(1, .pointer (some (pt b1 0))), (77, .bool j56)] [(b1, Zah.enc a0)] (Za4.K1 a0 j56) (rt Za4.out) := by
 unfold Za4.K1
 refine J.f ?_ ?_
 ·exact sr 1 <| J.z 1 <| J.r
 refine SJ.skip <| inBlock <| seq <| sr 8 <| J.k 1 0 rfl Ty33 (Zb6 _) <| J.k 1 0 rfl Ty3 (ZbY _) <| J.k 1 0 rfl Ty3 (ZbD _) <| J.C 0 F48 (ZgL _ _ _) fun r57 => J.z 1 <| sr 2 <| J.z 2 <| J.f ?_ ?_
 ·exact sr 2 <| J.z 2 <| J.r
 exact SJ.skip <| sr 8 <| J.k 1 0 rfl Ty33 (Zb9 _) <| J.k 1 0 rfl Ty3 (ZbY _) <| J.k 1 0 rfl Ty3 (ZbD _) <| J.C 0 F48 (ZgL _ _ _) fun r58 => J.z 1 <| J.r
noncomputable def Za4.K2 (a0 : Zaf) (j44 : Bool) : M Int :=
 if j44 = true then
  pure 165
 else
  (if (bor .i64 a0.Set a0.Clear) ≠ 0 then
    pure (a0.Proto != 6)
   else
    pure false) >>= fun y53 =>
  if y53 = true then
   Za4.K1 a0 y53
  else
   (if a0.Type_ ≠ 0 then
     Zep a0.Proto >>= fun r61 =>
     pure (!r61)
    else
     pure false) >>= fun y62 =>
   Za4.K1 a0 y62
theorem Za4.K2_ok (a0 : Zaf) (b1 : Nat) (j44 : Bool) :
  SJ Za4.cx [.code (c2 (c2 (c2 (c1 (c1 (c2 (c2 (c2 Za4.B)))))))), .inBlock 0, .code (c2 (c2 (c2 (c2 Za4.B))))] [(1, .pointer (some (pt b1 0))), (60, .bool j44)] [(b1, Zah.enc a0)] (Za4.K2 a0 j44) (rt Za4.out) := by
 unfold Za4.K2
 refine J.f ?_ ?_
 ·exact sr 1 <| J.z 1 <| J.r
 refine seq <| sr 12 <| J.k 1 0 rfl Ty3 (ZcD _) <| J.k 1 0 rfl Ty3 (Zca _) <| J.j 3 3 .bool ?_ ?_ fun y53 => ?_
 ·exact J.k 1 0 rfl Ty3 (ZbD _) <| J.e 2
 ·exact J.e 4
 refine J.z 1 <| J.f ?_ ?_
 ·exact SJ.skip <| J.q <| Za4.K1_ok a0 b1 y53
 refine SJ.rg 10 <| J.k 1 0 rfl Ty3 (ZcP _) <| J.j 2 4 .bool ?_ ?_ fun y62 => ?_
 ·exact J.k 1 0 rfl Ty3 (ZbD _) <| J.C 0 F20 (Zjk _) fun r61 => J.e 2
 ·exact J.e 5
 exact J.z 1 <| J.q <| Za4.K1_ok a0 b1 y62
noncomputable def Za4 (a0 : Zaf) : M Int :=
 slot 35 >>= fun b1 =>
 ZbT a0.Act 1 3 >>= fun r2 =>
 (if r2 = true then
   ZbT a0.Class 0 7 >>= fun r3 =>
   pure r3
  else
   pure false) >>= fun y4 =>
 (if y4 = true then
   ZbT a0.Kind 0 3 >>= fun r5 =>
   pure r5
  else
   pure false) >>= fun y6 =>
 (if y6 = true then
   ZbT a0.Proto 0 255 >>= fun r7 =>
   pure r7
  else
   pure false) >>= fun y8 =>
 (if y8 = true then
   ZbT a0.In 0 8 >>= fun r9 =>
   pure r9
  else
   pure false) >>= fun y10 =>
 (if y10 = true then
   ZbT a0.Vid 0 4094 >>= fun r11 =>
   pure r11
  else
   pure false) >>= fun y12 =>
 (if y12 = true then
   ZbT a0.Set 0 255 >>= fun r13 =>
   pure r13
  else
   pure false) >>= fun y14 =>
 (if y14 = true then
   ZbT a0.Clear 0 255 >>= fun r15 =>
   pure r15
  else
   pure false) >>= fun y16 =>
 (if y16 = true then
   ZbT a0.Type_ 0 256 >>= fun r17 =>
   pure r17
  else
   pure false) >>= fun y18 =>
 (if y18 = true then
   pure ((band .i64 a0.Set a0.Clear) == 0)
  else
   pure false) >>= fun y19 =>
 if ¬ (y19 = true) then
  pure 166
 else
  (if a0.Class ≠ 0 then
    pure (a0.Act != 1)
   else
    pure false) >>= fun y42 =>
  if y42 = true then
   Za4.K2 a0 y42
  else
   (if a0.Proto ≠ 0 then
     pure (a0.Kind == 1)
    else
     pure false) >>= fun y65 =>
   Za4.K2 a0 y65
theorem ZgZ (a0 : Zaf) : Ref Tryz.prog 23 [Zah.val a0] (Za4 a0) Za4.out := by
 refine J.Fn Tryz.func23 ?_
 unfold Za4
 refine sr 2 <| J.b 0 Zah a0 fun b1 => J.z 1 <| sr 24 <| J.k 1 0 rfl Ty3 (ZcE _) <| J.C 0 F47 (Zcj _ _ _) fun r2 => J.j 1 3 .bool ?_ ?_ fun y4 => ?_
 ·exact J.k 1 0 rfl Ty3 (Zdc _) <| J.C 0 F47 (Zcj _ _ _) fun r3 => J.e 1
 ·exact J.e 4
 refine J.j 1 3 .bool ?_ ?_ fun y6 => ?_
 ·exact J.k 1 0 rfl Ty3 (ZbY _) <| J.C 0 F47 (Zcj _ _ _) fun r5 => J.e 1
 ·exact J.e 4
 refine J.j 1 3 .bool ?_ ?_ fun y8 => ?_
 ·exact J.k 1 0 rfl Ty3 (ZbD _) <| J.C 0 F47 (Zcj _ _ _) fun r7 => J.e 1
 ·exact J.e 4
 refine J.j 1 3 .bool ?_ ?_ fun y10 => ?_
 ·exact J.k 1 0 rfl Ty3 (Zd6 _) <| J.C 0 F47 (Zcj _ _ _) fun r9 => J.e 1
 ·exact J.e 4
 refine J.z 1 <| sr 30 <| J.j 2 3 .bool ?_ ?_ fun y12 => ?_
 ·exact J.k 1 0 rfl Ty3 (ZdJ _) <| J.C 0 F47 (Zcj _ _ _) fun r11 => J.e 1
 ·exact J.e 4
 refine J.j 1 3 .bool ?_ ?_ fun y14 => ?_
 ·exact J.k 1 0 rfl Ty3 (ZcD _) <| J.C 0 F47 (Zcj _ _ _) fun r13 => J.e 1
 ·exact J.e 4
 refine J.j 1 3 .bool ?_ ?_ fun y16 => ?_
 ·exact J.k 1 0 rfl Ty3 (Zca _) <| J.C 0 F47 (Zcj _ _ _) fun r15 => J.e 1
 ·exact J.e 4
 refine J.j 1 3 .bool ?_ ?_ fun y18 => ?_
 ·exact J.k 1 0 rfl Ty3 (ZcP _) <| J.C 0 F47 (Zcj _ _ _) fun r17 => J.e 1
 ·exact J.e 4
 refine J.j 1 6 .bool ?_ ?_ fun y19 => ?_
 ·exact J.k 1 0 rfl Ty3 (ZcD _) <| J.k 1 0 rfl Ty3 (Zca _) <| J.e 3
 ·exact J.e 7
 refine J.z 1 <| seq <| block (id := 0) <| sr 3 <| J.z 3 <| J.f ?_ ?_
 ·exact sr 1 <| J.z 1 <| J.r
 refine seq <| sr 9 <| J.k 1 0 rfl Ty3 (Zdc _) <| J.j 2 3 .bool ?_ ?_ fun y42 => ?_
 ·exact J.k 1 0 rfl Ty3 (ZcE _) <| J.e 2
 ·exact J.e 4
 refine J.z 1 <| J.f ?_ ?_
 ·exact SJ.skip <| J.q <| Za4.K2_ok a0 b1 y42
 refine SJ.rg 9 <| J.k 1 0 rfl Ty3 (ZbD _) <| J.j 2 3 .bool ?_ ?_ fun y65 => ?_
 ·exact J.k 1 0 rfl Ty3 (ZbY _) <| J.e 2
 ·exact J.e 4
 exact J.z 1 <| J.q <| Za4.K2_ok a0 b1 y65

noncomputable def Zb5.B : Code := bod Tryz.f7
noncomputable def Zb5.cx : Fx := ⟨Tryz.prog, 7, Tryz.f7, none⟩
noncomputable def Zb5.out (r_ : ((Option Addr) × Int × Int)) : Value := .tuple #[.pointer r_.1, .int .i64 r_.2.1, .int .i64 r_.2.2]
noncomputable def Zb5.F1 (a0 : Sl) (b1 : Nat) : LF Int ((Option Addr) × Int × Int) := ⟨[.inBlock 0, .code (c2 (c2 (c2 (c2 Zb5.B))))], c1 (c2 (c1 (c2 (c2 (c2 Zb5.B))))), fun s_ => [(5, .pointer (some (pt b1 0))), (14, Sl.v a0), (15, .int .i64 (a0.len : Int)), (16, .int .i64 s_)], fun s_ => [], (rt Zb5.out)⟩
noncomputable def Zb5.L1 (a0 : Sl) (b1 : Nat) (s2 : Int) : M (LS Int ((Option Addr) × Int × Int)) :=
 if s2 < (a0.len : Int) then
  idx a0.a a0.len s2 16 >>= fun p10 =>
  ld Zah p10 >>= fun x11 =>
  slot 35 >>= fun b12 =>
  Za4 x11 >>= fun r13 =>
  if r13 ≠ 0 then
   pure (LS.done (none, r13, s2))
  else
   ZdU (some (pt b1 0)) x11 >>= fun r14 =>
   pure (LS.next (wrap .i64 (s2 + 1)))
 else
  pure (LS.done ((some (pt b1 0)), 0, 0))
theorem Zb5.L1_ok (a0 : Sl) (b1 : Nat) : LJ Zb5.cx (Zb5.F1 a0 b1) (fun s_ => Zb5.L1 a0 b1 s_) := by
 rintro s2
 show SJ _ _ _ _ (Zb5.L1 a0 b1 s2) _
 unfold Zb5.L1
 refine sr 1 <| J.z 1 <| seq <| J.f ?_ ?_
 ·refine SJ.skip <| seq <| block (id := 1) <| sr 6 <| J.i 1 fun p10 => J.l 0 Ty35 fun x11 => J.a 0 Ty35 fun b12 => J.s 1 0 rfl Ty35 (Upd.w x11) <| J.z 0 <| seq <| sr 3 <| J.k 0 0 rfl Ty35 (At.whole _) <| J.C 0 F23 (ZgZ _) fun r13 => J.z 1 <| sr 2 <| J.z 2 <| J.f ?_ ?_
  ·exact sr 5 <| J.z 5 <| J.r
  exact SJ.skip <| SJ.rg 3 <| J.k 1 0 rfl Ty35 (At.whole _) <| J.C 0 F16 (Zh1 _ _) fun r14 => J.z 0 <| inBlock <| SJ.rg 2 <| J.z 2 <| forget (List.Sublist.cons _ List.Sublist.slnil) <| J.o rfl
 exact exit (id := 0) (by rfl) <| sr 4 <| J.z 4 <| J.r
noncomputable def Zb5 (a0 : Sl) : M ((Option Addr) × Int × Int) :=
 if (a0.len : Int) > 256 then
  pure (none, 167, 256)
 else
  newv 79 ZcM Zhx >>= fun b1 =>
  Zcn (fun s_ : Int => Zb5.L1 a0 b1 s_) 0
theorem Zpp (a0 : Sl) : Ref Tryz.prog 7 [Sl.v a0] (Zb5 a0) Zb5.out := by
 refine J.Fn Tryz.func7 ?_
 unfold Zb5
 refine sr 3 <| J.z 3 <| seq <| sr 3 <| J.z 3 <| J.f ?_ ?_
 ·exact sr 3 <| J.z 3 <| J.r
 exact SJ.skip <| sr 3 <| J.u 0 Ty79 .nil <| J.B 0 fun b1 => J.z 1 <| seq <| sr 3 <| J.z 3 <| block (id := 0) <| J.L (Zb5.L1_ok a0 b1)

noncomputable def Zdd.B : Code := bod Tryz.f24
noncomputable def Zdd.out (r_ : (ByteArray × Zaf)) : Value := .tuple #[.string r_.1, Zah.val r_.2]
noncomputable def Zdd  : M (ByteArray × Zaf) :=
 slot 35 >>= fun b1 =>
 slot 129 >>= fun b2 =>
 draws 24 2 (Zfn (c1 (c2 (c2 Zdd.B)))) >>= fun o3 =>
 if bfr o3 1 4 = true then
  newv 129 (ZaI.arr 1) (⟨[(⟨(⟨4, (⟨[10, 0, 0, 0, 0, 0, 0, 0, 0, 0, 0, 0, 0, 0, 0, 0], rfl⟩ : (Vec Int 16))⟩ : Zbw), 8⟩ : Zag)], rfl⟩ : Vec Zag 1) >>= fun b10 =>
  newv 131 (Zbd.arr 1) (⟨[(⟨80, 80⟩ : ZaH)], rfl⟩ : Vec ZaH 1) >>= fun b11 =>
  pure (Zv0, (⟨1, ZaL.Class, ZaL.Kind, 6, ZaL.In, ZaL.Vid, (⟨Za6.Not, (⟨some (pt b10 0), 1, 1⟩ : Sl), Za6.Ports⟩ : Zar), (⟨Za6.Not, Za6.Nets, (⟨some (pt b11 0), 1, 1⟩ : Sl)⟩ : Zar), ZaL.Set, ZaL.Clear, ZaL.Type_, ZaL.Pieces⟩ : Zaf))
 else
  newv 131 (Zbd.arr 1) (⟨[(⟨80, 80⟩ : ZaH)], rfl⟩ : Vec ZaH 1) >>= fun b12 =>
  newv 129 (ZaI.arr 1) (⟨[(⟨(⟨4, (⟨[10, 0, 0, 0, 0, 0, 0, 0, 0, 0, 0, 0, 0, 0, 0, 0], rfl⟩ : (Vec Int 16))⟩ : Zbw), 8⟩ : Zag)], rfl⟩ : Vec Zag 1) >>= fun b13 =>
  pure (Zv0, (⟨1, ZaL.Class, ZaL.Kind, 6, ZaL.In, ZaL.Vid, (⟨Za6.Not, (⟨some (pt b13 0), 1, 1⟩ : Sl), Za6.Ports⟩ : Zar), (⟨Za6.Not, Za6.Nets, (⟨some (pt b12 0), 1, 1⟩ : Sl)⟩ : Zar), ZaL.Set, ZaL.Clear, ZaL.Type_, ZaL.Pieces⟩ : Zaf))
theorem ZkD  : Ref Tryz.prog 24 [] (Zdd) Zdd.out := by
 refine J.Fn Tryz.func24 ?_
 unfold Zdd
 refine sr 2 <| J.a 1 Ty35 fun b1 => J.z 0 <| sr 5 <| OJ.build (d := 3) (T := 48) (parts := [(0, .const (.int .u8 10))]) (ps := [(0, (cI .u8).val 10)]) (cd := ((cI .u8).arr 16)) (z0 := (Vec.rep 16 0)) (⟨[10, 0, 0, 0, 0, 0, 0, 0, 0, 0, 0, 0, 0, 0, 0, 0], rfl⟩ : (Vec Int 16)) Ty48 rfl (Zcg.cons (cd := (cI .u8)) (q := 10) (o := 0) (by kernel_rfl) (Upd.arr (i := 0) (by decide) (by decide)) Zcg.nil) <| J.u 0 Ty50 (.f 0 (ZjU _ 4) (.f 1 (ZjV _ (⟨[10, 0, 0, 0, 0, 0, 0, 0, 0, 0, 0, 0, 0, 0, 0, 0], rfl⟩ : (Vec Int 16))) .nil)) <| J.u 0 Zc5 (.f 0 (Zf5 _ (⟨4, (⟨[10, 0, 0, 0, 0, 0, 0, 0, 0, 0, 0, 0, 0, 0, 0, 0], rfl⟩ : (Vec Int 16))⟩ : Zbw)) (.f 1 (ZeZ _ 8) .nil)) <| J.a 0 Zc5 fun b2 => J.s 0 0 rfl Zc5 (Upd.w (⟨(⟨4, (⟨[10, 0, 0, 0, 0, 0, 0, 0, 0, 0, 0, 0, 0, 0, 0, 0], rfl⟩ : (Vec Int 16))⟩ : Zbw), 8⟩ : Zag)) <| J.z 0 <| seq <| SJ.draws (id := 2) (kd := [1, 2, 0, 0, 2, 0, 0, 0, 2]) (bef := [0, 1, 3, 0, 8, 24, 63, 0, 255]) (ord := [0, 1, 2, 3, 4, 5, 6, 7, 8]) (E := [(1, 4)]) ZcY fun o3 hg_ => SJ.bfr hg_ (by decide) (fun ho9 => ?_) fun ho9 => ?_
 ·exact SJ.leaf hg_ (kd := [1, 2, 0, 0, 2, 0, 0, 0, 2]) (bef := [0, 1, 3, 0, 8, 24, 63, 0, 255]) (ord := [0, 1, 2, 3, 4, 5, 6, 7, 8]) (E := [(1, 4)]) (allB.cons ho9 allB.nil) <| J.k 0 0 rfl Zc5 (At.whole _) <| J.N 0 Zc5 fun b10 => J.u 0 Ty33 (.f 1 (Ze9 _ (⟨some (pt b10 0), 1, 1⟩ : Sl)) .nil) <| J.u 0 Zgj (.f 0 (ZfF _ 80) (.f 1 (ZfG _ 80) .nil)) <| OJ.rowNew (d := 10) (t := 31) (parts := [(0, .tmp 9)]) (ps := [(0, Zbd.val (⟨80, 80⟩ : ZaH))]) (cd := Zbd) (owed := [⟨0, 129, (pt b2 0), ZaI.val (⟨(⟨4, (⟨[10, 0, 0, 0, 0, 0, 0, 0, 0, 0, 0, 0, 0, 0, 0, 0], rfl⟩ : (Vec Int 16))⟩ : Zbw), 8⟩ : Zag)⟩]) Zgj (Zcg.cons (cd := Zbd) (q := (⟨80, 80⟩ : ZaH)) (o := 0) rfl (Upd.arr (i := 0) (by decide) (by decide)) Zcg.nil) fun b11 => OW.known (j := 0) (q := (⟨(⟨4, (⟨[10, 0, 0, 0, 0, 0, 0, 0, 0, 0, 0, 0, 0, 0, 0, 0], rfl⟩ : (Vec Int 16))⟩ : Zbw), 8⟩ : Zag)) Zc5 rfl (At.whole _) <| OW.nil <| J.u 0 Ty33 (.f 2 (ZeX _ (⟨some (pt b11 0), 1, 1⟩ : Sl)) .nil) <| J.u 0 Ty35 (.f 0 (ZeR _ 1) (.f 3 (ZeY _ 6) (.f 6 (ZeC _ (⟨Za6.Not, (⟨some (pt b10 0), 1, 1⟩ : Sl), Za6.Ports⟩ : Zar)) (.f 7 (Ze7 _ (⟨Za6.Not, Za6.Nets, (⟨some (pt b11 0), 1, 1⟩ : Sl)⟩ : Zar)) .nil)))) <| J.s 1 1 rfl Ty35 (Upd.w (⟨1, ZaL.Class, ZaL.Kind, 6, ZaL.In, ZaL.Vid, (⟨Za6.Not, (⟨some (pt b10 0), 1, 1⟩ : Sl), Za6.Ports⟩ : Zar), (⟨Za6.Not, Za6.Nets, (⟨some (pt b11 0), 1, 1⟩ : Sl)⟩ : Zar), ZaL.Set, ZaL.Clear, ZaL.Type_, ZaL.Pieces⟩ : Zaf)) <| J.z 0 <| J.rc (.c 1 rfl Ty35 .n)
 exact SJ.leaf hg_ (kd := [1, 2, 0, 0, 2, 0, 0, 0, 2]) (bef := [0, 1, 3, 0, 8, 24, 63, 0, 255]) (ord := [0, 3, 4, 1, 2, 5, 6, 7, 8]) (E := [(4, 1)]) (allB.cons ho9 allB.nil) <| J.k 0 0 rfl Zc5 (At.whole _) <| J.u 0 Zgj (.f 0 (ZfF _ 80) (.f 1 (ZfG _ 80) .nil)) <| OJ.rowNew (d := 10) (t := 31) (parts := [(0, .tmp 9)]) (ps := [(0, Zbd.val (⟨80, 80⟩ : ZaH))]) (cd := Zbd) (owed := [⟨0, 129, (pt b2 0), ZaI.val (⟨(⟨4, (⟨[10, 0, 0, 0, 0, 0, 0, 0, 0, 0, 0, 0, 0, 0, 0, 0], rfl⟩ : (Vec Int 16))⟩ : Zbw), 8⟩ : Zag)⟩]) Zgj (Zcg.cons (cd := Zbd) (q := (⟨80, 80⟩ : ZaH)) (o := 0) rfl (Upd.arr (i := 0) (by decide) (by decide)) Zcg.nil) fun b12 => OW.known (j := 0) (q := (⟨(⟨4, (⟨[10, 0, 0, 0, 0, 0, 0, 0, 0, 0, 0, 0, 0, 0, 0, 0], rfl⟩ : (Vec Int 16))⟩ : Zbw), 8⟩ : Zag)) Zc5 rfl (At.whole _) <| OW.nil <| J.N 0 Zc5 fun b13 => J.u 0 Ty33 (.f 1 (Ze9 _ (⟨some (pt b13 0), 1, 1⟩ : Sl)) .nil) <| J.u 0 Ty33 (.f 2 (ZeX _ (⟨some (pt b12 0), 1, 1⟩ : Sl)) .nil) <| J.u 0 Ty35 (.f 0 (ZeR _ 1) (.f 3 (ZeY _ 6) (.f 6 (ZeC _ (⟨Za6.Not, (⟨some (pt b13 0), 1, 1⟩ : Sl), Za6.Ports⟩ : Zar)) (.f 7 (Ze7 _ (⟨Za6.Not, Za6.Nets, (⟨some (pt b12 0), 1, 1⟩ : Sl)⟩ : Zar)) .nil)))) <| J.s 1 1 rfl Ty35 (Upd.w (⟨1, ZaL.Class, ZaL.Kind, 6, ZaL.In, ZaL.Vid, (⟨Za6.Not, (⟨some (pt b13 0), 1, 1⟩ : Sl), Za6.Ports⟩ : Zar), (⟨Za6.Not, Za6.Nets, (⟨some (pt b12 0), 1, 1⟩ : Sl)⟩ : Zar), ZaL.Set, ZaL.Clear, ZaL.Type_, ZaL.Pieces⟩ : Zaf)) <| J.z 0 <| J.rc (.c 1 rfl Ty35 .n)

noncomputable def Zeo.out (r_ : ByteArray) : Value := .string r_
noncomputable def Zeo (a0 : Int) : M ByteArray :=
 if a0 < 10 then
  chk (0 ≤ (a0 : Int) ∧ (a0 : Int) ≤ (wrap .i64 (a0 + 1)) ∧ (wrap .i64 (a0 + 1)) ≤ (ZkF.size : Int)) >>= fun _ =>
  pure (ByteArray.extract ZkF (Int.toNat a0) (Int.toNat (wrap .i64 (a0 + 1))))
 else
  chk (0 ≤ ((wrap .i64 (a0 * 2)) : Int) ∧ ((wrap .i64 (a0 * 2)) : Int) ≤ (wrap .i64 ((wrap .i64 (a0 * 2)) + 2)) ∧ (wrap .i64 ((wrap .i64 (a0 * 2)) + 2)) ≤ (ZeU.size : Int)) >>= fun _ =>
  pure (ByteArray.extract ZeU (Int.toNat (wrap .i64 (a0 * 2))) (Int.toNat (wrap .i64 ((wrap .i64 (a0 * 2)) + 2))))
theorem Zlx (a0 : Int) : Ref Tryz.prog 119 [.int .i64 a0] (Zeo a0) Zeo.out := by
 refine J.Fn Tryz.func119 ?_
 unfold Zeo
 refine sr 1 <| J.z 1 <| seq <| sr 2 <| J.z 2 <| J.f ?_ ?_
 ·exact sr 5 <| J.ct 3 <| J.z 1 <| J.r
 exact SJ.skip <| sr 7 <| J.ct 5 <| J.z 1 <| J.r

noncomputable def Zbj.B : Code := bod Tryz.f135
noncomputable def Zbj.cx : Fx := ⟨Tryz.prog, 135, Tryz.f135, none⟩
noncomputable def Zbj.out (r_ : Int) : Value := .int .i64 r_
noncomputable def Zbj.K1 (j3 : Int) (j4 : Int) : M Int :=
 if j3 ≥ 256 then
  chk ((0 : Int) ≤ (wrap .u8 (Int.fdiv j3 (2 ^ 8))) ∧ (wrap .u8 (Int.fdiv j3 (2 ^ 8))) < (Zi6.size : Int)) >>= fun _ =>
  pure (wrap .i64 ((wrap .i64 (j4 + 8)) + (wrap .i64 (sb Zi6 (wrap .u8 (Int.fdiv j3 (2 ^ 8)))))))
 else
  chk ((0 : Int) ≤ (wrap .u8 j3) ∧ (wrap .u8 j3) < (Zi6.size : Int)) >>= fun _ =>
  pure (wrap .i64 (j4 + (wrap .i64 (sb Zi6 (wrap .u8 j3)))))
theorem Zbj.K1_ok (j3 : Int) (j4 : Int) :
  SJ Zbj.cx [.code (c2 (c2 (c2 Zbj.B)))] [(0, .int .u64 j3), (2, .int .i64 j4)] [] (Zbj.K1 j3 j4) (rt Zbj.out) := by
 unfold Zbj.K1
 refine seq <| sr 2 <| J.z 2 <| J.f ?_ ?_
 ·exact sr 3 <| J.z 3 <| SJ.rg 3 <| J.z 3 <| sr 7 <| J.t 3 fun hb5 hb6 => J.z 3 <| J.r
 exact SJ.skip <| sr 7 <| J.t 3 fun hb7 hb8 => J.z 3 <| J.r
noncomputable def Zbj.K2 (j1 : Int) (j2 : Int) : M Int :=
 if j1 ≥ 65536 then
  Zbj.K1 (Int.fdiv j1 (2 ^ 16)) (wrap .i64 (j2 + 16))
 else
  Zbj.K1 j1 j2
theorem Zbj.K2_ok (j1 : Int) (j2 : Int) :
  SJ Zbj.cx [.code (c2 (c2 Zbj.B))] [(0, .int .u64 j1), (2, .int .i64 j2)] [] (Zbj.K2 j1 j2) (rt Zbj.out) := by
 unfold Zbj.K2
 refine seq <| sr 2 <| J.z 2 <| J.f ?_ ?_
 ·exact sr 3 <| J.z 3 <| SJ.rg 3 <| J.z 3 <| J.q <| Zbj.K1_ok (Int.fdiv j1 (2 ^ 16)) (wrap .i64 (j2 + 16))
 exact SJ.skip <| J.q <| Zbj.K1_ok j1 j2
noncomputable def Zbj (a0 : Int) : M Int :=
 if a0 ≥ 4294967296 then
  Zbj.K2 (Int.fdiv a0 (2 ^ 32)) 32
 else
  Zbj.K2 a0 0
theorem ZoU (a0 : Int) : Ref Tryz.prog 135 [.int .u64 a0] (Zbj a0) Zbj.out := by
 refine J.Fn Tryz.func135 ?_
 unfold Zbj
 refine sr 1 <| J.z 1 <| seq <| sr 2 <| J.z 2 <| J.f ?_ ?_
 ·exact sr 3 <| J.z 3 <| SJ.rg 1 <| J.z 1 <| J.q <| Zbj.K2_ok (Int.fdiv a0 (2 ^ 32)) 32
 exact SJ.skip <| J.q <| Zbj.K2_ok a0 0

noncomputable def Zc8.out (r_ : Int) : Value := .int .i64 r_
noncomputable def Zc8 (a0 : Int) : M Int :=
 pure (Int.fdiv (wrap .i64 (a0 * 78913)) (2 ^ 18))
theorem Zi4 (a0 : Int) : Ref Tryz.prog 134 [.int .i64 a0] (Zc8 a0) Zc8.out := by
 refine J.Fn Tryz.func134 ?_
 unfold Zc8
 exact sr 1 <| J.z 1 <| sr 4 <| J.z 4 <| J.r

noncomputable def Zc9.out (r_ : Int) : Value := .int .i64 r_
noncomputable def Zc9 (a0 : Bool) : M Int :=
 if a0 = true then
  pure 1
 else
  pure 0
theorem Zi5 (a0 : Bool) : Ref Tryz.prog 136 [.bool a0] (Zc9 a0) Zc9.out := by
 refine J.Fn Tryz.func136 ?_
 unfold Zc9
 refine sr 1 <| J.z 1 <| seq <| sr 1 <| J.z 1 <| J.f ?_ ?_
 ·exact sr 1 <| J.z 1 <| J.r
 exact SJ.skip <| sr 1 <| J.z 1 <| J.r

noncomputable def Zcq.out (r_ : Int) : Value := .int .i64 r_
noncomputable def Zcq (a0 : Int) : M Int :=
 Zbj a0 >>= fun r1 =>
 Zc8 r1 >>= fun r2 =>
 idx (some ⟨6, 0, none⟩) 20 r2 1 >>= fun p3 =>
 ld (cI .u64) p3 >>= fun x4 =>
 Zc9 (decide (a0 ≥ x4)) >>= fun r5 =>
 pure (wrap .i64 (r2 + r5))
theorem Zi3 (a0 : Int) : Ref Tryz.prog 120 [.int .u64 a0] (Zcq a0) Zcq.out := by
 refine J.Fn Tryz.func120 ?_
 unfold Zcq
 exact sr 1 <| J.z 1 <| sr 4 <| J.C 1 F135 (ZoU _) fun r1 => J.C 0 F134 (Zi4 _) fun r2 => J.z 1 <| sr 9 <| J.g 3 <| OJ.idxA (d := 10) (T := 247) (y := .global 6) (j := .tmp 9) (E := 229) (k := .i64) fun p3 => J.l 0 Zx0 fun x4 => J.C 1 F136 (Zi5 _) fun r5 => J.z 2 <| J.r

noncomputable def Zab.B : Code := bod Tryz.f121
noncomputable def Zab.cx : Fx := ⟨Tryz.prog, 121, Tryz.f121, none⟩
noncomputable def Zab.out (r_ : Unit) : Value := .tuple #[]
noncomputable def Zab.K1 (a0 : Sl) (j48 : Int) (j49 : Int) : M Unit :=
 if j48 > 0 then
  idx a0.a a0.len 0 1 >>= fun p51 =>
  st (cI .u8) p51 (wrap .u8 (wrap .u32 (48 + j49))) >>= fun _ =>
  pure ()
 else
  pure ()
theorem Zab.K1_ok (a0 : Sl) (j48 : Int) (j49 : Int) :
  SJ Zab.cx [.code (c2 (c2 (c2 (c2 (c2 Zab.B)))))] [(0, Sl.v a0), (4, .int .i64 j48), (12, .int .u32 j49)] [] (Zab.K1 a0 j48 j49) (rt Zab.out) := by
 unfold Zab.K1
 refine sr 2 <| J.z 2 <| J.f ?_ ?_
 ·exact SJ.rg 6 <| J.i 4 fun p51 => J.w 0 Ty5 <| J.z 0 <| SJ.end_ rfl (Res.run (ys := []) .nil rfl)
 exact SJ.skip <| SJ.end_ rfl (Res.run (ys := []) .nil rfl)
noncomputable def Zab.K2 (a0 : Sl) (j40 : Int) (j41 : Int) : M Unit :=
 if j40 ≥ 2 then
  draw >>= fun _ =>
  chk ((0 : Int) ≤ (wrap .u32 ((wrap .u32 ((Int.tmod j41 100) * 2)) + 1)) ∧ (wrap .u32 ((wrap .u32 ((Int.tmod j41 100) * 2)) + 1)) < (ZeU.size : Int)) >>= fun _ =>
  chk ((0 : Int) ≤ (wrap .u32 ((Int.tmod j41 100) * 2)) ∧ (wrap .u32 ((Int.tmod j41 100) * 2)) < (ZeU.size : Int)) >>= fun _ =>
  idx a0.a a0.len (wrap .i64 (j40 - 1)) 1 >>= fun p57 =>
  st (cI .u8) p57 (sb ZeU (wrap .u32 ((wrap .u32 ((Int.tmod j41 100) * 2)) + 1))) >>= fun _ =>
  idx a0.a a0.len (wrap .i64 (j40 - 2)) 1 >>= fun p58 =>
  st (cI .u8) p58 (sb ZeU (wrap .u32 ((Int.tmod j41 100) * 2))) >>= fun _ =>
  Zab.K1 a0 (wrap .i64 (j40 - 2)) (wrap .u32 (Int.tdiv j41 100))
 else
  Zab.K1 a0 j40 j41
theorem Zab.K2_ok (a0 : Sl) (j40 : Int) (j41 : Int) :
  SJ Zab.cx [.code (c2 (c2 (c2 (c2 Zab.B))))] [(0, Sl.v a0), (4, .int .i64 j40), (12, .int .u32 j41)] [] (Zab.K2 a0 j40 j41) (rt Zab.out) := by
 unfold Zab.K2
 refine seq <| sr 2 <| J.z 2 <| J.f ?_ ?_
 ·exact sr 4 <| J.z 4 <| sr 3 <| J.z 3 <| seq <| J.R 15 ZcY <| J.t 8 fun hb53 hb54 => J.t 1 fun hb55 hb56 => J.i 0 fun p57 => J.w 0 Ty5 <| J.i 0 fun p58 => J.w 0 Ty5 <| J.z 0 <| SJ.rg 3 <| J.z 3 <| J.q <| Zab.K1_ok a0 (wrap .i64 (j40 - 2)) (wrap .u32 (Int.tdiv j41 100))
 exact SJ.skip <| J.q <| Zab.K1_ok a0 j40 j41
noncomputable def Zab.K3 (a0 : Sl) (s1 : Int) (s2 : Int) : M Unit :=
 if s2 ≥ 4 then
  draw >>= fun _ =>
  chk ((0 : Int) ≤ (wrap .u32 ((wrap .u32 ((Int.tmod (Int.tmod (wrap .u32 s1) 10000) 100) * 2)) + 1)) ∧ (wrap .u32 ((wrap .u32 ((Int.tmod (Int.tmod (wrap .u32 s1) 10000) 100) * 2)) + 1)) < (ZeU.size : Int)) >>= fun _ =>
  chk ((0 : Int) ≤ (wrap .u32 ((Int.tmod (Int.tmod (wrap .u32 s1) 10000) 100) * 2)) ∧ (wrap .u32 ((Int.tmod (Int.tmod (wrap .u32 s1) 10000) 100) * 2)) < (ZeU.size : Int)) >>= fun _ =>
  idx a0.a a0.len (wrap .i64 (s2 - 1)) 1 >>= fun p64 =>
  st (cI .u8) p64 (sb ZeU (wrap .u32 ((wrap .u32 ((Int.tmod (Int.tmod (wrap .u32 s1) 10000) 100) * 2)) + 1))) >>= fun _ =>
  idx a0.a a0.len (wrap .i64 (s2 - 2)) 1 >>= fun p65 =>
  st (cI .u8) p65 (sb ZeU (wrap .u32 ((Int.tmod (Int.tmod (wrap .u32 s1) 10000) 100) * 2))) >>= fun _ =>
  draw >>= fun _ =>
  chk ((0 : Int) ≤ (wrap .u32 ((wrap .u32 ((wrap .u32 (Int.tdiv (Int.tmod (wrap .u32 s1) 10000) 100)) * 2)) + 1)) ∧ (wrap .u32 ((wrap .u32 ((wrap .u32 (Int.tdiv (Int.tmod (wrap .u32 s1) 10000) 100)) * 2)) + 1)) < (ZeU.size : Int)) >>= fun _ =>
  chk ((0 : Int) ≤ (wrap .u32 ((wrap .u32 (Int.tdiv (Int.tmod (wrap .u32 s1) 10000) 100)) * 2)) ∧ (wrap .u32 ((wrap .u32 (Int.tdiv (Int.tmod (wrap .u32 s1) 10000) 100)) * 2)) < (ZeU.size : Int)) >>= fun _ =>
  idx a0.a a0.len (wrap .i64 (s2 - 3)) 1 >>= fun p70 =>
  st (cI .u8) p70 (sb ZeU (wrap .u32 ((wrap .u32 ((wrap .u32 (Int.tdiv (Int.tmod (wrap .u32 s1) 10000) 100)) * 2)) + 1))) >>= fun _ =>
  idx a0.a a0.len (wrap .i64 (s2 - 4)) 1 >>= fun p71 =>
  st (cI .u8) p71 (sb ZeU (wrap .u32 ((wrap .u32 (Int.tdiv (Int.tmod (wrap .u32 s1) 10000) 100)) * 2))) >>= fun _ =>
  Zab.K2 a0 (wrap .i64 (s2 - 4)) (wrap .u32 (Int.tdiv (wrap .u32 s1) 10000))
 else
  Zab.K2 a0 s2 (wrap .u32 s1)
theorem Zab.K3_ok (a0 : Sl) (s1 : Int) (s2 : Int) :
  SJ Zab.cx [.code (c2 (c2 Zab.B))] [(0, Sl.v a0), (1, .int .u64 s1), (4, .int .i64 s2)] [] (Zab.K3 a0 s1 s2) (rt Zab.out) := by
 unfold Zab.K3
 refine sr 3 <| J.z 3 <| seq <| sr 2 <| J.z 2 <| J.f ?_ ?_
 ·exact sr 3 <| J.z 3 <| sr 3 <| J.z 3 <| sr 8 <| J.z 8 <| seq <| J.R 15 ZcY <| J.t 8 fun hb60 hb61 => J.t 1 fun hb62 hb63 => J.i 0 fun p64 => J.w 0 Ty5 <| J.i 0 fun p65 => J.w 0 Ty5 <| J.z 0 <| seq <| J.R 15 ZcY <| J.t 8 fun hb66 hb67 => J.t 1 fun hb68 hb69 => J.i 0 fun p70 => J.w 0 Ty5 <| J.i 0 fun p71 => J.w 0 Ty5 <| J.z 0 <| SJ.rg 3 <| J.z 3 <| J.q <| Zab.K2_ok a0 (wrap .i64 (s2 - 4)) (wrap .u32 (Int.tdiv (wrap .u32 s1) 10000))
 exact SJ.skip <| J.q <| Zab.K2_ok a0 s2 (wrap .u32 s1)
noncomputable def Zab.F1 (a0 : Sl) : LF (Int × Int) Unit := ⟨[.inBlock 0, .code (c2 (c2 Zab.B))], c1 (c1 (c2 Zab.B)), fun s_ => [(0, Sl.v a0), (1, .int .u64 s_.1), (4, .int .i64 s_.2)], fun s_ => [], (rt Zab.out)⟩
noncomputable def Zab.L1 (a0 : Sl) (s1 : Int) (s2 : Int) : M (LS (Int × Int) Unit) :=
 if s2 ≥ 8 then
  draw >>= fun _ =>
  chk ((0 : Int) ≤ (wrap .u32 ((wrap .u32 ((Int.tmod (Int.tmod (wrap .u32 (Int.tmod s1 100000000)) 10000) 100) * 2)) + 1)) ∧ (wrap .u32 ((wrap .u32 ((Int.tmod (Int.tmod (wrap .u32 (Int.tmod s1 100000000)) 10000) 100) * 2)) + 1)) < (ZeU.size : Int)) >>= fun _ =>
  chk ((0 : Int) ≤ (wrap .u32 ((Int.tmod (Int.tmod (wrap .u32 (Int.tmod s1 100000000)) 10000) 100) * 2)) ∧ (wrap .u32 ((Int.tmod (Int.tmod (wrap .u32 (Int.tmod s1 100000000)) 10000) 100) * 2)) < (ZeU.size : Int)) >>= fun _ =>
  idx a0.a a0.len (wrap .i64 (s2 - 1)) 1 >>= fun p77 =>
  st (cI .u8) p77 (sb ZeU (wrap .u32 ((wrap .u32 ((Int.tmod (Int.tmod (wrap .u32 (Int.tmod s1 100000000)) 10000) 100) * 2)) + 1))) >>= fun _ =>
  idx a0.a a0.len (wrap .i64 (s2 - 2)) 1 >>= fun p78 =>
  st (cI .u8) p78 (sb ZeU (wrap .u32 ((Int.tmod (Int.tmod (wrap .u32 (Int.tmod s1 100000000)) 10000) 100) * 2))) >>= fun _ =>
  draw >>= fun _ =>
  chk ((0 : Int) ≤ (wrap .u32 ((wrap .u32 ((wrap .u32 (Int.tdiv (Int.tmod (wrap .u32 (Int.tmod s1 100000000)) 10000) 100)) * 2)) + 1)) ∧ (wrap .u32 ((wrap .u32 ((wrap .u32 (Int.tdiv (Int.tmod (wrap .u32 (Int.tmod s1 100000000)) 10000) 100)) * 2)) + 1)) < (ZeU.size : Int)) >>= fun _ =>
  chk ((0 : Int) ≤ (wrap .u32 ((wrap .u32 (Int.tdiv (Int.tmod (wrap .u32 (Int.tmod s1 100000000)) 10000) 100)) * 2)) ∧ (wrap .u32 ((wrap .u32 (Int.tdiv (Int.tmod (wrap .u32 (Int.tmod s1 100000000)) 10000) 100)) * 2)) < (ZeU.size : Int)) >>= fun _ =>
  idx a0.a a0.len (wrap .i64 (s2 - 3)) 1 >>= fun p83 =>
  st (cI .u8) p83 (sb ZeU (wrap .u32 ((wrap .u32 ((wrap .u32 (Int.tdiv (Int.tmod (wrap .u32 (Int.tmod s1 100000000)) 10000) 100)) * 2)) + 1))) >>= fun _ =>
  idx a0.a a0.len (wrap .i64 (s2 - 4)) 1 >>= fun p84 =>
  st (cI .u8) p84 (sb ZeU (wrap .u32 ((wrap .u32 (Int.tdiv (Int.tmod (wrap .u32 (Int.tmod s1 100000000)) 10000) 100)) * 2))) >>= fun _ =>
  draw >>= fun _ =>
  chk ((0 : Int) ≤ (wrap .u32 ((wrap .u32 ((Int.tmod (wrap .u32 (Int.tdiv (wrap .u32 (Int.tmod s1 100000000)) 10000)) 100) * 2)) + 1)) ∧ (wrap .u32 ((wrap .u32 ((Int.tmod (wrap .u32 (Int.tdiv (wrap .u32 (Int.tmod s1 100000000)) 10000)) 100) * 2)) + 1)) < (ZeU.size : Int)) >>= fun _ =>
  chk ((0 : Int) ≤ (wrap .u32 ((Int.tmod (wrap .u32 (Int.tdiv (wrap .u32 (Int.tmod s1 100000000)) 10000)) 100) * 2)) ∧ (wrap .u32 ((Int.tmod (wrap .u32 (Int.tdiv (wrap .u32 (Int.tmod s1 100000000)) 10000)) 100) * 2)) < (ZeU.size : Int)) >>= fun _ =>
  idx a0.a a0.len (wrap .i64 (s2 - 5)) 1 >>= fun p89 =>
  st (cI .u8) p89 (sb ZeU (wrap .u32 ((wrap .u32 ((Int.tmod (wrap .u32 (Int.tdiv (wrap .u32 (Int.tmod s1 100000000)) 10000)) 100) * 2)) + 1))) >>= fun _ =>
  idx a0.a a0.len (wrap .i64 (s2 - 6)) 1 >>= fun p90 =>
  st (cI .u8) p90 (sb ZeU (wrap .u32 ((Int.tmod (wrap .u32 (Int.tdiv (wrap .u32 (Int.tmod s1 100000000)) 10000)) 100) * 2))) >>= fun _ =>
  draw >>= fun _ =>
  chk ((0 : Int) ≤ (wrap .u32 ((wrap .u32 ((wrap .u32 (Int.tdiv (wrap .u32 (Int.tdiv (wrap .u32 (Int.tmod s1 100000000)) 10000)) 100)) * 2)) + 1)) ∧ (wrap .u32 ((wrap .u32 ((wrap .u32 (Int.tdiv (wrap .u32 (Int.tdiv (wrap .u32 (Int.tmod s1 100000000)) 10000)) 100)) * 2)) + 1)) < (ZeU.size : Int)) >>= fun _ =>
  chk ((0 : Int) ≤ (wrap .u32 ((wrap .u32 (Int.tdiv (wrap .u32 (Int.tdiv (wrap .u32 (Int.tmod s1 100000000)) 10000)) 100)) * 2)) ∧ (wrap .u32 ((wrap .u32 (Int.tdiv (wrap .u32 (Int.tdiv (wrap .u32 (Int.tmod s1 100000000)) 10000)) 100)) * 2)) < (ZeU.size : Int)) >>= fun _ =>
  idx a0.a a0.len (wrap .i64 (s2 - 7)) 1 >>= fun p95 =>
  st (cI .u8) p95 (sb ZeU (wrap .u32 ((wrap .u32 ((wrap .u32 (Int.tdiv (wrap .u32 (Int.tdiv (wrap .u32 (Int.tmod s1 100000000)) 10000)) 100)) * 2)) + 1))) >>= fun _ =>
  idx a0.a a0.len (wrap .i64 (s2 - 8)) 1 >>= fun p96 =>
  st (cI .u8) p96 (sb ZeU (wrap .u32 ((wrap .u32 (Int.tdiv (wrap .u32 (Int.tdiv (wrap .u32 (Int.tmod s1 100000000)) 10000)) 100)) * 2))) >>= fun _ =>
  pure (LS.next (wrap .u64 (Int.tdiv s1 100000000), wrap .i64 (s2 - 8)))
 else
  (Zab.K3 a0 s1 s2) >>= fun b => pure (LS.done b)
theorem Zab.L1_ok (a0 : Sl) : LJ Zab.cx (Zab.F1 a0) (fun s_ => Zab.L1 a0 s_.1 s_.2) := by
 rintro ⟨s1, s2⟩
 show SJ _ _ _ _ (Zab.L1 a0 s1 s2) _
 unfold Zab.L1
 refine seq <| sr 2 <| J.z 2 <| J.f ?_ ?_
 ·exact SJ.skip <| block (id := 1) <| sr 4 <| J.z 4 <| sr 3 <| J.z 3 <| sr 6 <| J.z 6 <| sr 8 <| J.z 8 <| sr 8 <| J.z 8 <| seq <| J.R 15 ZcY <| J.t 8 fun hb73 hb74 => J.t 1 fun hb75 hb76 => J.i 0 fun p77 => J.w 0 Ty5 <| J.i 0 fun p78 => J.w 0 Ty5 <| J.z 0 <| seq <| J.R 15 ZcY <| J.t 8 fun hb79 hb80 => J.t 1 fun hb81 hb82 => J.i 0 fun p83 => J.w 0 Ty5 <| J.i 0 fun p84 => J.w 0 Ty5 <| J.z 0 <| seq <| J.R 15 ZcY <| J.t 8 fun hb85 hb86 => J.t 1 fun hb87 hb88 => J.i 0 fun p89 => J.w 0 Ty5 <| J.i 0 fun p90 => J.w 0 Ty5 <| J.z 0 <| seq <| J.R 15 ZcY <| J.t 8 fun hb91 hb92 => J.t 1 fun hb93 hb94 => J.i 0 fun p95 => J.w 0 Ty5 <| J.i 0 fun p96 => J.w 0 Ty5 <| J.z 0 <| SJ.rg 3 <| J.z 3 <| inBlock <| J.o rfl
 exact exit (id := 0) (by rfl) <| J.q <| SJ.done <| Zab.K3_ok a0 s1 s2
noncomputable def Zab (a0 : Sl) (a1 : Int) : M Unit :=
 Zcn (fun s_ : (Int × Int) => Zab.L1 a0 s_.1 s_.2) (a1, (a0.len : Int))
theorem ZhD (a0 : Sl) (a1 : Int) : Ref Tryz.prog 121 [Sl.v a0, .int .u64 a1] (Zab a0 a1) Zab.out := by
 refine J.Fn Tryz.func121 ?_
 unfold Zab
 exact sr 3 <| J.z 3 <| seq <| block (id := 0) <| J.L (Zab.L1_ok a0)

noncomputable def Zc2.out (r_ : Bool) : Value := .bool r_
noncomputable def Zc2 (a0 : Int) : M Bool :=
 pure ((band .i64 a0 (wrap .i64 (a0 - 1))) == 0)
theorem ZhC (a0 : Int) : Ref Tryz.prog 137 [.int .i64 a0] (Zc2 a0) Zc2.out := by
 refine J.Fn Tryz.func137 ?_
 unfold Zc2
 exact sr 1 <| J.z 1 <| sr 6 <| J.z 6 <| J.r

noncomputable def Zc3.out (r_ : Int) : Value := .int .i64 r_
noncomputable def Zc3 (a0 : Int) : M Int :=
 if a0 = 0 then
  pure 64
 else
  idx (some ⟨8, 0, none⟩) 64 (Int.fdiv (wrap .u64 ((band .u64 a0 (wrap .u64 (0 - a0))) * 285870213051353865)) (2 ^ 58)) 1 >>= fun p1 =>
  ld (cI .u8) p1 >>= fun x2 =>
  pure (wrap .i64 x2)
theorem ZhR (a0 : Int) : Ref Tryz.prog 145 [.int .u64 a0] (Zc3 a0) Zc3.out := by
 refine J.Fn Tryz.func145 ?_
 unfold Zc3
 refine sr 1 <| J.z 1 <| seq <| sr 2 <| J.z 2 <| J.f ?_ ?_
 ·exact sr 1 <| J.z 1 <| J.r
 exact SJ.skip <| sr 10 <| J.g 6 <| OJ.idxA (d := 11) (T := 258) (y := .global 8) (j := .tmp 10) (E := 5) (k := .u64) fun p1 => J.l 0 Ty5 fun x2 => J.z 2 <| J.r

noncomputable def Zdm.out (r_ : Int) : Value := .int .i64 r_
noncomputable def Zdm (a0 : Int) : M Int :=
 Zc3 a0 >>= fun r1 =>
 pure r1
theorem ZiI (a0 : Int) : Ref Tryz.prog 138 [.int .u64 a0] (Zdm a0) Zdm.out := by
 refine J.Fn Tryz.func138 ?_
 unfold Zdm
 exact sr 1 <| J.z 1 <| seq <| SJ.cond0 (t := (.const (.bool false))) <| SJ.skip <| sr 3 <| J.C 1 F145 (ZhR _) fun r1 => J.z 1 <| J.r

noncomputable def Zaa.B : Code := bod Tryz.f122
noncomputable def Zaa.cx : Fx := ⟨Tryz.prog, 122, Tryz.f122, none⟩
noncomputable def Zaa.out (r_ : (Sl × ByteArray)) : Value := .tuple #[Sl.v r_.1, .string r_.2]
noncomputable def Zaa.K1 (a0 : Sl) (a3 : Bool) (a4 : Bool) (b3 : Nat) (j37 : Int) : M (Sl × ByteArray) :=
 if a3 = true then
  idx (some (pt b3 0)) 65 (wrap .i64 (j37 - 1)) 1 >>= fun p39 =>
  st (cI .u8) p39 45 >>= fun _ =>
  if a4 = true then
   cut 1 ⟨some (pt b3 0), 65, 65⟩ (some (wrap .i64 (j37 - 1))) none none >>= fun r42 =>
   appS (cI .u8) 5 1 0 a0 r42 >>= fun r43 =>
   pure (r43, ByteArray.empty)
  else
   cut 1 ⟨some (pt b3 0), 65, 65⟩ (some (wrap .i64 (j37 - 1))) none none >>= fun r44 =>
   toStr r44 >>= fun r45 =>
   pure (Sl.nil, r45)
 else
  if a4 = true then
   cut 1 ⟨some (pt b3 0), 65, 65⟩ (some j37) none none >>= fun r49 =>
   appS (cI .u8) 5 1 0 a0 r49 >>= fun r50 =>
   pure (r50, ByteArray.empty)
  else
   cut 1 ⟨some (pt b3 0), 65, 65⟩ (some j37) none none >>= fun r51 =>
   toStr r51 >>= fun r52 =>
   pure (Sl.nil, r52)
theorem Zaa.K1_ok (a0 : Sl) (a3 : Bool) (a4 : Bool) (b3 : Nat) (j37 : Int) :
  SJ Zaa.cx [.code (c2 (c2 (c2 (c2 (c2 (c2 Zaa.B))))))] [(0, Sl.v a0), (3, .bool a3), (4, .bool a4), (10, Sl.v Sl.nil), (11, .string ByteArray.empty), (12, .pointer (some (pt b3 0))), (13, .int .i64 j37)] [] (Zaa.K1 a0 a3 a4 b3 j37) (rt Zaa.out) := by
 unfold Zaa.K1
 refine seq <| sr 1 <| J.z 1 <| J.f ?_ ?_
 ·refine sr 3 <| J.z 3 <| SJ.rg 3 <| J.g 1 <| OJ.idxA (d := 93) (T := 249) (y := .tmp 12) (j := .tmp 92) (E := 5) (k := .i64) fun p39 => J.w 0 Ty5 <| J.z 0 <| seq <| sr 1 <| J.z 1 <| J.f ?_ ?_
  ·exact sr 5 <| J.ca 2 fun r42 => OJ.appS (d := 98) (t := 54) (u := 54) (so := .tmp 95) (xo := .tmp 97) (owed := []) Ty5 fun r43 => OW.nil <| J.z 1 <| J.r
  exact SJ.skip <| sr 4 <| J.ca 1 fun r44 => OJ.toStr (d := 101) (t := 54) (u := 9) (E := 5) (x := .tmp 100) (owed := []) fun r45 => OW.nil <| J.z 1 <| J.r
 refine SJ.skip <| seq <| sr 1 <| J.z 1 <| J.f ?_ ?_
 ·exact sr 5 <| J.ca 2 fun r49 => OJ.appS (d := 98) (t := 54) (u := 54) (so := .tmp 95) (xo := .tmp 97) (owed := []) Ty5 fun r50 => OW.nil <| J.z 1 <| J.r
 exact SJ.skip <| sr 4 <| J.ca 1 fun r51 => OJ.toStr (d := 101) (t := 54) (u := 9) (E := 5) (x := .tmp 100) (owed := []) fun r52 => OW.nil <| J.z 1 <| J.r
noncomputable def Zaa.K2 (a0 : Sl) (a3 : Bool) (a4 : Bool) (b3 : Nat) (s56 : Int) (s57 : Int) : M (Sl × ByteArray) :=
 chk ((0 : Int) ≤ s56 ∧ s56 < (ZkF.size : Int)) >>= fun _ =>
 idx (some (pt b3 0)) 65 (wrap .i64 (s57 - 1)) 1 >>= fun p65 =>
 st (cI .u8) p65 (sb ZkF s56) >>= fun _ =>
 Zaa.K1 a0 a3 a4 b3 (wrap .i64 (s57 - 1))
theorem Zaa.K2_ok (a0 : Sl) (a3 : Bool) (a4 : Bool) (b3 : Nat) (s56 : Int) (s57 : Int) :
  SJ Zaa.cx [.code (c2 (c2 (c2 (c2 (c1 (c2 (c1 (c2 (c2 (c2 (c2 (c2 Zaa.B)))))))))))), .code (c2 (c2 (c2 (c2 (c2 (c2 Zaa.B))))))] [(0, Sl.v a0), (1, .int .u64 s56), (3, .bool a3), (4, .bool a4), (10, Sl.v Sl.nil), (11, .string ByteArray.empty), (12, .pointer (some (pt b3 0))), (13, .int .i64 s57)] [] (Zaa.K2 a0 a3 a4 b3 s56 s57) (rt Zaa.out) := by
 unfold Zaa.K2
 exact sr 3 <| J.z 3 <| SJ.rg 5 <| J.t 2 fun hb63 hb64 => OJ.idxA (d := 63) (T := 249) (y := .tmp 12) (j := .tmp 60) (E := 5) (k := .i64) fun p65 => J.w 0 Ty5 <| J.z 0 <| J.q <| Zaa.K1_ok a0 a3 a4 b3 (wrap .i64 (s57 - 1))
noncomputable def Zaa.F1 (a0 : Sl) (a2 : Int) (a3 : Bool) (a4 : Bool) (b3 : Nat) (r55 : Int) : LF (Int × Int) (Sl × ByteArray) := ⟨[.inBlock 0, .code (c2 (c2 (c2 (c2 (c1 (c2 (c1 (c2 (c2 (c2 (c2 (c2 Zaa.B)))))))))))), .code (c2 (c2 (c2 (c2 (c2 (c2 Zaa.B))))))], c1 (c1 (c2 (c2 (c2 (c1 (c2 (c1 (c2 (c2 (c2 (c2 (c2 Zaa.B)))))))))))), fun s_ => [(0, Sl.v a0), (1, .int .u64 s_.1), (3, .bool a3), (4, .bool a4), (10, Sl.v Sl.nil), (11, .string ByteArray.empty), (12, .pointer (some (pt b3 0))), (13, .int .i64 s_.2), (14, .int .u64 (wrap .u64 r55)), (15, .int .u64 (wrap .u64 a2)), (16, .int .u64 (wrap .u64 ((wrap .u64 a2) - 1)))], fun s_ => [], (rt Zaa.out)⟩
noncomputable def Zaa.L1 (a0 : Sl) (a2 : Int) (a3 : Bool) (a4 : Bool) (b3 : Nat) (r55 : Int) (s56 : Int) (s57 : Int) : M (LS (Int × Int) (Sl × ByteArray)) :=
 if s56 ≥ (wrap .u64 a2) then
  chk ((0 : Int) ≤ (band .u64 s56 (wrap .u64 ((wrap .u64 a2) - 1))) ∧ (band .u64 s56 (wrap .u64 ((wrap .u64 a2) - 1))) < (ZkF.size : Int)) >>= fun _ =>
  idx (some (pt b3 0)) 65 (wrap .i64 (s57 - 1)) 1 >>= fun p68 =>
  st (cI .u8) p68 (sb ZkF (band .u64 s56 (wrap .u64 ((wrap .u64 a2) - 1)))) >>= fun _ =>
  chk (0 ≤ (wrap .u64 r55)) >>= fun _ =>
  pure (LS.next (Int.fdiv s56 (2 ^ min (Int.toNat (wrap .u64 r55)) 64), wrap .i64 (s57 - 1)))
 else
  (Zaa.K2 a0 a3 a4 b3 s56 s57) >>= fun b => pure (LS.done b)
theorem Zaa.L1_ok (a0 : Sl) (a2 : Int) (a3 : Bool) (a4 : Bool) (b3 : Nat) (r55 : Int) : LJ Zaa.cx (Zaa.F1 a0 a2 a3 a4 b3 r55) (fun s_ => Zaa.L1 a0 a2 a3 a4 b3 r55 s_.1 s_.2) := by
 rintro ⟨s56, s57⟩
 show SJ _ _ _ _ (Zaa.L1 a0 a2 a3 a4 b3 r55 s56 s57) _
 unfold Zaa.L1
 refine seq <| sr 3 <| J.z 3 <| J.f ?_ ?_
 ·exact SJ.skip <| block (id := 1) <| sr 3 <| J.z 3 <| sr 7 <| J.t 4 fun hb66 hb67 => OJ.idxA (d := 54) (T := 249) (y := .tmp 12) (j := .tmp 49) (E := 5) (k := .i64) fun p68 => J.w 0 Ty5 <| J.z 0 <| SJ.rg 4 <| J.g 2 <| OJ.shr (d := 57) (T := 229) (yT := 136) (y := .tmp 55) (z := .tmp 56) (k := .u64) (yk := .u64) (p := s56) (q := (wrap .u64 r55)) fun hq69 => J.z 1 <| inBlock <| J.o rfl
 exact exit (id := 0) (by rfl) <| J.q <| SJ.done <| Zaa.K2_ok a0 a3 a4 b3 s56 s57
noncomputable def Zaa.K3 (a0 : Sl) (a3 : Bool) (a4 : Bool) (b3 : Nat) (s71 : Int) (s72 : Int) : M (Sl × ByteArray) :=
 chk ((0 : Int) ≤ s71 ∧ s71 < (ZkF.size : Int)) >>= fun _ =>
 idx (some (pt b3 0)) 65 (wrap .i64 (s72 - 1)) 1 >>= fun p80 =>
 st (cI .u8) p80 (sb ZkF s71) >>= fun _ =>
 Zaa.K1 a0 a3 a4 b3 (wrap .i64 (s72 - 1))
theorem Zaa.K3_ok (a0 : Sl) (a3 : Bool) (a4 : Bool) (b3 : Nat) (s71 : Int) (s72 : Int) :
  SJ Zaa.cx [.code (c2 (c2 (c2 (c2 (c1 (c2 (c2 (c2 (c2 (c2 Zaa.B)))))))))), .code (c2 (c2 (c2 (c2 (c2 (c2 Zaa.B))))))] [(0, Sl.v a0), (1, .int .u64 s71), (3, .bool a3), (4, .bool a4), (10, Sl.v Sl.nil), (11, .string ByteArray.empty), (12, .pointer (some (pt b3 0))), (13, .int .i64 s72)] [] (Zaa.K3 a0 a3 a4 b3 s71 s72) (rt Zaa.out) := by
 unfold Zaa.K3
 exact sr 3 <| J.z 3 <| SJ.rg 5 <| J.t 2 fun hb78 hb79 => OJ.idxA (d := 88) (T := 249) (y := .tmp 12) (j := .tmp 85) (E := 5) (k := .i64) fun p80 => J.w 0 Ty5 <| J.z 0 <| J.q <| Zaa.K1_ok a0 a3 a4 b3 (wrap .i64 (s72 - 1))
noncomputable def Zaa.F2 (a0 : Sl) (a2 : Int) (a3 : Bool) (a4 : Bool) (b3 : Nat) : LF (Int × Int) (Sl × ByteArray) := ⟨[.inBlock 2, .code (c2 (c2 (c2 (c2 (c1 (c2 (c2 (c2 (c2 (c2 Zaa.B)))))))))), .code (c2 (c2 (c2 (c2 (c2 (c2 Zaa.B))))))], c1 (c1 (c2 (c2 (c2 (c1 (c2 (c2 (c2 (c2 (c2 Zaa.B)))))))))), fun s_ => [(0, Sl.v a0), (1, .int .u64 s_.1), (3, .bool a3), (4, .bool a4), (10, Sl.v Sl.nil), (11, .string ByteArray.empty), (12, .pointer (some (pt b3 0))), (13, .int .i64 s_.2), (17, .int .u64 (wrap .u64 a2))], fun s_ => [], (rt Zaa.out)⟩
noncomputable def Zaa.L2 (a0 : Sl) (a2 : Int) (a3 : Bool) (a4 : Bool) (b3 : Nat) (s71 : Int) (s72 : Int) : M (LS (Int × Int) (Sl × ByteArray)) :=
 if s71 ≥ (wrap .u64 a2) then
  chk ((wrap .u64 a2) ≠ 0) >>= fun _ =>
  chk ((0 : Int) ≤ (wrap .u64 (s71 - (wrap .u64 ((wrap .u64 (Int.tdiv s71 (wrap .u64 a2))) * (wrap .u64 a2))))) ∧ (wrap .u64 (s71 - (wrap .u64 ((wrap .u64 (Int.tdiv s71 (wrap .u64 a2))) * (wrap .u64 a2))))) < (ZkF.size : Int)) >>= fun _ =>
  idx (some (pt b3 0)) 65 (wrap .i64 (s72 - 1)) 1 >>= fun p83 =>
  st (cI .u8) p83 (sb ZkF (wrap .u64 (s71 - (wrap .u64 ((wrap .u64 (Int.tdiv s71 (wrap .u64 a2))) * (wrap .u64 a2)))))) >>= fun _ =>
  pure (LS.next (wrap .u64 (Int.tdiv s71 (wrap .u64 a2)), wrap .i64 (s72 - 1)))
 else
  (Zaa.K3 a0 a3 a4 b3 s71 s72) >>= fun b => pure (LS.done b)
theorem Zaa.L2_ok (a0 : Sl) (a2 : Int) (a3 : Bool) (a4 : Bool) (b3 : Nat) : LJ Zaa.cx (Zaa.F2 a0 a2 a3 a4 b3) (fun s_ => Zaa.L2 a0 a2 a3 a4 b3 s_.1 s_.2) := by
 rintro ⟨s71, s72⟩
 show SJ _ _ _ _ (Zaa.L2 a0 a2 a3 a4 b3 s71 s72) _
 unfold Zaa.L2
 refine seq <| sr 3 <| J.z 3 <| J.f ?_ ?_
 ·exact SJ.skip <| block (id := 3) <| sr 3 <| J.z 3 <| sr 4 <| J.g 2 <| OJ.quo (d := 73) (T := 229) (yT := 229) (y := .tmp 71) (z := .tmp 72) (p := s71) (q := (wrap .u64 a2)) (k := .u64) fun hq84 => J.z 1 <| sr 9 <| J.t 6 fun hb81 hb82 => OJ.idxA (d := 81) (T := 249) (y := .tmp 12) (j := .tmp 74) (E := 5) (k := .i64) fun p83 => J.w 0 Ty5 <| J.z 0 <| SJ.rg 2 <| J.z 2 <| inBlock <| J.o rfl
 exact exit (id := 2) (by rfl) <| J.q <| SJ.done <| Zaa.K3_ok a0 a3 a4 b3 s71 s72
noncomputable def Zaa.K4 (a0 : Sl) (a2 : Int) (a3 : Bool) (a4 : Bool) (b3 : Nat) (j4 : Int) : M (Sl × ByteArray) :=
 Zc2 a2 >>= fun r5 =>
 if r5 = true then
  Zdm (wrap .u64 a2) >>= fun r55 =>
  Zcn (fun s_ : (Int × Int) => Zaa.L1 a0 a2 a3 a4 b3 r55 s_.1 s_.2) (j4, 65)
 else
  Zcn (fun s_ : (Int × Int) => Zaa.L2 a0 a2 a3 a4 b3 s_.1 s_.2) (j4, 65)
theorem Zaa.K4_ok (a0 : Sl) (a2 : Int) (a3 : Bool) (a4 : Bool) (b3 : Nat) (j4 : Int) :
  SJ Zaa.cx [.code (c2 (c2 (c2 (c2 (c2 Zaa.B)))))] [(0, Sl.v a0), (1, .int .u64 j4), (2, .int .i64 a2), (3, .bool a3), (4, .bool a4), (10, Sl.v Sl.nil), (11, .string ByteArray.empty), (12, .pointer (some (pt b3 0))), (13, .int .i64 65)] [] (Zaa.K4 a0 a2 a3 a4 b3 j4) (rt Zaa.out) := by
 unfold Zaa.K4
 refine seq <| sr 2 <| J.C 1 F137 (ZhC _) fun r5 => J.z 0 <| J.f ?_ ?_
 ·exact sr 5 <| J.C 2 F138 (ZiI _) fun r55 => J.z 2 <| sr 3 <| J.z 3 <| sr 4 <| J.z 4 <| seq <| block (id := 0) <| J.L (Zaa.L1_ok a0 a2 a3 a4 b3 r55)
 exact sr 3 <| J.z 3 <| seq <| block (id := 2) <| J.L (Zaa.L2_ok a0 a2 a3 a4 b3)
noncomputable def Zaa (a0 : Sl) (a1 : Int) (a2 : Int) (a3 : Bool) (a4 : Bool) : M (Sl × ByteArray) :=
 (if a2 < 2 then
   pure true
  else
   pure (a2 == 10)) >>= fun y1 =>
 (if y1 = true then
   pure true
  else
   pure (decide (a2 > 36))) >>= fun y2 =>
 if y2 = true then
  fail
 else
  newv 249 ((cI .u8).arr 65) (Vec.rep 65 0) >>= fun b3 =>
  if a3 = true then
   Zaa.K4 a0 a2 a3 a4 b3 (wrap .u64 (0 - a1))
  else
   Zaa.K4 a0 a2 a3 a4 b3 a1
theorem Zik (a0 : Sl) (a1 : Int) (a2 : Int) (a3 : Bool) (a4 : Bool) : Ref Tryz.prog 122 [Sl.v a0, .int .u64 a1, .int .i64 a2, .bool a3, .bool a4] (Zaa a0 a1 a2 a3 a4) Zaa.out := by
 refine J.Fn Tryz.func122 ?_
 unfold Zaa
 refine sr 2 <| J.z 2 <| seq <| sr 10 <| J.j 3 2 .bool ?_ ?_ fun y1 => ?_
 ·exact J.e 3
 ·exact J.e 3
 refine J.j 1 2 .bool ?_ ?_ fun y2 => ?_
 ·exact J.e 3
 ·exact J.e 3
 refine J.z 0 <| J.f ?_ ?_
 ·exact SJ.rg 2 <| J.g 1 <| OJ.fail
 refine SJ.skip <| sr 1 <| J.A 0 ZxY fun b3 => J.z 0 <| sr 1 <| J.z 1 <| seq <| sr 1 <| J.z 1 <| J.f ?_ ?_
 ·exact SJ.rg 3 <| J.z 3 <| J.q <| Zaa.K4_ok a0 a2 a3 a4 b3 (wrap .u64 (0 - a1))
 exact SJ.skip <| J.q <| Zaa.K4_ok a0 a2 a3 a4 b3 a1

noncomputable def ZaX.B : Code := bod Tryz.f100
noncomputable def ZaX.cx : Fx := ⟨Tryz.prog, 100, Tryz.f100, none⟩
noncomputable def ZaX.out (r_ : ByteArray) : Value := .string r_
noncomputable def ZaX.K1 (a0 : Int) (b21 : Nat) (j22 : Int) : M ByteArray :=
 Zcq j22 >>= fun r23 =>
 cut 1 ⟨some (pt b21 0), 24, 24⟩ (some 1) (some (wrap .i64 (1 + r23))) none >>= fun r24 =>
 Zab r24 j22 >>= fun r25 =>
 if a0 < 0 then
  st (cI .u8) (pt b21 0) 45 >>= fun _ =>
  cut 1 ⟨some (pt b21 0), 24, 24⟩ none (some (wrap .i64 (1 + r23))) none >>= fun r28 =>
  toStr r28 >>= fun r29 =>
  pure r29
 else
  cut 1 ⟨some (pt b21 0), 24, 24⟩ (some 1) (some (wrap .i64 (1 + r23))) none >>= fun r30 =>
  toStr r30 >>= fun r31 =>
  pure r31
theorem ZaX.K1_ok (a0 : Int) (b21 : Nat) (j22 : Int) :
  SJ ZaX.cx [.code (c2 (c2 (c2 (c2 (c1 (c2 (c1 (c2 ZaX.B)))))))), .code (c2 (c2 ZaX.B))] [(0, .int .i64 a0), (5, .pointer (some (pt b21 0))), (6, .int .u64 j22)] [] (ZaX.K1 a0 b21 j22) (rt ZaX.out) := by
 unfold ZaX.K1
 refine sr 3 <| J.C 1 F120 (Zi3 _) fun r23 => J.z 1 <| sr 5 <| J.ca 2 fun r24 => J.C 1 F121 (ZhD _ _) fun r25 => J.z 0 <| seq <| sr 2 <| J.z 2 <| J.f ?_ ?_
 ·exact sr 2 <| J.w 1 Ty5 <| J.z 0 <| sr 5 <| J.ca 2 fun r28 => OJ.toStr (d := 39) (t := 54) (u := 9) (E := 5) (x := .tmp 38) (owed := []) fun r29 => OW.nil <| J.z 1 <| J.r
 exact SJ.skip <| sr 5 <| J.ca 2 fun r30 => OJ.toStr (d := 43) (t := 54) (u := 9) (E := 5) (x := .tmp 42) (owed := []) fun r31 => OW.nil <| J.z 1 <| J.r
noncomputable def ZaX (a0 : Int) (a1 : Int) : M ByteArray :=
 if a1 = 10 then
  (if 0 ≤ a0 then
    pure (decide (a0 < 100))
   else
    pure false) >>= fun y18 =>
  if y18 = true then
   Zeo a0 >>= fun r20 =>
   pure r20
  else
   newv 228 ((cI .u8).arr 24) (Vec.rep 24 0) >>= fun b21 =>
   if a0 < 0 then
    ZaX.K1 a0 b21 (wrap .u64 (0 - (wrap .u64 a0)))
   else
    ZaX.K1 a0 b21 (wrap .u64 a0)
 else
  Zaa Sl.nil (wrap .u64 a0) a1 (decide (a0 < 0)) false >>= fun r35 =>
  pure r35.2
theorem Zgb (a0 : Int) (a1 : Int) : Ref Tryz.prog 100 [.int .i64 a0, .int .i64 a1] (ZaX a0 a1) ZaX.out := by
 refine J.Fn Tryz.func100 ?_
 unfold ZaX
 refine sr 1 <| J.z 1 <| seq <| sr 2 <| J.z 2 <| J.f ?_ ?_
 ·refine seq <| sr 6 <| J.j 3 2 .bool ?_ ?_ fun y18 => ?_
  ·exact J.e 3
  ·exact J.e 3
  refine J.z 0 <| J.f ?_ ?_
  ·exact sr 3 <| J.C 1 F119 (Zlx _) fun r20 => J.z 1 <| J.r
  refine SJ.skip <| sr 1 <| J.A 0 Zx1 fun b21 => J.z 0 <| sr 3 <| J.z 3 <| seq <| sr 2 <| J.z 2 <| J.f ?_ ?_
  ·exact SJ.rg 3 <| J.z 3 <| J.q <| ZaX.K1_ok a0 b21 (wrap .u64 (0 - (wrap .u64 a0)))
  exact SJ.skip <| J.q <| ZaX.K1_ok a0 b21 (wrap .u64 a0)
 exact SJ.skip <| sr 11 <| J.C 5 F122 (Zik _ _ _ _ _) fun r35 => J.z 5 <| sr 2 <| J.z 2 <| J.r

noncomputable def ZeM.out (r_ : ByteArray) : Value := .string r_
noncomputable def ZeM (a0 : Int) : M ByteArray :=
 ZaX a0 10 >>= fun r1 =>
 pure r1
theorem Zl9 (a0 : Int) : Ref Tryz.prog 76 [.int .i64 a0] (ZeM a0) ZeM.out := by
 refine J.Fn Tryz.func76 ?_
 unfold ZeM
 exact sr 1 <| J.z 1 <| sr 3 <| J.C 1 F100 (Zgb _ _) fun r1 => J.z 1 <| J.r

noncomputable def ZbR.out (r_ : ByteArray) : Value := .string r_
noncomputable def ZbR (a0 : Int) : M ByteArray :=
 ZeM a0 >>= fun r1 =>
 pure r1
theorem ZcI (a0 : Int) : Ref Tryz.prog 51 [.int .i64 a0] (ZbR a0) ZbR.out := by
 refine J.Fn Tryz.func51 ?_
 unfold ZbR
 exact sr 1 <| J.z 1 <| sr 3 <| J.C 1 F76 (Zl9 _) fun r1 => J.z 1 <| J.r

noncomputable def ZdG.out (r_ : ByteArray) : Value := .string r_
noncomputable def ZdG (a0 : Int) : M ByteArray :=
 if a0 = 6 then
  pure str1
 else
  if a0 = 17 then
   pure str2
  else
   if a0 = 1 then
    pure str3
   else
    if a0 = 58 then
     pure str4
    else
     pure ByteArray.empty
theorem Zj5 (a0 : Int) : Ref Tryz.prog 77 [.int .i64 a0] (ZdG a0) ZdG.out := by
 refine J.Fn Tryz.func77 ?_
 unfold ZdG
 refine sr 1 <| J.z 1 <| seq <| sr 1 <| J.z 1 <| block (id := 0) <| sr 2 <| J.z 2 <| J.f ?_ ?_
 ·exact sr 1 <| J.z 1 <| J.r
 refine sr 2 <| J.z 2 <| J.f ?_ ?_
 ·exact sr 1 <| J.z 1 <| J.r
 refine sr 2 <| J.z 2 <| J.f ?_ ?_
 ·exact sr 1 <| J.z 1 <| J.r
 refine sr 2 <| J.z 2 <| J.f ?_ ?_
 ·exact sr 1 <| J.z 1 <| J.r
 exact SJ.skip <| inBlock <| sr 1 <| J.z 1 <| J.r

noncomputable def Zb2.B : Code := bod Tryz.f52
noncomputable def Zb2.cx : Fx := ⟨Tryz.prog, 52, Tryz.f52, none⟩
noncomputable def Zb2.out (r_ : ByteArray) : Value := .string r_
noncomputable def Zb2.K1 (a0 : Zaf) (j5 : ByteArray) : M ByteArray :=
 ZdG a0.Proto >>= fun r6 =>
 if ¬ (r6.toList = ByteArray.empty.toList) then
  chk (((ZfL.size + r6.size : Nat) : Int) ≤ 9223372036854775807) >>= fun _ =>
  chk (((j5.size + (ZfL ++ r6).size : Nat) : Int) ≤ 9223372036854775807) >>= fun _ =>
  pure (j5 ++ (ZfL ++ r6))
 else
  if a0.Proto > 0 then
   ZbR a0.Proto >>= fun r14 =>
   chk (((ZuL.size + r14.size : Nat) : Int) ≤ 9223372036854775807) >>= fun _ =>
   chk (((j5.size + (ZuL ++ r14).size : Nat) : Int) ≤ 9223372036854775807) >>= fun _ =>
   pure (j5 ++ (ZuL ++ r14))
  else
   if a0.Kind = 0 then
    pure ZwX
   else
    pure j5
theorem Zb2.K1_ok (a0 : Zaf) (b1 : Nat) (j5 : ByteArray) :
  SJ Zb2.cx [.code (c2 (c2 (c2 Zb2.B)))] [(1, .pointer (some (pt b1 0))), (3, .string j5)] [(b1, Zah.enc a0)] (Zb2.K1 a0 j5) (rt Zb2.out) := by
 unfold Zb2.K1
 refine sr 4 <| J.k 1 0 rfl Ty3 (ZbD _) <| J.C 0 F77 (Zj5 _) fun r6 => J.z 1 <| seq <| block (id := 0) <| sr 3 <| J.z 3 <| J.f ?_ ?_
 ·exact SJ.rg 5 <| J.T 2 <| J.T 0 <| J.z 1 <| inBlock <| sr 2 <| J.z 2 <| J.r
 refine sr 4 <| J.k 1 0 rfl Ty3 (ZbD _) <| J.z 2 <| J.f ?_ ?_
 ·exact SJ.rg 7 <| J.k 2 0 rfl Ty3 (ZbD _) <| J.C 0 F51 (ZcI _) fun r14 => J.T 0 <| J.T 0 <| J.z 1 <| inBlock <| sr 2 <| J.z 2 <| J.r
 refine sr 4 <| J.k 1 0 rfl Ty3 (ZbY _) <| J.z 2 <| J.f ?_ ?_
 ·exact SJ.rg 1 <| J.z 1 <| inBlock <| sr 2 <| J.z 2 <| J.r
 exact SJ.skip <| inBlock <| sr 2 <| J.z 2 <| J.r
noncomputable def Zb2 (a0 : Zaf) : M ByteArray :=
 slot 35 >>= fun b1 =>
 if a0.Kind > 0 then
  ld cL ⟨1, 0, none⟩ >>= fun x18 =>
  idx x18.a x18.len (wrap .i64 (a0.Kind - 1)) 1 >>= fun p19 =>
  ld cS p19 >>= fun x20 =>
  chk (((ZfL.size + x20.size : Nat) : Int) ≤ 9223372036854775807) >>= fun _ =>
  Zb2.K1 a0 (ZfL ++ x20)
 else
  Zb2.K1 a0 ByteArray.empty
theorem Zow (a0 : Zaf) : Ref Tryz.prog 52 [Zah.val a0] (Zb2 a0) Zb2.out := by
 refine J.Fn Tryz.func52 ?_
 unfold Zb2
 refine sr 2 <| J.b 0 Zah a0 fun b1 => J.z 1 <| sr 1 <| J.z 1 <| seq <| sr 3 <| J.k 1 0 rfl Ty3 (ZbY _) <| J.z 1 <| J.f ?_ ?_
 ·exact SJ.rg 8 <| J.l 0 Ty22 fun x18 => J.k 1 0 rfl Ty3 (ZbY _) <| J.i 1 fun p19 => J.l 0 Ty9 fun x20 => J.T 0 <| J.z 1 <| J.q <| Zb2.K1_ok a0 b1 (ZfL ++ x20)
 exact SJ.skip <| J.q <| Zb2.K1_ok a0 b1 ByteArray.empty
end Go.Proofs.YtfnokeoldcfcoaaGreatDoor.Lx
