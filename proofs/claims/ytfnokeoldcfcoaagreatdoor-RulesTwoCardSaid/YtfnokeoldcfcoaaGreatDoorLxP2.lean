/- Programs of the M-world for Go functions, each with the proof that the Go text does what it says. Printed by lxgen.py. -/
import Derived.Test.YtfnokeoldcfcoaaGreatDoorLxT
import Derived.Test.YtfnokeoldcfcoaaGreatDoorLxP0
import Derived.Test.YtfnokeoldcfcoaaGreatDoorLxP1
set_option maxRecDepth 100000
set_option linter.unusedSectionVars false
set_option linter.unusedSimpArgs false
set_option linter.unusedVariables false
namespace Go.Proofs.YtfnokeoldcfcoaaGreatDoor.Lx
open SJ (sr seq block inBlock forget exit)
open Go.IntKind (wrap)
open Go Go.Proofs
variable [Zd5]
noncomputable def ZbK.out (r_ : Unit) : Value := .tuple #[]
noncomputable def ZbK (a0 : (Option Addr)) : M Unit :=
 nilck a0 >>= fun p1 =>
 ld cP p1 >>= fun x2 =>
 if x2 = none then
  upOf a0 >>= fun r11 =>
  noesc r11 >>= fun r12 =>
  ptOf 173 2 r12 >>= fun r13 =>
  nilck a0 >>= fun p14 =>
  st cP p14 r13 >>= fun _ =>
  pure ()
 else
  nilck a0 >>= fun p15 =>
  ld cP p15 >>= fun x16 =>
  ptrEq x16 a0 >>= fun y17 =>
  if ¬ (y17 = true) then
   fail
  else
   pure ()
theorem ZeI (a0 : (Option Addr)) : Ref Tryz.prog 105 [.pointer a0] (ZbK a0) ZbK.out := by
 refine J.Fn Tryz.func105 ?_
 unfold ZbK
 refine sr 5 <| J.n 1 fun p1 => J.l 1 ZwJ fun x2 => J.z 1 <| J.f ?_ ?_
 ·exact SJ.rg 8 <| J.g 2 <| OJ.upOf (d := 9) (t := 171) (u := 234) (E := 173) (x := .tmp 8) (p := a0) (owed := []) fun r11 => OW.nil <| OJ.ext (d := 10) (g := 124) (ats := #[234]) (args := [.tmp 9]) (out := fun r => .pointer r) (owed := []) Tryz.func124 Ztv fun r12 => OW.nil <| OJ.ptOf (d := 11) (t := 171) (u := 234) (E := 173) (T := 173) (n := 2) (x := .tmp 10) (p := r12) (owed := []) (by kernel_rfl) fun r13 => OW.nil <| J.n 0 fun p14 => J.w 1 ZwJ <| J.z 0 <| SJ.end_ rfl (Res.run (ys := []) .nil rfl)
 refine sr 6 <| J.n 1 fun p15 => J.l 1 ZwJ fun x16 => J.g 1 <| OJ.pneq (d := 19) (T := 171) (E := 173) (yT := 171) (y := .tmp 17) (z := .tmp 18) (p := x16) (q := a0) fun y17 => J.z 0 <| J.f ?_ ?_
 ·exact SJ.fail
 exact SJ.skip <| SJ.end_ rfl (Res.run (ys := []) .nil rfl)

noncomputable def Zc1.out (r_ : Unit) : Value := .tuple #[]
noncomputable def Zc1 (a0 : (Option Addr)) (a1 : Int) : M Unit :=
 draw >>= fun _ =>
 nilck a0 >>= fun p1 =>
 ld cL (Addr.add p1 1) >>= fun x2 =>
 nilck a0 >>= fun p3 =>
 ld cL (Addr.add p3 1) >>= fun x4 =>
 mkNZ 5 (wrap .i64 ((wrap .i64 (2 * (x2.cap : Int))) + a1)) >>= fun r5 =>
 same cL (Addr.add p3 1) x4 >>= fun _ =>
 cut 1 r5 none (some (x4.len : Int)) none >>= fun r6 =>
 nilck a0 >>= fun p7 =>
 ld cL (Addr.add p7 1) >>= fun x8 =>
 cpyS (cI .u8) r6 x8 >>= fun r9 =>
 nilck a0 >>= fun p10 =>
 st cL (Addr.add p10 1) r6 >>= fun _ =>
 pure ()
theorem ZhA (a0 : (Option Addr)) (a1 : Int) : Ref Tryz.prog 106 [.pointer a0, .int .i64 a1] (Zc1 a0 a1) Zc1.out := by
 refine J.Fn Tryz.func106 ?_
 unfold Zc1
 exact seq <| J.D [0, 1, 2, 3, 4, 5, 6, 7, 9, 10, 11, 12, 8, 13, 14, 15] ZcY <| J.n 1 fun p1 => J.l 1 Ty54 fun x2 => OJ.capS (d := 9) (so := .tmp 8) (t := 54) (E := 5) (s := x2) <| J.n 4 fun p3 => J.l 1 Ty54 fun x4 => OJ.ext (d := 13) (g := 125) (ats := #[3]) (args := [.tmp 12]) (out := Sl.v) (owed := [⟨12, 54, (Addr.add p3 1), cL.val x4⟩]) Tryz.func125 (ZuX (t := 54) (E := 5) (ps := #[3]) (by kernel_rfl)) fun r5 => OW.same Ty54 <| OW.nil <| J.cs 1 fun r6 => J.z 1 <| sr 6 <| J.n 2 fun p7 => J.l 1 Ty54 fun x8 => OJ.cpy1 (n := 25) (t := 54) (u := 54) (so := .tmp 20) (xo := .tmp 24) (owed := []) Ty5 fun r9 => OW.nil <| J.z 0 <| SJ.rg 5 <| J.n 2 fun p10 => J.w 1 Ty54 <| J.z 0 <| SJ.end_ rfl (Res.run (ys := []) .nil rfl)

noncomputable def Zcw.out (r_ : Unit) : Value := .tuple #[]
noncomputable def Zcw (a0 : (Option Addr)) (a1 : Int) : M Unit :=
 ZbK a0 >>= fun r1 =>
 if a1 < 0 then
  fail
 else
  draw >>= fun _ =>
  nilck a0 >>= fun p2 =>
  ld cL (Addr.add p2 1) >>= fun x3 =>
  nilck a0 >>= fun p4 =>
  ld cL (Addr.add p4 1) >>= fun x5 =>
  if (wrap .i64 ((x3.cap : Int) - (x5.len : Int))) < a1 then
   Zc1 a0 a1 >>= fun r7 =>
   pure ()
  else
   pure ()
theorem ZhB (a0 : (Option Addr)) (a1 : Int) : Ref Tryz.prog 80 [.pointer a0, .int .i64 a1] (Zcw a0 a1) Zcw.out := by
 refine J.Fn Tryz.func80 ?_
 unfold Zcw
 refine sr 2 <| J.C 1 F105 (ZeI _) fun r1 => J.z 0 <| seq <| sr 2 <| J.z 2 <| J.f ?_ ?_
 ·exact SJ.rg 2 <| J.g 1 <| OJ.fail
 refine SJ.skip <| seq <| J.R 13 ZcY <| J.n 1 fun p2 => J.l 1 Ty54 fun x3 => OJ.capS (d := 13) (so := .tmp 12) (t := 54) (E := 5) (s := x3) <| J.n 1 fun p4 => J.l 1 Ty54 fun x5 => J.z 4 <| J.f ?_ ?_
 ·exact SJ.rg 3 <| J.C 2 F106 (ZhA _ _) fun r7 => J.z 0 <| SJ.end_ rfl (Res.run (ys := []) .nil rfl)
 exact SJ.skip <| SJ.end_ rfl (Res.run (ys := []) .nil rfl)

noncomputable def Zbs.out (r_ : (Int × Any)) : Value := .tuple #[.int .i64 r_.1, r_.2.v]
noncomputable def Zbs (a0 : (Option Addr)) (a1 : ByteArray) : M (Int × Any) :=
 ZbK a0 >>= fun r1 =>
 nilck a0 >>= fun p2 =>
 ld cL (Addr.add p2 1) >>= fun x3 =>
 appl (cI .u8) 5 1 0 x3 (strI a1) >>= fun r4 =>
 nilck a0 >>= fun p5 =>
 st cL (Addr.add p5 1) r4 >>= fun _ =>
 pure ((a1.size : Int), (⟨.nilIface, rfl⟩ : Any))
theorem Zdg (a0 : (Option Addr)) (a1 : ByteArray) : Ref Tryz.prog 81 [.pointer a0, .string a1] (Zbs a0 a1) Zbs.out := by
 refine J.Fn Tryz.func81 ?_
 unfold Zbs
 exact sr 2 <| J.z 2 <| sr 2 <| J.C 1 F105 (ZeI _) fun r1 => J.z 0 <| sr 10 <| J.n 2 fun p2 => J.l 1 Ty54 fun x3 => J.g 1 <| OJ.appT (d := 14) (t := 54) (u := 9) (so := .tmp 12) (xo := .tmp 13) (y := a1) (owed := []) Ty5 fun r4 => OW.nil <| J.n 0 fun p5 => J.w 1 Ty54 <| J.z 0 <| sr 4 <| J.z 4 <| J.r

noncomputable def Zcd.out (r_ : ByteArray) : Value := .string r_
noncomputable def Zcd (a0 : (Option Addr)) : M ByteArray :=
 draw >>= fun _ =>
 nilck a0 >>= fun p1 =>
 ld cL (Addr.add p1 1) >>= fun x2 =>
 nilck a0 >>= fun p3 =>
 ld cL (Addr.add p3 1) >>= fun x4 =>
 sdata x2 >>= fun r5 =>
 same cL (Addr.add p3 1) x4 >>= fun _ =>
 ustr 5 r5 (x4.len : Int) >>= fun r6 =>
 pure r6
theorem ZgY (a0 : (Option Addr)) : Ref Tryz.prog 82 [.pointer a0] (Zcd a0) Zcd.out := by
 refine J.Fn Tryz.func82 ?_
 unfold Zcd
 exact sr 1 <| J.z 1 <| seq <| J.D [0, 1, 2, 3, 5, 6, 7, 8, 4, 9, 10, 11] ZcY <| J.n 1 fun p1 => J.l 1 Ty54 fun x2 => J.n 1 fun p3 => J.l 1 Ty54 fun x4 => OJ.sdata (d := 7) (t := 54) (x := .tmp 6) (s := x2) (owed := [⟨8, 54, (Addr.add p3 1), cL.val x4⟩]) fun r5 => OW.same Ty54 <| OW.nil <| J.g 1 <| OJ.ustr (d := 13) (t := 208) (t2 := 3) (E := 5) (x := .tmp 7) (y := .tmp 12) (p := r5) (n := (x4.len : Int)) (owed := []) fun r6 => OW.nil <| J.z 1 <| J.r

noncomputable def Zax.B : Code := bod Tryz.f54
noncomputable def Zax.cx : Fx := ⟨Tryz.prog, 54, Tryz.f54, none⟩
noncomputable def Zax.out (r_ : ByteArray) : Value := .string r_
noncomputable def Zax.F1 (a1 : ByteArray) (b19 : Nat) (r24 : Sl) : LF Int ByteArray := ⟨[.inBlock 3, .code (c2 (c2 (c2 (c2 (c2 (c2 (c2 (c2 (c2 Zax.B)))))))))], c1 (c2 (c1 (c2 (c2 (c2 (c2 (c2 (c2 (c2 (c2 Zax.B)))))))))), fun s_ => [(1, .string a1), (8, .pointer (some (pt b19 0))), (63, Sl.v r24), (64, .int .i64 (r24.len : Int)), (65, .int .i64 s_)], fun s_ => [], (rt Zax.out)⟩
noncomputable def Zax.L1 (a1 : ByteArray) (b19 : Nat) (r24 : Sl) (s25 : Int) : M (LS Int ByteArray) :=
 if s25 < (r24.len : Int) then
  idx r24.a r24.len s25 1 >>= fun p32 =>
  ld cS p32 >>= fun x33 =>
  Zbs (some (pt b19 0)) a1 >>= fun r34 =>
  Zbs (some (pt b19 0)) x33 >>= fun r35 =>
  pure (LS.next (wrap .i64 (s25 + 1)))
 else
  Zcd (some (pt b19 0)) >>= fun r36 =>
  pure (LS.done r36)
theorem Zax.L1_ok (a1 : ByteArray) (b19 : Nat) (r24 : Sl) : LJ Zax.cx (Zax.F1 a1 b19 r24) (fun s_ => Zax.L1 a1 b19 r24 s_) := by
 rintro s25
 show SJ _ _ _ _ (Zax.L1 a1 b19 r24 s25) _
 unfold Zax.L1
 refine sr 1 <| J.z 1 <| seq <| J.f ?_ ?_
 ·exact SJ.skip <| seq <| block (id := 4) <| sr 3 <| J.i 0 fun p32 => J.l 0 Ty9 fun x33 => J.z 1 <| sr 2 <| J.C 1 F81 (Zdg _ _) fun r34 => J.z 0 <| SJ.rg 2 <| J.C 1 F81 (Zdg _ _) fun r35 => J.z 0 <| inBlock <| SJ.rg 2 <| J.z 2 <| J.o rfl
 exact exit (id := 3) (by rfl) <| sr 2 <| J.C 0 F82 (ZgY _) fun r36 => J.z 1 <| J.r
noncomputable def Zax.K1 (a0 : Sl) (a1 : ByteArray) (s13 : Int) : M ByteArray :=
 newv 173 Zcr ZeS >>= fun b19 =>
 Zcw (some (pt b19 0)) s13 >>= fun r20 =>
 idx a0.a a0.len 0 1 >>= fun p21 =>
 ld cS p21 >>= fun x22 =>
 Zbs (some (pt b19 0)) x22 >>= fun r23 =>
 cut 1 a0 (some 1) none none >>= fun r24 =>
 Zcn (fun s_ : Int => Zax.L1 a1 b19 r24 s_) 0
theorem Zax.K1_ok (a0 : Sl) (a1 : ByteArray) (s13 : Int) :
  SJ Zax.cx [.code (c2 (c2 (c2 (c2 (c2 Zax.B)))))] [(0, Sl.v a0), (1, .string a1), (5, .int .i64 s13)] [] (Zax.K1 a0 a1 s13) (rt Zax.out) := by
 unfold Zax.K1
 exact sr 1 <| J.A 0 Zx2 fun b19 => J.z 0 <| sr 2 <| J.C 1 F80 (ZhB _ _) fun r20 => J.z 0 <| sr 4 <| J.i 1 fun p21 => J.l 0 Ty9 fun x22 => J.C 0 F81 (Zdg _ _) fun r23 => J.z 0 <| seq <| sr 4 <| J.cs 1 fun r24 => J.z 2 <| block (id := 3) <| J.L (Zax.L1_ok a1 b19 r24)
noncomputable def Zax.F2 (a0 : Sl) (a1 : ByteArray) : LF (Int × Int) ByteArray := ⟨[.inBlock 1, .code (c2 (c2 (c2 (c2 (c2 Zax.B)))))], c1 (c2 (c1 (c2 (c2 (c2 (c2 Zax.B)))))), fun s_ => [(0, Sl.v a0), (1, .string a1), (5, .int .i64 s_.1), (39, Sl.v a0), (40, .int .i64 (a0.len : Int)), (41, .int .i64 s_.2)], fun s_ => [], (rt Zax.out)⟩
noncomputable def Zax.L2 (a0 : Sl) (a1 : ByteArray) (s13 : Int) (s14 : Int) : M (LS (Int × Int) ByteArray) :=
 if s14 < (a0.len : Int) then
  idx a0.a a0.len s14 1 >>= fun p38 =>
  ld cS p38 >>= fun x39 =>
  if (x39.size : Int) > (wrap .i64 (9223372036854775807 - s13)) then
   fail
  else
   pure (LS.next (wrap .i64 (s13 + (x39.size : Int)), wrap .i64 (s14 + 1)))
 else
  (Zax.K1 a0 a1 s13) >>= fun b => pure (LS.done b)
theorem Zax.L2_ok (a0 : Sl) (a1 : ByteArray) : LJ Zax.cx (Zax.F2 a0 a1) (fun s_ => Zax.L2 a0 a1 s_.1 s_.2) := by
 rintro ⟨s13, s14⟩
 show SJ _ _ _ _ (Zax.L2 a0 a1 s13 s14) _
 unfold Zax.L2
 refine sr 1 <| J.z 1 <| seq <| J.f ?_ ?_
 ·refine SJ.skip <| seq <| block (id := 2) <| sr 3 <| J.i 0 fun p38 => J.l 0 Ty9 fun x39 => J.z 1 <| seq <| sr 5 <| J.z 5 <| J.f ?_ ?_
  ·exact SJ.rg 2 <| J.g 1 <| OJ.fail
  exact SJ.skip <| SJ.rg 5 <| J.z 5 <| inBlock <| SJ.rg 2 <| J.z 2 <| J.o rfl
 exact exit (id := 1) (by rfl) <| J.q <| SJ.done <| Zax.K1_ok a0 a1 s13
noncomputable def Zax.K2 (a0 : Sl) (a1 : ByteArray) (j12 : Int) : M ByteArray :=
 Zcn (fun s_ : (Int × Int) => Zax.L2 a0 a1 s_.1 s_.2) (j12, 0)
theorem Zax.K2_ok (a0 : Sl) (a1 : ByteArray) (j12 : Int) :
  SJ Zax.cx [.code (c2 (c2 (c2 (c2 Zax.B))))] [(0, Sl.v a0), (1, .string a1), (5, .int .i64 j12)] [] (Zax.K2 a0 a1 j12) (rt Zax.out) := by
 unfold Zax.K2
 exact seq <| sr 3 <| J.z 3 <| block (id := 1) <| J.L (Zax.L2_ok a0 a1)
noncomputable def Zax (a0 : Sl) (a1 : ByteArray) : M ByteArray :=
 if (a0.len : Int) = 0 then
  pure ByteArray.empty
 else
  if (a0.len : Int) = 1 then
   idx a0.a a0.len 0 1 >>= fun p8 =>
   ld cS p8 >>= fun x9 =>
   pure x9
  else
   if (a1.size : Int) > 0 then
    chk ((wrap .i64 ((a0.len : Int) - 1)) ≠ 0) >>= fun _ =>
    if (a1.size : Int) ≥ (wrap .i64 (Int.tdiv 9223372036854775807 (wrap .i64 ((a0.len : Int) - 1)))) then
     fail
    else
     Zax.K2 a0 a1 (wrap .i64 (0 + (wrap .i64 ((a1.size : Int) * (wrap .i64 ((a0.len : Int) - 1))))))
   else
    Zax.K2 a0 a1 0
theorem Zec (a0 : Sl) (a1 : ByteArray) : Ref Tryz.prog 54 [Sl.v a0, .string a1] (Zax a0 a1) Zax.out := by
 refine J.Fn Tryz.func54 ?_
 unfold Zax
 refine sr 1 <| J.z 1 <| seq <| sr 2 <| J.z 2 <| block (id := 0) <| sr 2 <| J.z 2 <| J.f ?_ ?_
 ·exact sr 1 <| J.z 1 <| J.r
 refine sr 2 <| J.z 2 <| J.f ?_ ?_
 ·exact sr 4 <| J.i 1 fun p8 => J.l 0 Ty9 fun x9 => J.z 1 <| J.r
 refine SJ.skip <| inBlock <| sr 1 <| J.z 1 <| seq <| sr 3 <| J.z 3 <| J.f ?_ ?_
 ·refine seq <| sr 7 <| J.g 5 <| OJ.quo (d := 28) (T := 3) (yT := 3) (y := .const (.int .i64 9223372036854775807)) (z := .tmp 27) (p := 9223372036854775807) (q := (wrap .i64 ((a0.len : Int) - 1))) (k := .i64) fun hq43 => J.z 1 <| J.f ?_ ?_
  ·exact SJ.rg 2 <| J.g 1 <| OJ.fail
  exact SJ.skip <| SJ.rg 9 <| J.z 9 <| J.q <| Zax.K2_ok a0 a1 (wrap .i64 (0 + (wrap .i64 ((a1.size : Int) * (wrap .i64 ((a0.len : Int) - 1))))))
 exact SJ.skip <| J.q <| Zax.K2_ok a0 a1 0

noncomputable def ZbH.B : Code := bod Tryz.f102
noncomputable def ZbH.cx : Fx := ⟨Tryz.prog, 102, Tryz.f102, none⟩
noncomputable def ZbH.out (r_ : ByteArray) : Value := .string r_
noncomputable def ZbH.F1 (a0 : Sl) : LF (Sl × Int) ByteArray := ⟨[.inBlock 0, .code (c2 (c2 (c2 ZbH.B)))], c1 (c2 (c1 (c2 (c2 ZbH.B)))), fun s_ => [(3, Sl.v s_.1), (6, Sl.v a0), (7, .int .i64 (a0.len : Int)), (8, .int .i64 s_.2)], fun s_ => [], (rt ZbH.out)⟩
noncomputable def ZbH.L1 (a0 : Sl) (s1 : Sl) (s2 : Int) : M (LS (Sl × Int) ByteArray) :=
 if s2 < (a0.len : Int) then
  idx a0.a a0.len s2 1 >>= fun p10 =>
  ld (cI .u8) p10 >>= fun x11 =>
  ZbR (wrap .i64 x11) >>= fun r12 =>
  slot 9 >>= fun b13 =>
  appl cS 9 16 ByteArray.empty s1 [r12] >>= fun r14 =>
  pure (LS.next (r14, wrap .i64 (s2 + 1)))
 else
  Zax s1 ZwW >>= fun r15 =>
  pure (LS.done r15)
theorem ZbH.L1_ok (a0 : Sl) : LJ ZbH.cx (ZbH.F1 a0) (fun s_ => ZbH.L1 a0 s_.1 s_.2) := by
 rintro ⟨s1, s2⟩
 show SJ _ _ _ _ (ZbH.L1 a0 s1 s2) _
 unfold ZbH.L1
 refine sr 1 <| J.z 1 <| seq <| J.f ?_ ?_
 ·exact SJ.skip <| seq <| block (id := 1) <| sr 3 <| J.i 0 fun p10 => J.l 0 Ty5 fun x11 => J.z 1 <| SJ.rg 7 <| J.C 3 F51 (ZcI _) fun r12 => J.S 0 [r12] Ty9 fun b13 => J.p 0 0 rfl Ty9 fun r14 => J.z 1 <| inBlock <| SJ.rg 2 <| J.z 2 <| forget (List.Sublist.cons _ List.Sublist.slnil) <| J.o rfl
 exact exit (id := 0) (by rfl) <| sr 3 <| J.C 1 F54 (Zec _ _) fun r15 => J.z 1 <| J.r
noncomputable def ZbH (a0 : Sl) : M ByteArray :=
 Zcn (fun s_ : (Sl × Int) => ZbH.L1 a0 s_.1 s_.2) (Sl.nil, 0)
theorem Zjr (a0 : Sl) : Ref Tryz.prog 102 [Sl.v a0] (ZbH a0) ZbH.out := by
 refine J.Fn Tryz.func102 ?_
 unfold ZbH
 exact sr 1 <| J.z 1 <| sr 1 <| J.z 1 <| seq <| sr 3 <| J.z 3 <| block (id := 0) <| J.L (ZbH.L1_ok a0)

noncomputable def ZaY.B : Code := bod Tryz.f103
noncomputable def ZaY.cx : Fx := ⟨Tryz.prog, 103, Tryz.f103, none⟩
noncomputable def ZaY.out (r_ : (Int × Int)) : Value := .tuple #[.int .i64 r_.1, .int .i64 r_.2]
noncomputable def ZaY.F1 (a0 : (Vec Int 8)) (b1 : Nat) : LF (Int × Int × Int) (Int × Int) := ⟨[.inBlock 0, .code (c2 (c2 (c2 ZaY.B)))], c1 (c2 (c1 (c2 (c2 ZaY.B)))), fun s_ => [(1, .pointer (some (pt b1 0))), (4, .int .i64 s_.1), (5, .int .i64 s_.2.1), (8, .int .i64 s_.2.2)], fun s_ => [(b1, ((cI .i64).arr 8).enc a0)], (rt ZaY.out)⟩
noncomputable def ZaY.F2 (a0 : (Vec Int 8)) (b1 : Nat) (s2 : Int) (s3 : Int) (s4 : Int) : LF Int (LS (Int × Int × Int) (Int × Int)) := ⟨[.inBlock 2, .code (c2 (c2 (c2 (c1 (c1 (c2 (c2 (c1 (c1 (c2 (c1 (c2 (c2 ZaY.B))))))))))))), .inBlock 1, .code (c2 (c2 (c2 (c1 (c1 (c2 (c1 (c2 (c2 ZaY.B))))))))), .inLoop (c1 (c1 (c2 (c1 (c2 (c2 ZaY.B)))))), .inBlock 0, .code (c2 (c2 (c2 ZaY.B)))], c1 (c1 (c2 (c2 (c1 (c1 (c2 (c2 (c1 (c1 (c2 (c1 (c2 (c2 ZaY.B))))))))))))), fun s_ => [(1, .pointer (some (pt b1 0))), (4, .int .i64 s2), (5, .int .i64 s3), (8, .int .i64 s4), (6, .int .i64 s4), (7, .int .i64 s_)], fun s_ => [(b1, ((cI .i64).arr 8).enc a0)], (ZaY.F1 a0 b1).f⟩
noncomputable def ZaY.L2 (a0 : (Vec Int 8)) (s2 : Int) (s3 : Int) (s4 : Int) (s17 : Int) : M (LS Int (LS (Int × Int × Int) (Int × Int))) :=
 (if (wrap .i64 (s4 + s17)) < 8 then
   chk ((0 : Int) ≤ (wrap .i64 (s4 + s17)) ∧ (wrap .i64 (s4 + s17)) < (8 : Nat)) >>= fun _ =>
   pure ((Vec.g a0 (wrap .i64 (s4 + s17)) 0) == 0)
  else
   pure false) >>= fun y24 =>
 if y24 = true then
  pure (LS.next (wrap .i64 (s17 + 1)))
 else
  if s17 > s3 then
   pure (LS.done (LS.next (s4, s17, wrap .i64 (s4 + 1))))
  else
   pure (LS.done (LS.next (s2, s3, wrap .i64 (s4 + 1))))
theorem ZaY.L2_ok (a0 : (Vec Int 8)) (b1 : Nat) (s2 : Int) (s3 : Int) (s4 : Int) : LJ ZaY.cx (ZaY.F2 a0 b1 s2 s3 s4) (fun s_ => ZaY.L2 a0 s2 s3 s4 s_) := by
 rintro s17
 show SJ _ _ _ _ (ZaY.L2 a0 s2 s3 s4 s17) _
 unfold ZaY.L2
 refine seq <| sr 12 <| J.j 5 6 .bool ?_ ?_ fun y24 => ?_
 ·exact J.y 3 fun hb22 hb23 => J.k 0 0 rfl Ty3 (At.zero (At.arr (z := 0) hb22 hb23)) <| J.e 2
 ·exact J.e 7
 refine J.z 0 <| J.f ?_ ?_
 ·exact SJ.skip <| block (id := 3) <| SJ.rg 3 <| J.z 3 <| inBlock <| J.o rfl
 refine exit (id := 2) (by rfl) <| sr 3 <| J.z 3 <| J.f ?_ ?_
 ·exact SJ.rg 4 <| J.z 4 <| inBlock <| SJ.rg 2 <| J.z 2 <| J.o rfl
 exact SJ.skip <| inBlock <| SJ.rg 2 <| J.z 2 <| J.o rfl
noncomputable def ZaY.L1 (a0 : (Vec Int 8)) (s2 : Int) (s3 : Int) (s4 : Int) : M (LS (Int × Int × Int) (Int × Int)) :=
 if s4 < 8 then
  Zcn (fun s_ : Int => ZaY.L2 a0 s2 s3 s4 s_) 0
 else
  pure (LS.done (s2, s3))
theorem ZaY.L1_ok (a0 : (Vec Int 8)) (b1 : Nat) : LJ ZaY.cx (ZaY.F1 a0 b1) (fun s_ => ZaY.L1 a0 s_.1 s_.2.1 s_.2.2) := by
 rintro ⟨s2, s3, s4⟩
 show SJ _ _ _ _ (ZaY.L1 a0 s2 s3 s4) _
 unfold ZaY.L1
 refine sr 1 <| J.z 1 <| seq <| J.f ?_ ?_
 ·exact SJ.skip <| seq <| block (id := 1) <| sr 2 <| J.z 2 <| sr 1 <| J.z 1 <| seq <| block (id := 2) <| J.L (ZaY.L2_ok a0 b1 s2 s3 s4)
 exact exit (id := 0) (by rfl) <| sr 4 <| J.z 4 <| J.r
noncomputable def ZaY (a0 : (Vec Int 8)) : M (Int × Int) :=
 slot 203 >>= fun b1 =>
 Zcn (fun s_ : (Int × Int × Int) => ZaY.L1 a0 s_.1 s_.2.1 s_.2.2) ((-1), 1, 0)
theorem ZmU (a0 : (Vec Int 8)) : Ref Tryz.prog 103 [((cI .i64).arr 8).val a0] (ZaY a0) ZaY.out := by
 refine J.Fn Tryz.func103 ?_
 unfold ZaY
 exact sr 3 <| J.b 0 ((cI .i64).arr 8) a0 fun b1 => J.z 2 <| sr 2 <| J.z 2 <| seq <| sr 1 <| J.z 1 <| block (id := 0) <| J.L (ZaY.L1_ok a0 b1)

noncomputable def ZcU.out (r_ : ByteArray) : Value := .string r_
noncomputable def ZcU (a0 : Int) (a1 : Int) : M ByteArray :=
 ZaX a0 a1 >>= fun r1 =>
 pure r1
theorem Zil (a0 : Int) (a1 : Int) : Ref Tryz.prog 123 [.int .i64 a0, .int .i64 a1] (ZcU a0 a1) ZcU.out := by
 refine J.Fn Tryz.func123 ?_
 unfold ZcU
 exact sr 1 <| J.z 1 <| sr 4 <| J.C 2 F100 (Zgb _ _) fun r1 => J.z 1 <| J.r

noncomputable def Zbz.B : Code := bod Tryz.f104
noncomputable def Zbz.cx : Fx := ⟨Tryz.prog, 104, Tryz.f104, none⟩
noncomputable def Zbz.out (r_ : ByteArray) : Value := .string r_
noncomputable def Zbz.F1 (a0 : Sl) : LF (Sl × Int) ByteArray := ⟨[.inBlock 0, .code (c2 (c2 (c2 Zbz.B)))], c1 (c2 (c1 (c2 (c2 Zbz.B)))), fun s_ => [(3, Sl.v s_.1), (6, Sl.v a0), (7, .int .i64 (a0.len : Int)), (8, .int .i64 s_.2)], fun s_ => [], (rt Zbz.out)⟩
noncomputable def Zbz.L1 (a0 : Sl) (s1 : Sl) (s2 : Int) : M (LS (Sl × Int) ByteArray) :=
 if s2 < (a0.len : Int) then
  idx a0.a a0.len s2 1 >>= fun p10 =>
  ld (cI .i64) p10 >>= fun x11 =>
  ZcU x11 16 >>= fun r12 =>
  slot 9 >>= fun b13 =>
  appl cS 9 16 ByteArray.empty s1 [r12] >>= fun r14 =>
  pure (LS.next (r14, wrap .i64 (s2 + 1)))
 else
  Zax s1 Zv4 >>= fun r15 =>
  pure (LS.done r15)
theorem Zbz.L1_ok (a0 : Sl) : LJ Zbz.cx (Zbz.F1 a0) (fun s_ => Zbz.L1 a0 s_.1 s_.2) := by
 rintro ⟨s1, s2⟩
 show SJ _ _ _ _ (Zbz.L1 a0 s1 s2) _
 unfold Zbz.L1
 refine sr 1 <| J.z 1 <| seq <| J.f ?_ ?_
 ·exact SJ.skip <| seq <| block (id := 1) <| sr 3 <| J.i 0 fun p10 => J.l 0 Ty3 fun x11 => J.z 1 <| SJ.rg 6 <| J.C 2 F123 (Zil _ _) fun r12 => J.S 0 [r12] Ty9 fun b13 => J.p 0 0 rfl Ty9 fun r14 => J.z 1 <| inBlock <| SJ.rg 2 <| J.z 2 <| forget (List.Sublist.cons _ List.Sublist.slnil) <| J.o rfl
 exact exit (id := 0) (by rfl) <| sr 3 <| J.C 1 F54 (Zec _ _) fun r15 => J.z 1 <| J.r
noncomputable def Zbz (a0 : Sl) : M ByteArray :=
 Zcn (fun s_ : (Sl × Int) => Zbz.L1 a0 s_.1 s_.2) (Sl.nil, 0)
theorem Zg6 (a0 : Sl) : Ref Tryz.prog 104 [Sl.v a0] (Zbz a0) Zbz.out := by
 refine J.Fn Tryz.func104 ?_
 unfold Zbz
 exact sr 1 <| J.z 1 <| sr 1 <| J.z 1 <| seq <| sr 3 <| J.z 3 <| block (id := 0) <| J.L (Zbz.L1_ok a0)

noncomputable def Za5.B : Code := bod Tryz.f79
noncomputable def Za5.cx : Fx := ⟨Tryz.prog, 79, Tryz.f79, none⟩
noncomputable def Za5.out (r_ : (ByteArray × Int)) : Value := .tuple #[.string r_.1, .int .i64 r_.2]
noncomputable def Za5.K1 (b46 : Nat) : M (ByteArray × Int) :=
 ld ((cI .i64).arr 8) (pt b46 0) >>= fun x54 =>
 ZaY x54 >>= fun r55 =>
 if r55.1 < 0 then
  cut 1 ⟨some (pt b46 0), 8, 8⟩ none none none >>= fun r58 =>
  Zbz r58 >>= fun r59 =>
  pure (r59, 0)
 else
  draw >>= fun _ =>
  cut 1 ⟨some (pt b46 0), 8, 8⟩ none (some r55.1) none >>= fun r60 =>
  Zbz r60 >>= fun r61 =>
  chk (((r61.size + str9.size : Nat) : Int) ≤ 9223372036854775807) >>= fun _ =>
  cut 1 ⟨some (pt b46 0), 8, 8⟩ (some (wrap .i64 (r55.1 + r55.2))) none none >>= fun r62 =>
  Zbz r62 >>= fun r63 =>
  chk ((((r61 ++ str9).size + r63.size : Nat) : Int) ≤ 9223372036854775807) >>= fun _ =>
  pure (((r61 ++ str9) ++ r63), 0)
theorem Za5.K1_ok (b46 : Nat) :
  SJ Za5.cx [.code (c2 (c2 (c2 (c2 Za5.B))))] [(4, .pointer (some (pt b46 0)))] [] (Za5.K1 b46) (rt Za5.out) := by
 unfold Za5.K1
 refine sr 7 <| J.l 0 ZxB fun x54 => J.C 0 F103 (ZmU _) fun r55 => J.z 5 <| seq <| sr 2 <| J.z 2 <| J.f ?_ ?_
 ·exact sr 4 <| J.ca 0 fun r58 => J.C 0 F104 (Zg6 _) fun r59 => J.z 2 <| J.r
 exact SJ.skip <| seq <| J.R 12 ZcY <| J.ca 1 fun r60 => J.C 0 F104 (Zg6 _) fun r61 => J.T 0 <| J.ca 3 fun r62 => J.C 0 F104 (Zg6 _) fun r63 => J.T 0 <| J.z 2 <| J.r
noncomputable def Za5.F1 (b1 : Nat) (b46 : Nat) : LF Int (ByteArray × Int) := ⟨[.inBlock 1, .code (c2 (c2 (c2 (c2 Za5.B))))], c1 (c2 (c1 (c2 (c2 (c2 Za5.B))))), fun s_ => [(1, .pointer (some (pt b1 0))), (4, .pointer (some (pt b46 0))), (30, .int .i64 s_)], fun s_ => [], (rt Za5.out)⟩
noncomputable def Za5.L1 (b1 : Nat) (b46 : Nat) (s47 : Int) : M (LS Int (ByteArray × Int)) :=
 if s47 < 8 then
  draw >>= fun _ =>
  idx (some (Addr.add (pt b1 0) 1)) 16 (wrap .i64 (2 * s47)) 1 >>= fun p65 =>
  ld (cI .u8) p65 >>= fun x66 =>
  idx (some (Addr.add (pt b1 0) 1)) 16 (wrap .i64 ((wrap .i64 (2 * s47)) + 1)) 1 >>= fun p67 =>
  ld (cI .u8) p67 >>= fun x68 =>
  idx (some (pt b46 0)) 8 s47 1 >>= fun p69 =>
  st (cI .i64) p69 (bor .i64 (wrap .i64 ((wrap .i64 x66) * 2 ^ 8)) (wrap .i64 x68)) >>= fun _ =>
  pure (LS.next (wrap .i64 (s47 + 1)))
 else
  (Za5.K1 b46) >>= fun b => pure (LS.done b)
theorem Za5.L1_ok (b1 : Nat) (b46 : Nat) : LJ Za5.cx (Za5.F1 b1 b46) (fun s_ => Za5.L1 b1 b46 s_) := by
 rintro s47
 show SJ _ _ _ _ (Za5.L1 b1 b46 s47) _
 unfold Za5.L1
 refine sr 1 <| J.z 1 <| seq <| J.f ?_ ?_
 ·exact SJ.skip <| seq <| block (id := 2) <| sr 2 <| J.z 2 <| J.R 18 ZcY <| J.g 4 <| OJ.idxA (d := 37) (T := 48) (y := .tmp 36) (j := .tmp 35) (E := 5) (k := .i64) fun p65 => J.l 0 Ty5 fun x66 => J.g 6 <| OJ.idxA (d := 45) (T := 48) (y := .tmp 44) (j := .tmp 43) (E := 5) (k := .i64) fun p67 => J.l 0 Ty5 fun x68 => J.g 2 <| OJ.idxA (d := 49) (T := 203) (y := .tmp 4) (j := .tmp 33) (E := 3) (k := .i64) fun p69 => J.w 0 Ty3 <| J.z 0 <| inBlock <| SJ.rg 2 <| J.z 2 <| J.o rfl
 exact exit (id := 1) (by rfl) <| J.q <| SJ.done <| Za5.K1_ok b46
noncomputable def Za5 (a0 : Zbw) : M (ByteArray × Int) :=
 newv 50 Za8 a0 >>= fun b1 =>
 ld Za8 (pt b1 0) >>= fun x2 =>
 Zfl x2 >>= fun r3 =>
 if ¬ (r3 = true) then
  pure (ByteArray.empty, 40)
 else
  ld (cI .i64) (pt b1 0) >>= fun x26 =>
  if x26 = 4 then
   cut 1 ⟨some (Addr.add (pt b1 0) 1), 16, 16⟩ none (some 4) none >>= fun r37 =>
   ZbH r37 >>= fun r38 =>
   pure (r38, 0)
  else
   cut 1 ⟨some (Addr.add (pt b1 0) 1), 16, 16⟩ none (some 12) none >>= fun r39 =>
   (chk (12 ≤ r39.len) >>= fun _ => nilck r39.a) >>= fun p40 =>
   ld ((cI .u8).arr 12) p40 >>= fun x41 =>
   if x41 = (⟨[0, 0, 0, 0, 0, 0, 0, 0, 0, 0, 255, 255], rfl⟩ : (Vec Int 12)) then
    cut 1 ⟨some (Addr.add (pt b1 0) 1), 16, 16⟩ (some 12) none none >>= fun r44 =>
    ZbH r44 >>= fun r45 =>
    chk (((ZuK.size + r45.size : Nat) : Int) ≤ 9223372036854775807) >>= fun _ =>
    pure ((ZuK ++ r45), 0)
   else
    newv 203 ((cI .i64).arr 8) (Vec.rep 8 0) >>= fun b46 =>
    Zcn (fun s_ : Int => Za5.L1 b1 b46 s_) 0
theorem ZiL (a0 : Zbw) : Ref Tryz.prog 79 [Za8.val a0] (Za5 a0) Za5.out := by
 refine J.Fn Tryz.func79 ?_
 unfold Za5
 refine sr 3 <| J.B 0 fun b1 => J.z 2 <| seq <| block (id := 0) <| sr 4 <| J.l 0 Ty50 fun x2 => J.C 0 F101 (Zku _) fun r3 => J.z 2 <| J.f ?_ ?_
 ·exact sr 2 <| J.z 2 <| J.r
 refine sr 4 <| J.l 1 Ty3 fun x26 => J.z 2 <| J.f ?_ ?_
 ·exact sr 5 <| J.ca 1 fun r37 => J.C 0 F102 (Zjr _) fun r38 => J.z 2 <| J.r
 refine sr 7 <| J.ca 1 fun r39 => OJ.toArr (d := 22) (t := 202) (E := 5) (y := .tmp 21) (s := r39) fun p40 => J.l 0 Zvv fun x41 => OJ.build (d := 24) (T := 202) (parts := [(10, .const (.int .u8 255)), (11, .const (.int .u8 255))]) (ps := [(10, (cI .u8).val 255), (11, (cI .u8).val 255)]) (cd := ((cI .u8).arr 12)) (z0 := (Vec.rep 12 0)) (⟨[0, 0, 0, 0, 0, 0, 0, 0, 0, 0, 255, 255], rfl⟩ : (Vec Int 12)) Zvv rfl (Zcg.cons (cd := (cI .u8)) (q := 255) (o := 10) (by kernel_rfl) (Upd.arr (i := 10) (by decide) (by decide)) (Zcg.cons (cd := (cI .u8)) (q := 255) (o := 11) (by kernel_rfl) (Upd.arr (i := 11) (by decide) (by decide)) Zcg.nil)) <| OJ.eql (d := 25) (T := 202) (yT := 202) (y := .tmp 23) (z := .tmp 24) (cd := ((cI .u8).arr 12)) (p := x41) (q := (⟨[0, 0, 0, 0, 0, 0, 0, 0, 0, 0, 255, 255], rfl⟩ : (Vec Int 12))) rfl ZxF <| J.z 1 <| J.f ?_ ?_
 ·exact sr 6 <| J.ca 1 fun r44 => J.C 0 F102 (Zjr _) fun r45 => J.T 0 <| J.z 2 <| J.r
 exact SJ.skip <| inBlock <| sr 1 <| J.A 0 ZxB fun b46 => J.z 0 <| seq <| sr 1 <| J.z 1 <| block (id := 1) <| J.L (Za5.L1_ok b1 b46)

noncomputable def Zdr.out (r_ : (ByteArray × Int)) : Value := .tuple #[.string r_.1, .int .i64 r_.2]
noncomputable def Zdr (a0 : Zag) : M (ByteArray × Int) :=
 slot 129 >>= fun b1 =>
 Zcm a0 >>= fun r2 =>
 if r2 ≠ 0 then
  pure (ByteArray.empty, r2)
 else
  Za5 a0.IP >>= fun r3 =>
  chk (((r3.1.size + Zr8.size : Nat) : Int) ≤ 9223372036854775807) >>= fun _ =>
  ZbR a0.Len >>= fun r4 =>
  chk ((((r3.1 ++ Zr8).size + r4.size : Nat) : Int) ≤ 9223372036854775807) >>= fun _ =>
  pure (((r3.1 ++ Zr8) ++ r4), 0)
theorem ZjQ (a0 : Zag) : Ref Tryz.prog 78 [ZaI.val a0] (Zdr a0) Zdr.out := by
 refine J.Fn Tryz.func78 ?_
 unfold Zdr
 refine sr 3 <| J.b 0 ZaI a0 fun b1 => J.z 2 <| seq <| sr 3 <| J.k 0 0 rfl Zc5 (At.whole _) <| J.C 0 F99 (Zeu _) fun r2 => J.z 1 <| sr 2 <| J.z 2 <| J.f ?_ ?_
 ·exact sr 3 <| J.z 3 <| J.r
 exact SJ.skip <| sr 8 <| J.k 1 0 rfl Ty50 (ZbQ _) <| J.C 0 F79 (ZiL _) fun r3 => J.z 5 <| sr 8 <| J.T 1 <| J.k 1 0 rfl Ty3 (Zct _) <| J.C 0 F51 (ZcI _) fun r4 => J.T 0 <| J.z 2 <| J.r

noncomputable def Zaw.B : Code := bod Tryz.f53
noncomputable def Zaw.cx : Fx := ⟨Tryz.prog, 53, Tryz.f53, none⟩
noncomputable def Zaw.out (r_ : ByteArray) : Value := .string r_
noncomputable def Zaw.K1 (s18 : Sl) (j38 : ByteArray) : M ByteArray :=
 if (s18.len : Int) > 0 then
  Zax s18 str0 >>= fun r40 =>
  chk (((ZuJ.size + r40.size : Nat) : Int) ≤ 9223372036854775807) >>= fun _ =>
  chk (((j38.size + (ZuJ ++ r40).size : Nat) : Int) ≤ 9223372036854775807) >>= fun _ =>
  pure (j38 ++ (ZuJ ++ r40))
 else
  pure j38
theorem Zaw.K1_ok (s18 : Sl) (j38 : ByteArray) :
  SJ Zaw.cx [.inBlock 4, .code (c2 (c2 (c2 (c2 (c2 (c2 (c2 Zaw.B)))))))] [(6, Sl.v s18), (14, .string j38)] [] (Zaw.K1 s18 j38) (rt Zaw.out) := by
 unfold Zaw.K1
 refine inBlock <| seq <| sr 3 <| J.z 3 <| J.f ?_ ?_
 ·exact SJ.rg 6 <| J.C 2 F54 (Zec _ _) fun r40 => J.T 0 <| J.T 0 <| J.z 1 <| sr 2 <| J.z 2 <| J.r
 exact SJ.skip <| sr 2 <| J.z 2 <| J.r
noncomputable def Zaw.K2 (s18 : Sl) (j44 : ByteArray) : M ByteArray :=
 Zaw.K1 s18 j44
theorem Zaw.K2_ok (s18 : Sl) (j44 : ByteArray) :
  SJ Zaw.cx [.inBlock 4, .code (c2 (c2 (c2 (c2 (c2 (c2 (c2 Zaw.B)))))))] [(6, Sl.v s18), (14, .string j44)] [] (Zaw.K2 s18 j44) (rt Zaw.out) := by
 unfold Zaw.K2
 exact J.q <| Zaw.K1_ok s18 j44
noncomputable def Zaw.K3 (a0 : ByteArray) (a1 : Zar) (s2 : Sl) (s18 : Sl) : M ByteArray :=
 chk (((ZfL.size + a0.size : Nat) : Int) ≤ 9223372036854775807) >>= fun _ =>
 chk ((((ZfL ++ a0).size + ZfL.size : Nat) : Int) ≤ 9223372036854775807) >>= fun _ =>
 if (s2.len : Int) = 0 then
  chk (((((ZfL ++ a0) ++ ZfL).size + str7.size : Nat) : Int) ≤ 9223372036854775807) >>= fun _ =>
  Zaw.K1 s18 (((ZfL ++ a0) ++ ZfL) ++ str7)
 else
  if a1.Not = true then
   Zax s2 str0 >>= fun r45 =>
   chk (((Zs9.size + r45.size : Nat) : Int) ≤ 9223372036854775807) >>= fun _ =>
   chk (((((ZfL ++ a0) ++ ZfL).size + (Zs9 ++ r45).size : Nat) : Int) ≤ 9223372036854775807) >>= fun _ =>
   Zaw.K2 s18 (((ZfL ++ a0) ++ ZfL) ++ (Zs9 ++ r45))
  else
   Zax s2 str0 >>= fun r46 =>
   chk (((((ZfL ++ a0) ++ ZfL).size + r46.size : Nat) : Int) ≤ 9223372036854775807) >>= fun _ =>
   Zaw.K2 s18 (((ZfL ++ a0) ++ ZfL) ++ r46)
theorem Zaw.K3_ok (a0 : ByteArray) (a1 : Zar) (b1 : Nat) (s2 : Sl) (s18 : Sl) :
  SJ Zaw.cx [.code (c2 (c2 (c2 (c2 (c2 Zaw.B)))))] [(0, .string a0), (3, .pointer (some (pt b1 0))), (5, Sl.v s2), (6, Sl.v s18)] [(b1, ZaM.enc a1)] (Zaw.K3 a0 a1 s2 s18) (rt Zaw.out) := by
 unfold Zaw.K3
 refine sr 4 <| J.T 1 <| J.T 0 <| J.z 1 <| seq <| block (id := 4) <| sr 4 <| J.z 4 <| J.f ?_ ?_
 ·exact SJ.rg 3 <| J.T 1 <| J.z 1 <| forget (List.Sublist.cons _ List.Sublist.slnil) <| J.q <| Zaw.K1_ok s18 (((ZfL ++ a0) ++ ZfL) ++ str7)
 refine sr 3 <| J.k 1 0 rfl Ty4 (ZaS _) <| J.z 1 <| J.f ?_ ?_
 ·exact SJ.rg 6 <| J.C 2 F54 (Zec _ _) fun r45 => J.T 0 <| J.T 0 <| J.z 1 <| forget (List.Sublist.cons _ List.Sublist.slnil) <| J.q <| Zaw.K2_ok s18 (((ZfL ++ a0) ++ ZfL) ++ (Zs9 ++ r45))
 exact SJ.rg 5 <| J.C 2 F54 (Zec _ _) fun r46 => J.T 0 <| J.z 1 <| forget (List.Sublist.cons _ List.Sublist.slnil) <| J.q <| Zaw.K2_ok s18 (((ZfL ++ a0) ++ ZfL) ++ r46)
noncomputable def Zaw.F1 (a0 : ByteArray) (a1 : Zar) (b1 : Nat) (s2 : Sl) : LF (Sl × Int) ByteArray := ⟨[.inBlock 2, .code (c2 (c2 (c2 (c2 (c2 Zaw.B)))))], c1 (c2 (c1 (c2 (c2 (c2 (c2 Zaw.B)))))), fun s_ => [(0, .string a0), (3, .pointer (some (pt b1 0))), (5, Sl.v s2), (6, Sl.v s_.1), (61, Sl.v a1.Ports), (62, .int .i64 (a1.Ports.len : Int)), (63, .int .i64 s_.2)], fun s_ => [(b1, ZaM.enc a1)], (rt Zaw.out)⟩
noncomputable def Zaw.L1 (a0 : ByteArray) (a1 : Zar) (s2 : Sl) (s18 : Sl) (s19 : Int) : M (LS (Sl × Int) ByteArray) :=
 if s19 < (a1.Ports.len : Int) then
  idx a1.Ports.a a1.Ports.len s19 2 >>= fun p49 =>
  ld Zbd p49 >>= fun x50 =>
  slot 131 >>= fun b51 =>
  ZbR x50.Lo >>= fun r52 =>
  if x50.Hi ≠ x50.Lo then
   ZbR x50.Hi >>= fun r54 =>
   chk (((Zpe.size + r54.size : Nat) : Int) ≤ 9223372036854775807) >>= fun _ =>
   chk (((r52.size + (Zpe ++ r54).size : Nat) : Int) ≤ 9223372036854775807) >>= fun _ =>
   slot 9 >>= fun b55 =>
   appl cS 9 16 ByteArray.empty s18 [(r52 ++ (Zpe ++ r54))] >>= fun r56 =>
   pure (LS.next (r56, wrap .i64 (s19 + 1)))
  else
   slot 9 >>= fun b57 =>
   appl cS 9 16 ByteArray.empty s18 [r52] >>= fun r58 =>
   pure (LS.next (r58, wrap .i64 (s19 + 1)))
 else
  (Zaw.K3 a0 a1 s2 s18) >>= fun b => pure (LS.done b)
theorem Zaw.L1_ok (a0 : ByteArray) (a1 : Zar) (b1 : Nat) (s2 : Sl) : LJ Zaw.cx (Zaw.F1 a0 a1 b1 s2) (fun s_ => Zaw.L1 a0 a1 s2 s_.1 s_.2) := by
 rintro ⟨s18, s19⟩
 show SJ _ _ _ _ (Zaw.L1 a0 a1 s2 s18 s19) _
 unfold Zaw.L1
 refine sr 1 <| J.z 1 <| seq <| J.f ?_ ?_
 ·refine SJ.skip <| seq <| block (id := 3) <| sr 4 <| J.i 0 fun p49 => J.l 0 Zgj fun x50 => J.a 0 Zgj fun b51 => J.s 0 0 rfl Zgj (Upd.w x50) <| J.z 0 <| sr 4 <| J.k 1 0 rfl Ty3 (ZdK _) <| J.C 0 F51 (ZcI _) fun r52 => J.z 1 <| seq <| sr 5 <| J.k 1 0 rfl Ty3 (ZdL _) <| J.k 1 0 rfl Ty3 (ZdK _) <| J.z 1 <| J.f ?_ ?_
  ·exact SJ.rg 7 <| J.k 2 0 rfl Ty3 (ZdL _) <| J.C 0 F51 (ZcI _) fun r54 => J.T 0 <| J.T 0 <| J.z 1 <| SJ.rg 5 <| J.S 2 [(r52 ++ (Zpe ++ r54))] Ty9 fun b55 => J.p 0 0 rfl Ty9 fun r56 => J.z 1 <| inBlock <| SJ.rg 2 <| J.z 2 <| forget (List.Sublist.cons _ (List.Sublist.cons _ (List.Sublist.cons_cons _ List.Sublist.slnil))) <| J.o rfl
  exact SJ.skip <| SJ.rg 5 <| J.S 2 [r52] Ty9 fun b57 => J.p 0 0 rfl Ty9 fun r58 => J.z 1 <| inBlock <| SJ.rg 2 <| J.z 2 <| forget (List.Sublist.cons _ (List.Sublist.cons _ (List.Sublist.cons_cons _ List.Sublist.slnil))) <| J.o rfl
 exact exit (id := 2) (by rfl) <| J.q <| SJ.done <| Zaw.K3_ok a0 a1 b1 s2 s18
noncomputable def Zaw.K4 (a0 : ByteArray) (a1 : Zar) (s2 : Sl) : M ByteArray :=
 Zcn (fun s_ : (Sl × Int) => Zaw.L1 a0 a1 s2 s_.1 s_.2) (Sl.nil, 0)
theorem Zaw.K4_ok (a0 : ByteArray) (a1 : Zar) (b1 : Nat) (s2 : Sl) :
  SJ Zaw.cx [.code (c2 (c2 (c2 (c2 Zaw.B))))] [(0, .string a0), (3, .pointer (some (pt b1 0))), (5, Sl.v s2), (6, Sl.v Sl.nil)] [(b1, ZaM.enc a1)] (Zaw.K4 a0 a1 s2) (rt Zaw.out) := by
 unfold Zaw.K4
 exact seq <| sr 4 <| J.k 1 0 rfl Ty31 (Za7 _) <| J.z 2 <| block (id := 2) <| J.L (Zaw.L1_ok a0 a1 b1 s2)
noncomputable def Zaw.F2 (a0 : ByteArray) (a1 : Zar) (b1 : Nat) : LF (Sl × Int) ByteArray := ⟨[.inBlock 0, .code (c2 (c2 (c2 (c2 Zaw.B))))], c1 (c2 (c1 (c2 (c2 (c2 Zaw.B))))), fun s_ => [(0, .string a0), (3, .pointer (some (pt b1 0))), (5, Sl.v s_.1), (6, Sl.v Sl.nil), (24, Sl.v a1.Nets), (25, .int .i64 (a1.Nets.len : Int)), (26, .int .i64 s_.2)], fun s_ => [(b1, ZaM.enc a1)], (rt Zaw.out)⟩
noncomputable def Zaw.L2 (a0 : ByteArray) (a1 : Zar) (s2 : Sl) (s3 : Int) : M (LS (Sl × Int) ByteArray) :=
 if s3 < (a1.Nets.len : Int) then
  idx a1.Nets.a a1.Nets.len s3 18 >>= fun p61 =>
  ld ZaI p61 >>= fun x62 =>
  slot 129 >>= fun b63 =>
  Zdr x62 >>= fun r64 =>
  (if x62.Len = 32 then
    pure (x62.IP.V == 4)
   else
    pure false) >>= fun y65 =>
  (if y65 = true then
    pure true
   else
    pure (x62.Len == 128)) >>= fun y66 =>
  if y66 = true then
   Za5 x62.IP >>= fun r68 =>
   slot 9 >>= fun b69 =>
   appl cS 9 16 ByteArray.empty s2 [r68.1] >>= fun r70 =>
   pure (LS.next (r70, wrap .i64 (s3 + 1)))
  else
   slot 9 >>= fun b71 =>
   appl cS 9 16 ByteArray.empty s2 [r64.1] >>= fun r72 =>
   pure (LS.next (r72, wrap .i64 (s3 + 1)))
 else
  (Zaw.K4 a0 a1 s2) >>= fun b => pure (LS.done b)
theorem Zaw.L2_ok (a0 : ByteArray) (a1 : Zar) (b1 : Nat) : LJ Zaw.cx (Zaw.F2 a0 a1 b1) (fun s_ => Zaw.L2 a0 a1 s_.1 s_.2) := by
 rintro ⟨s2, s3⟩
 show SJ _ _ _ _ (Zaw.L2 a0 a1 s2 s3) _
 unfold Zaw.L2
 refine sr 1 <| J.z 1 <| seq <| J.f ?_ ?_
 ·refine SJ.skip <| seq <| block (id := 1) <| sr 4 <| J.i 0 fun p61 => J.l 0 Zc5 fun x62 => J.a 0 Zc5 fun b63 => J.s 0 0 rfl Zc5 (Upd.w x62) <| J.z 0 <| sr 7 <| J.k 0 0 rfl Zc5 (At.whole _) <| J.C 0 F78 (ZjQ _) fun r64 => J.z 5 <| seq <| sr 14 <| J.k 1 0 rfl Ty3 (Zct _) <| J.j 2 4 .bool ?_ ?_ fun y65 => ?_
  ·exact J.k 2 0 rfl Ty3 (At.trans (ZbQ _) (Zd7 _)) <| J.e 2
  ·exact J.e 5
  refine J.j 1 3 .bool ?_ ?_ fun y66 => ?_
  ·exact J.e 4
  ·exact J.k 1 0 rfl Ty3 (Zct _) <| J.e 2
  refine J.z 0 <| J.f ?_ ?_
  ·exact SJ.rg 7 <| J.k 1 0 rfl Ty50 (ZbQ _) <| J.C 0 F79 (ZiL _) fun r68 => J.z 4 <| SJ.rg 5 <| J.S 2 [r68.1] Ty9 fun b69 => J.p 0 0 rfl Ty9 fun r70 => J.z 1 <| inBlock <| SJ.rg 2 <| J.z 2 <| forget (List.Sublist.cons _ (List.Sublist.cons _ (List.Sublist.cons_cons _ List.Sublist.slnil))) <| J.o rfl
  exact SJ.skip <| SJ.rg 5 <| J.S 2 [r64.1] Ty9 fun b71 => J.p 0 0 rfl Ty9 fun r72 => J.z 1 <| inBlock <| SJ.rg 2 <| J.z 2 <| forget (List.Sublist.cons _ (List.Sublist.cons _ (List.Sublist.cons_cons _ List.Sublist.slnil))) <| J.o rfl
 exact exit (id := 0) (by rfl) <| J.q <| SJ.done <| Zaw.K4_ok a0 a1 b1 s2
noncomputable def Zaw (a0 : ByteArray) (a1 : Zar) : M ByteArray :=
 slot 33 >>= fun b1 =>
 if (wrap .i64 ((a1.Nets.len : Int) + (a1.Ports.len : Int))) = 0 then
  pure ByteArray.empty
 else
  Zcn (fun s_ : (Sl × Int) => Zaw.L2 a0 a1 s_.1 s_.2) (Sl.nil, 0)
theorem Zj4 (a0 : ByteArray) (a1 : Zar) : Ref Tryz.prog 53 [.string a0, ZaM.val a1] (Zaw a0 a1) Zaw.out := by
 refine J.Fn Tryz.func53 ?_
 unfold Zaw
 refine sr 2 <| J.b 0 ZaM a1 fun b1 => J.z 1 <| seq <| sr 8 <| J.k 1 0 rfl Ty30 (ZaF _) <| J.k 2 0 rfl Ty31 (Za7 _) <| J.z 3 <| J.f ?_ ?_
 ·exact sr 1 <| J.z 1 <| J.r
 exact SJ.skip <| sr 2 <| J.z 2 <| seq <| sr 4 <| J.k 1 0 rfl Ty30 (ZaF _) <| J.z 2 <| block (id := 0) <| J.L (Zaw.L2_ok a0 a1 b1)

noncomputable def Zae.B : Code := bod Tryz.f28
noncomputable def Zae.cx : Fx := ⟨Tryz.prog, 28, Tryz.f28, none⟩
noncomputable def Zae.out (r_ : ByteArray) : Value := .string r_
noncomputable def Zae.K1 (a0 : Zaf) (j34 : ByteArray) : M ByteArray :=
 if a0.Type_ > 0 then
  ZbR (wrap .i64 (a0.Type_ - 1)) >>= fun r36 =>
  chk (((Zr6.size + r36.size : Nat) : Int) ≤ 9223372036854775807) >>= fun _ =>
  chk (((j34.size + (Zr6 ++ r36).size : Nat) : Int) ≤ 9223372036854775807) >>= fun _ =>
  if a0.Pieces = true then
   chk ((((j34 ++ (Zr6 ++ r36)).size + Zs4.size : Nat) : Int) ≤ 9223372036854775807) >>= fun _ =>
   pure ((j34 ++ (Zr6 ++ r36)) ++ Zs4)
  else
   pure (j34 ++ (Zr6 ++ r36))
 else
  if a0.Pieces = true then
   chk (((j34.size + Zs4.size : Nat) : Int) ≤ 9223372036854775807) >>= fun _ =>
   pure (j34 ++ Zs4)
  else
   pure j34
theorem Zae.K1_ok (a0 : Zaf) (b1 : Nat) (j34 : ByteArray) :
  SJ Zae.cx [.code (c2 (c2 (c2 (c2 (c2 (c2 (c2 (c2 (c2 (c2 Zae.B))))))))))] [(1, .pointer (some (pt b1 0))), (3, .string j34)] [(b1, Zah.enc a0)] (Zae.K1 a0 j34) (rt Zae.out) := by
 unfold Zae.K1
 refine seq <| sr 3 <| J.k 1 0 rfl Ty3 (ZcP _) <| J.z 1 <| J.f ?_ ?_
 ·refine SJ.rg 8 <| J.k 2 0 rfl Ty3 (ZcP _) <| J.C 1 F51 (ZcI _) fun r36 => J.T 0 <| J.T 0 <| J.z 1 <| seq <| sr 2 <| J.k 1 0 rfl Ty4 (Zd1 _) <| J.z 0 <| J.f ?_ ?_
  ·exact SJ.rg 3 <| J.T 1 <| J.z 1 <| sr 2 <| J.z 2 <| J.r
  exact SJ.skip <| sr 2 <| J.z 2 <| J.r
 refine SJ.skip <| seq <| sr 2 <| J.k 1 0 rfl Ty4 (Zd1 _) <| J.z 0 <| J.f ?_ ?_
 ·exact SJ.rg 3 <| J.T 1 <| J.z 1 <| sr 2 <| J.z 2 <| J.r
 exact SJ.skip <| sr 2 <| J.z 2 <| J.r
noncomputable def Zae.K2 (a0 : Zaf) (j11 : ByteArray) (r12 : ByteArray) (r13 : ByteArray) (s15 : Sl) : M ByteArray :=
 if (s15.len : Int) > 0 then
  Zax s15 str0 >>= fun r40 =>
  chk (((Zs5.size + r40.size : Nat) : Int) ≤ 9223372036854775807) >>= fun _ =>
  chk ((((j11 ++ (r12 ++ r13)).size + (Zs5 ++ r40).size : Nat) : Int) ≤ 9223372036854775807) >>= fun _ =>
  Zae.K1 a0 ((j11 ++ (r12 ++ r13)) ++ (Zs5 ++ r40))
 else
  Zae.K1 a0 (j11 ++ (r12 ++ r13))
theorem Zae.K2_ok (a0 : Zaf) (b1 : Nat) (j11 : ByteArray) (r12 : ByteArray) (r13 : ByteArray) (s15 : Sl) :
  SJ Zae.cx [.code (c2 (c2 (c2 (c2 (c2 (c2 (c2 (c2 (c2 Zae.B)))))))))] [(1, .pointer (some (pt b1 0))), (3, .string (j11 ++ (r12 ++ r13))), (4, Sl.v s15)] [(b1, Zah.enc a0)] (Zae.K2 a0 j11 r12 r13 s15) (rt Zae.out) := by
 unfold Zae.K2
 refine seq <| sr 3 <| J.z 3 <| J.f ?_ ?_
 ·exact SJ.rg 6 <| J.C 2 F54 (Zec _ _) fun r40 => J.T 0 <| J.T 0 <| J.z 1 <| J.q <| Zae.K1_ok a0 b1 ((j11 ++ (r12 ++ r13)) ++ (Zs5 ++ r40))
 exact SJ.skip <| J.q <| Zae.K1_ok a0 b1 (j11 ++ (r12 ++ r13))
noncomputable def Zae.F1 (a0 : Zaf) (b1 : Nat) (j11 : ByteArray) (r12 : ByteArray) (r13 : ByteArray) (x14 : Sl) : LF (Sl × Int) ByteArray := ⟨[.inBlock 0, .code (c2 (c2 (c2 (c2 (c2 (c2 (c2 (c2 (c2 Zae.B)))))))))], c1 (c2 (c1 (c2 (c2 (c2 (c2 (c2 (c2 (c2 (c2 Zae.B)))))))))), fun s_ => [(1, .pointer (some (pt b1 0))), (3, .string (j11 ++ (r12 ++ r13))), (4, Sl.v s_.1), (54, Sl.v x14), (55, .int .i64 (x14.len : Int)), (56, .int .i64 s_.2)], fun s_ => [(b1, Zah.enc a0)], (rt Zae.out)⟩
noncomputable def Zae.K3 (a0 : Zaf) (s16 : Int) (x43 : ByteArray) (j46 : Sl) : M (LS (Sl × Int) ByteArray) :=
 chk (0 ≤ (wrap .u64 s16)) >>= fun _ =>
 if (band .i64 (Int.fdiv a0.Clear (2 ^ min (Int.toNat (wrap .u64 s16)) 64)) 1) = 1 then
  chk (((Zr7.size + x43.size : Nat) : Int) ≤ 9223372036854775807) >>= fun _ =>
  slot 9 >>= fun b49 =>
  appl cS 9 16 ByteArray.empty j46 [(Zr7 ++ x43)] >>= fun r50 =>
  pure (LS.next (r50, wrap .i64 (s16 + 1)))
 else
  pure (LS.next (j46, wrap .i64 (s16 + 1)))
theorem Zae.K3_ok (a0 : Zaf) (b1 : Nat) (j11 : ByteArray) (r12 : ByteArray) (r13 : ByteArray) (x14 : Sl) (s16 : Int) (x43 : ByteArray) (j46 : Sl) :
  SJ Zae.cx [.code (c2 (c2 (c1 (c1 (c2 (c2 (c1 (c1 (c2 (c1 (c2 (c2 (c2 (c2 (c2 (c2 (c2 (c2 Zae.B)))))))))))))))))), .inBlock 1, .code (c2 (c2 (c2 (c1 (c1 (c2 (c1 (c2 (c2 (c2 (c2 (c2 (c2 (c2 (c2 Zae.B))))))))))))))), .inLoop (c1 (c1 (c2 (c1 (c2 (c2 (c2 (c2 (c2 (c2 (c2 (c2 Zae.B)))))))))))), .inBlock 0, .code (c2 (c2 (c2 (c2 (c2 (c2 (c2 (c2 (c2 Zae.B)))))))))] [(1, .pointer (some (pt b1 0))), (3, .string (j11 ++ (r12 ++ r13))), (4, Sl.v j46), (54, Sl.v x14), (55, .int .i64 (x14.len : Int)), (56, .int .i64 s16), (5, .int .i64 s16), (6, .string x43)] [(b1, Zah.enc a0)] (Zae.K3 a0 s16 x43 j46) (Zae.F1 a0 b1 j11 r12 r13 x14).f := by
 unfold Zae.K3
 refine sr 7 <| J.k 1 0 rfl Ty3 (Zca _) <| J.g 2 <| OJ.shr (d := 76) (T := 3) (yT := 136) (y := .tmp 73) (z := .tmp 75) (k := .i64) (yk := .u64) (p := a0.Clear) (q := (wrap .u64 s16)) fun hq52 => J.z 2 <| J.f ?_ ?_
 ·exact SJ.rg 6 <| J.T 2 <| J.S 0 [(Zr7 ++ x43)] Ty9 fun b49 => J.p 0 0 rfl Ty9 fun r50 => J.z 1 <| inBlock <| SJ.rg 2 <| J.z 2 <| forget (List.Sublist.cons _ (List.Sublist.cons_cons _ List.Sublist.slnil)) <| J.o rfl
 exact SJ.skip <| inBlock <| SJ.rg 2 <| J.z 2 <| J.o rfl
noncomputable def Zae.L1 (a0 : Zaf) (j11 : ByteArray) (r12 : ByteArray) (r13 : ByteArray) (x14 : Sl) (s15 : Sl) (s16 : Int) : M (LS (Sl × Int) ByteArray) :=
 if s16 < (x14.len : Int) then
  idx x14.a x14.len s16 1 >>= fun p42 =>
  ld cS p42 >>= fun x43 =>
  chk (0 ≤ (wrap .u64 s16)) >>= fun _ =>
  if (band .i64 (Int.fdiv a0.Set (2 ^ min (Int.toNat (wrap .u64 s16)) 64)) 1) = 1 then
   slot 9 >>= fun b53 =>
   appl cS 9 16 ByteArray.empty s15 [x43] >>= fun r54 =>
   Zae.K3 a0 s16 x43 r54
  else
   Zae.K3 a0 s16 x43 s15
 else
  (Zae.K2 a0 j11 r12 r13 s15) >>= fun b => pure (LS.done b)
theorem Zae.L1_ok (a0 : Zaf) (b1 : Nat) (j11 : ByteArray) (r12 : ByteArray) (r13 : ByteArray) (x14 : Sl) : LJ Zae.cx (Zae.F1 a0 b1 j11 r12 r13 x14) (fun s_ => Zae.L1 a0 j11 r12 r13 x14 s_.1 s_.2) := by
 rintro ⟨s15, s16⟩
 show SJ _ _ _ _ (Zae.L1 a0 j11 r12 r13 x14 s15 s16) _
 unfold Zae.L1
 refine sr 1 <| J.z 1 <| seq <| J.f ?_ ?_
 ·refine SJ.skip <| seq <| block (id := 1) <| sr 5 <| J.i 1 fun p42 => J.l 0 Ty9 fun x43 => J.z 2 <| seq <| sr 7 <| J.k 1 0 rfl Ty3 (ZcD _) <| J.g 2 <| OJ.shr (d := 65) (T := 3) (yT := 136) (y := .tmp 62) (z := .tmp 64) (k := .i64) (yk := .u64) (p := a0.Set) (q := (wrap .u64 s16)) fun hq56 => J.z 2 <| J.f ?_ ?_
  ·exact SJ.rg 5 <| J.S 2 [x43] Ty9 fun b53 => J.p 0 0 rfl Ty9 fun r54 => J.z 1 <| forget (List.Sublist.cons _ (List.Sublist.cons_cons _ List.Sublist.slnil)) <| J.q <| Zae.K3_ok a0 b1 j11 r12 r13 x14 s16 x43 r54
  exact SJ.skip <| J.q <| Zae.K3_ok a0 b1 j11 r12 r13 x14 s16 x43 s15
 exact exit (id := 0) (by rfl) <| J.q <| SJ.done <| Zae.K2_ok a0 b1 j11 r12 r13 s15
noncomputable def Zae.K4 (a0 : Zaf) (j11 : ByteArray) : M ByteArray :=
 draw >>= fun _ =>
 Zaw Zqs a0.From >>= fun r12 =>
 Zaw Zta a0.To >>= fun r13 =>
 chk (((r12.size + r13.size : Nat) : Int) ≤ 9223372036854775807) >>= fun _ =>
 chk (((j11.size + (r12 ++ r13).size : Nat) : Int) ≤ 9223372036854775807) >>= fun _ =>
 ld cL ⟨2, 0, none⟩ >>= fun x14 =>
 Zcn (fun s_ : (Sl × Int) => Zae.L1 a0 j11 r12 r13 x14 s_.1 s_.2) (Sl.nil, 0)
theorem Zae.K4_ok (a0 : Zaf) (b1 : Nat) (j11 : ByteArray) :
  SJ Zae.cx [.code (c2 (c2 (c2 (c2 (c2 (c2 Zae.B))))))] [(1, .pointer (some (pt b1 0))), (3, .string j11)] [(b1, Zah.enc a0)] (Zae.K4 a0 j11) (rt Zae.out) := by
 unfold Zae.K4
 exact seq <| J.D [0, 1, 2, 4, 5, 3, 6, 7, 8, 9] ZcY <| J.k 2 0 rfl Ty33 (Zb6 _) <| J.k 1 0 rfl Ty33 (Zb9 _) <| OJ.call (d := 48) (g := 53) (ats := #[9, 33]) (args := [.const (.string Zqs), .tmp 47]) (owed := [⟨5, 33, (pt b1 9), ZaM.val a0.To⟩]) F53 (Zj4 Zqs a0.From) fun r12 => OW.known (j := 0) (q := a0.To) Ty33 rfl (Zb9 a0) <| OW.nil <| J.C 0 F53 (Zj4 _ _) fun r13 => J.T 0 <| J.T 0 <| J.z 1 <| sr 1 <| J.z 1 <| seq <| sr 3 <| J.l 0 Ty22 fun x14 => J.z 2 <| block (id := 0) <| J.L (Zae.L1_ok a0 b1 j11 r12 r13 x14)
noncomputable def Zae.K5 (a0 : Zaf) (j9 : ByteArray) : M ByteArray :=
 if a0.Vid > 0 then
  ZbR a0.Vid >>= fun r58 =>
  chk (((Zs6.size + r58.size : Nat) : Int) ≤ 9223372036854775807) >>= fun _ =>
  chk (((j9.size + (Zs6 ++ r58).size : Nat) : Int) ≤ 9223372036854775807) >>= fun _ =>
  Zae.K4 a0 (j9 ++ (Zs6 ++ r58))
 else
  Zae.K4 a0 j9
theorem Zae.K5_ok (a0 : Zaf) (b1 : Nat) (j9 : ByteArray) :
  SJ Zae.cx [.code (c2 (c2 (c2 (c2 (c2 Zae.B)))))] [(1, .pointer (some (pt b1 0))), (3, .string j9)] [(b1, Zah.enc a0)] (Zae.K5 a0 j9) (rt Zae.out) := by
 unfold Zae.K5
 refine seq <| sr 3 <| J.k 1 0 rfl Ty3 (ZdJ _) <| J.z 1 <| J.f ?_ ?_
 ·exact SJ.rg 7 <| J.k 2 0 rfl Ty3 (ZdJ _) <| J.C 0 F51 (ZcI _) fun r58 => J.T 0 <| J.T 0 <| J.z 1 <| J.q <| Zae.K4_ok a0 b1 (j9 ++ (Zs6 ++ r58))
 exact SJ.skip <| J.q <| Zae.K4_ok a0 b1 j9
noncomputable def Zae.K6 (a0 : Zaf) (j6 : ByteArray) : M ByteArray :=
 Zb2 a0 >>= fun r7 =>
 chk (((j6.size + r7.size : Nat) : Int) ≤ 9223372036854775807) >>= fun _ =>
 if a0.In > 0 then
  ZbR (wrap .i64 (a0.In - 1)) >>= fun r60 =>
  chk (((Zs7.size + r60.size : Nat) : Int) ≤ 9223372036854775807) >>= fun _ =>
  chk ((((j6 ++ r7).size + (Zs7 ++ r60).size : Nat) : Int) ≤ 9223372036854775807) >>= fun _ =>
  Zae.K5 a0 ((j6 ++ r7) ++ (Zs7 ++ r60))
 else
  Zae.K5 a0 (j6 ++ r7)
theorem Zae.K6_ok (a0 : Zaf) (b1 : Nat) (j6 : ByteArray) :
  SJ Zae.cx [.code (c2 (c2 (c2 Zae.B)))] [(1, .pointer (some (pt b1 0))), (3, .string j6)] [(b1, Zah.enc a0)] (Zae.K6 a0 j6) (rt Zae.out) := by
 unfold Zae.K6
 refine sr 5 <| J.k 1 0 rfl Ty35 (At.whole _) <| J.C 0 F52 (Zow _) fun r7 => J.T 0 <| J.z 1 <| seq <| sr 3 <| J.k 1 0 rfl Ty3 (Zd6 _) <| J.z 1 <| J.f ?_ ?_
 ·exact SJ.rg 8 <| J.k 2 0 rfl Ty3 (Zd6 _) <| J.C 1 F51 (ZcI _) fun r60 => J.T 0 <| J.T 0 <| J.z 1 <| J.q <| Zae.K5_ok a0 b1 ((j6 ++ r7) ++ (Zs7 ++ r60))
 exact SJ.skip <| J.q <| Zae.K5_ok a0 b1 (j6 ++ r7)
noncomputable def Zae (a0 : Zaf) : M ByteArray :=
 slot 35 >>= fun b1 =>
 ld cL ⟨0, 0, none⟩ >>= fun x2 =>
 idx x2.a x2.len (wrap .i64 (a0.Act - 1)) 1 >>= fun p3 =>
 ld cS p3 >>= fun x4 =>
 if a0.Class > 0 then
  ZbR a0.Class >>= fun r62 =>
  chk (((Zs8.size + r62.size : Nat) : Int) ≤ 9223372036854775807) >>= fun _ =>
  chk (((x4.size + (Zs8 ++ r62).size : Nat) : Int) ≤ 9223372036854775807) >>= fun _ =>
  Zae.K6 a0 (x4 ++ (Zs8 ++ r62))
 else
  Zae.K6 a0 x4
theorem Zjj (a0 : Zaf) : Ref Tryz.prog 28 [Zah.val a0] (Zae a0) Zae.out := by
 refine J.Fn Tryz.func28 ?_
 unfold Zae
 refine sr 2 <| J.b 0 Zah a0 fun b1 => J.z 1 <| sr 7 <| J.l 0 Ty22 fun x2 => J.k 1 0 rfl Ty3 (ZcE _) <| J.i 1 fun p3 => J.l 0 Ty9 fun x4 => J.z 1 <| seq <| sr 3 <| J.k 1 0 rfl Ty3 (Zdc _) <| J.z 1 <| J.f ?_ ?_
 ·exact SJ.rg 7 <| J.k 2 0 rfl Ty3 (Zdc _) <| J.C 0 F51 (ZcI _) fun r62 => J.T 0 <| J.T 0 <| J.z 1 <| J.q <| Zae.K6_ok a0 b1 (x4 ++ (Zs8 ++ r62))
 exact SJ.skip <| J.q <| Zae.K6_ok a0 b1 x4

noncomputable def Zdj.out (r_ : (ByteArray × Int)) : Value := .tuple #[.string r_.1, .int .i64 r_.2]
noncomputable def Zdj (a0 : Zaf) : M (ByteArray × Int) :=
 slot 35 >>= fun b1 =>
 Za4 a0 >>= fun r2 =>
 if r2 ≠ 0 then
  pure (ByteArray.empty, r2)
 else
  Zae a0 >>= fun r3 =>
  pure (r3, 0)
theorem Zj7 (a0 : Zaf) : Ref Tryz.prog 25 [Zah.val a0] (Zdj a0) Zdj.out := by
 refine J.Fn Tryz.func25 ?_
 unfold Zdj
 refine sr 3 <| J.b 0 Zah a0 fun b1 => J.z 2 <| seq <| sr 3 <| J.k 0 0 rfl Ty35 (At.whole _) <| J.C 0 F23 (ZgZ _) fun r2 => J.z 1 <| sr 2 <| J.z 2 <| J.f ?_ ?_
 ·exact sr 3 <| J.z 3 <| J.r
 exact SJ.skip <| sr 4 <| J.k 0 0 rfl Ty35 (At.whole _) <| J.C 0 F28 (Zjj _) fun r3 => J.z 2 <| J.r

noncomputable def Zak.B : Code := bod Tryz.f49
noncomputable def Zak.cx : Fx := ⟨Tryz.prog, 49, Tryz.f49, none⟩
noncomputable def Zak.out (r_ : Bool) : Value := .bool r_
noncomputable def Zak.F1 (a0 : Zar) (a1 : Zar) (b1 : Nat) (b2 : Nat) : LF Int Bool := ⟨[.inBlock 2, .code (c2 (c2 (c2 (c2 Zak.B))))], c1 (c2 (c1 (c2 (c2 (c2 Zak.B))))), fun s_ => [(2, .pointer (some (pt b1 0))), (3, .pointer (some (pt b2 0))), (6, .int .i64 s_)], fun s_ => [(b2, ZaM.enc a1), (b1, ZaM.enc a0)], (rt Zak.out)⟩
noncomputable def Zak.L1 (a0 : Zar) (a1 : Zar) (s12 : Int) : M (LS Int Bool) :=
 if s12 < (a0.Ports.len : Int) then
  draw >>= fun _ =>
  idx a0.Ports.a a0.Ports.len s12 2 >>= fun p19 =>
  ld Zbd p19 >>= fun x20 =>
  idx a1.Ports.a a1.Ports.len s12 2 >>= fun p21 =>
  ld Zbd p21 >>= fun x22 =>
  if ¬ (x20 = x22) then
   pure (LS.done false)
  else
   pure (LS.next (wrap .i64 (s12 + 1)))
 else
  pure (LS.done true)
theorem Zak.L1_ok (a0 : Zar) (a1 : Zar) (b1 : Nat) (b2 : Nat) : LJ Zak.cx (Zak.F1 a0 a1 b1 b2) (fun s_ => Zak.L1 a0 a1 s_) := by
 rintro s12
 show SJ _ _ _ _ (Zak.L1 a0 a1 s12) _
 unfold Zak.L1
 refine seq <| sr 5 <| J.k 2 1 rfl Ty31 (Za7 _) <| J.z 2 <| J.f ?_ ?_
 ·refine SJ.skip <| seq <| block (id := 3) <| seq <| J.R 11 ZcY <| J.k 1 1 rfl Ty31 (Za7 _) <| J.i 1 fun p19 => J.l 0 Zgj fun x20 => J.k 1 0 rfl Ty31 (Za7 _) <| J.i 1 fun p21 => J.l 0 Zgj fun x22 => OJ.neq (d := 65) (T := 131) (yT := 131) (y := .tmp 59) (z := .tmp 64) (cd := Zbd) (p := x20) (q := x22) rfl Zyc <| J.z 0 <| J.f ?_ ?_
  ·exact sr 1 <| J.z 1 <| J.r
  exact SJ.skip <| inBlock <| SJ.rg 3 <| J.z 3 <| J.o rfl
 exact exit (id := 2) (by rfl) <| sr 1 <| J.z 1 <| J.r
noncomputable def Zak.K1 (a0 : Zar) (a1 : Zar) : M Bool :=
 Zcn (fun s_ : Int => Zak.L1 a0 a1 s_) 0
theorem Zak.K1_ok (a0 : Zar) (a1 : Zar) (b1 : Nat) (b2 : Nat) :
  SJ Zak.cx [.code (c2 (c2 (c2 Zak.B)))] [(2, .pointer (some (pt b1 0))), (3, .pointer (some (pt b2 0)))] [(b2, ZaM.enc a1), (b1, ZaM.enc a0)] (Zak.K1 a0 a1) (rt Zak.out) := by
 unfold Zak.K1
 exact seq <| sr 1 <| J.z 1 <| block (id := 2) <| J.L (Zak.L1_ok a0 a1 b1 b2)
noncomputable def Zak.F2 (a0 : Zar) (a1 : Zar) (b1 : Nat) (b2 : Nat) : LF Int Bool := ⟨[.inBlock 0, .code (c2 (c2 (c2 Zak.B)))], c1 (c2 (c1 (c2 (c2 Zak.B)))), fun s_ => [(2, .pointer (some (pt b1 0))), (3, .pointer (some (pt b2 0))), (5, .int .i64 s_)], fun s_ => [(b2, ZaM.enc a1), (b1, ZaM.enc a0)], (rt Zak.out)⟩
noncomputable def Zak.L2 (a0 : Zar) (a1 : Zar) (s5 : Int) : M (LS Int Bool) :=
 if s5 < (a0.Nets.len : Int) then
  draw >>= fun _ =>
  idx a0.Nets.a a0.Nets.len s5 18 >>= fun p25 =>
  ld ZaI p25 >>= fun x26 =>
  idx a1.Nets.a a1.Nets.len s5 18 >>= fun p27 =>
  ld ZaI p27 >>= fun x28 =>
  if ¬ (x26 = x28) then
   pure (LS.done false)
  else
   pure (LS.next (wrap .i64 (s5 + 1)))
 else
  (Zak.K1 a0 a1) >>= fun b => pure (LS.done b)
theorem Zak.L2_ok (a0 : Zar) (a1 : Zar) (b1 : Nat) (b2 : Nat) : LJ Zak.cx (Zak.F2 a0 a1 b1 b2) (fun s_ => Zak.L2 a0 a1 s_) := by
 rintro s5
 show SJ _ _ _ _ (Zak.L2 a0 a1 s5) _
 unfold Zak.L2
 refine seq <| sr 5 <| J.k 2 1 rfl Ty30 (ZaF _) <| J.z 2 <| J.f ?_ ?_
 ·refine SJ.skip <| seq <| block (id := 1) <| seq <| J.R 11 ZcY <| J.k 1 1 rfl Ty30 (ZaF _) <| J.i 1 fun p25 => J.l 0 Zc5 fun x26 => J.k 1 0 rfl Ty30 (ZaF _) <| J.i 1 fun p27 => J.l 0 Zc5 fun x28 => OJ.neq (d := 47) (T := 129) (yT := 129) (y := .tmp 41) (z := .tmp 46) (cd := ZaI) (p := x26) (q := x28) rfl Zyd <| J.z 0 <| J.f ?_ ?_
  ·exact sr 1 <| J.z 1 <| J.r
  exact SJ.skip <| inBlock <| SJ.rg 3 <| J.z 3 <| J.o rfl
 exact exit (id := 0) (by rfl) <| J.q <| SJ.done <| Zak.K1_ok a0 a1 b1 b2
noncomputable def Zak (a0 : Zar) (a1 : Zar) : M Bool :=
 slot 33 >>= fun b1 =>
 slot 33 >>= fun b2 =>
 (if ¬ (a0.Not = a1.Not) then
   pure true
  else
   pure ((a0.Nets.len : Int) != (a1.Nets.len : Int))) >>= fun y3 =>
 (if y3 = true then
   pure true
  else
   pure ((a0.Ports.len : Int) != (a1.Ports.len : Int))) >>= fun y4 =>
 if y4 = true then
  pure false
 else
  Zcn (fun s_ : Int => Zak.L2 a0 a1 s_) 0
theorem ZfY (a0 : Zar) (a1 : Zar) : Ref Tryz.prog 49 [ZaM.val a0, ZaM.val a1] (Zak a0 a1) Zak.out := by
 refine J.Fn Tryz.func49 ?_
 unfold Zak
 refine sr 3 <| J.b 0 ZaM a0 fun b1 => J.b 0 ZaM a1 fun b2 => J.z 1 <| seq <| sr 23 <| J.k 1 1 rfl Ty4 (ZaS _) <| J.k 1 0 rfl Ty4 (ZaS _) <| J.j 2 7 .bool ?_ ?_ fun y3 => ?_
 ·exact J.e 8
 ·exact J.k 1 1 rfl Ty30 (ZaF _) <| J.k 2 0 rfl Ty30 (ZaF _) <| J.e 3
 refine J.j 1 7 .bool ?_ ?_ fun y4 => ?_
 ·exact J.e 8
 ·exact J.k 1 1 rfl Ty31 (Za7 _) <| J.k 2 0 rfl Ty31 (Za7 _) <| J.e 3
 refine J.z 0 <| J.f ?_ ?_
 ·exact sr 1 <| J.z 1 <| J.r
 exact SJ.skip <| seq <| sr 1 <| J.z 1 <| block (id := 0) <| J.L (Zak.L2_ok a0 a1 b1 b2)

noncomputable def Zdw.out (r_ : Bool) : Value := .bool r_
noncomputable def Zdw (a0 : Zaf) (a1 : Zaf) : M Bool :=
 slot 35 >>= fun b1 =>
 slot 35 >>= fun b2 =>
 (if a0.Act ≠ a1.Act then
   pure true
  else
   pure (a0.Class != a1.Class)) >>= fun y3 =>
 (if y3 = true then
   pure true
  else
   pure (a0.Kind != a1.Kind)) >>= fun y4 =>
 (if y4 = true then
   pure true
  else
   pure (a0.Proto != a1.Proto)) >>= fun y5 =>
 (if y5 = true then
   pure true
  else
   pure (a0.In != a1.In)) >>= fun y6 =>
 (if y6 = true then
   pure true
  else
   pure (a0.Vid != a1.Vid)) >>= fun y7 =>
 if y7 = true then
  pure false
 else
  (if a0.Set ≠ a1.Set then
    pure true
   else
    pure (a0.Clear != a1.Clear)) >>= fun y8 =>
  (if y8 = true then
    pure true
   else
    pure (a0.Type_ != a1.Type_)) >>= fun y9 =>
  (if y9 = true then
    pure true
   else
    pure (!(a0.Pieces == a1.Pieces))) >>= fun y10 =>
  if y10 = true then
   pure false
  else
   Zak a0.From a1.From >>= fun r11 =>
   (if r11 = true then
     Zak a0.To a1.To >>= fun r12 =>
     pure r12
    else
     pure false) >>= fun y13 =>
   pure y13
theorem Zg8 (a0 : Zaf) (a1 : Zaf) : Ref Tryz.prog 26 [Zah.val a0, Zah.val a1] (Zdw a0 a1) Zdw.out := by
 refine J.Fn Tryz.func26 ?_
 unfold Zdw
 refine sr 3 <| J.b 0 Zah a0 fun b1 => J.b 0 Zah a1 fun b2 => J.z 1 <| seq <| sr 40 <| J.k 1 1 rfl Ty3 (ZcE _) <| J.k 1 0 rfl Ty3 (ZcE _) <| J.j 2 5 .bool ?_ ?_ fun y3 => ?_
 ·exact J.e 6
 ·exact J.k 1 1 rfl Ty3 (Zdc _) <| J.k 1 0 rfl Ty3 (Zdc _) <| J.e 2
 refine J.j 1 5 .bool ?_ ?_ fun y4 => ?_
 ·exact J.e 6
 ·exact J.k 1 1 rfl Ty3 (ZbY _) <| J.k 1 0 rfl Ty3 (ZbY _) <| J.e 2
 refine J.j 1 5 .bool ?_ ?_ fun y5 => ?_
 ·exact J.e 6
 ·exact J.k 1 1 rfl Ty3 (ZbD _) <| J.k 1 0 rfl Ty3 (ZbD _) <| J.e 2
 refine J.j 1 5 .bool ?_ ?_ fun y6 => ?_
 ·exact J.e 6
 ·exact J.k 1 1 rfl Ty3 (Zd6 _) <| J.k 1 0 rfl Ty3 (Zd6 _) <| J.e 2
 refine J.j 1 5 .bool ?_ ?_ fun y7 => ?_
 ·exact J.e 6
 ·exact J.k 1 1 rfl Ty3 (ZdJ _) <| J.k 1 0 rfl Ty3 (ZdJ _) <| J.e 2
 refine J.z 0 <| J.f ?_ ?_
 ·exact sr 1 <| J.z 1 <| J.r
 refine SJ.skip <| seq <| sr 26 <| J.k 1 1 rfl Ty3 (ZcD _) <| J.k 1 0 rfl Ty3 (ZcD _) <| J.j 2 5 .bool ?_ ?_ fun y8 => ?_
 ·exact J.e 6
 ·exact J.k 1 1 rfl Ty3 (Zca _) <| J.k 1 0 rfl Ty3 (Zca _) <| J.e 2
 refine J.j 1 5 .bool ?_ ?_ fun y9 => ?_
 ·exact J.e 6
 ·exact J.k 1 1 rfl Ty3 (ZcP _) <| J.k 1 0 rfl Ty3 (ZcP _) <| J.e 2
 refine J.j 1 5 .bool ?_ ?_ fun y10 => ?_
 ·exact J.e 6
 ·exact J.k 1 1 rfl Ty4 (Zd1 _) <| J.k 1 0 rfl Ty4 (Zd1 _) <| J.e 2
 refine J.z 0 <| J.f ?_ ?_
 ·exact sr 1 <| J.z 1 <| J.r
 refine SJ.skip <| sr 13 <| J.k 1 1 rfl Ty33 (Zb6 _) <| J.k 1 0 rfl Ty33 (Zb6 _) <| J.C 0 F49 (ZfY _ _) fun r11 => J.j 1 5 .bool ?_ ?_ fun y13 => ?_
 ·exact J.k 1 1 rfl Ty33 (Zb9 _) <| J.k 1 0 rfl Ty33 (Zb9 _) <| J.C 0 F49 (ZfY _ _) fun r12 => J.e 1
 ·exact J.e 6
 exact J.z 1 <| J.r

noncomputable def Zco.out (r_ : Bool) : Value := .bool r_
noncomputable def Zco  : M Bool :=
 Zdd >>= fun r1 =>
 slot 35 >>= fun b2 =>
 Zal r1.1 >>= fun r3 =>
 slot 35 >>= fun b4 =>
 Zdj r1.2 >>= fun r5 =>
 Zb3 r3.2.1 >>= fun r6 =>
 (if r6 = 0 then
   pure (r3.2.2 == 0)
  else
   pure false) >>= fun y7 =>
 (if y7 = true then
   Zdw r3.1 r1.2 >>= fun r8 =>
   pure r8
  else
   pure false) >>= fun y9 =>
 (if y9 = true then
   Zb3 r5.2 >>= fun r10 =>
   pure (r10 == 0)
  else
   pure false) >>= fun y11 =>
 (if y11 = true then
   pure (r5.1.toList == r1.1.toList)
  else
   pure false) >>= fun y12 =>
 (if y12 = true then
   Za4 r1.2 >>= fun r13 =>
   Zb3 r13 >>= fun r14 =>
   pure (r14 == 0)
  else
   pure false) >>= fun y15 =>
 pure y15
theorem Zf7  : Ref Tryz.prog 8 [] (Zco) Zco.out := by
 refine J.Fn Tryz.func8 ?_
 unfold Zco
 refine sr 1 <| J.z 1 <| sr 7 <| J.C 0 F24 ZkD fun r1 => J.a 3 Ty35 fun b2 => J.s 1 0 rfl Ty35 (Upd.w r1.2) <| J.z 0 <| sr 10 <| J.C 1 F6 (Zfu _) fun r3 => J.a 4 Ty35 fun b4 => J.s 0 0 rfl Ty35 (Upd.w r3.1) <| J.z 2 <| sr 7 <| J.k 0 1 rfl Ty35 (At.whole _) <| J.C 0 F25 (Zj7 _) fun r5 => J.z 5 <| sr 29 <| J.C 1 F5 (ZcH _) fun r6 => J.j 2 2 .bool ?_ ?_ fun y7 => ?_
 ·exact J.e 3
 ·exact J.e 3
 refine J.j 1 3 .bool ?_ ?_ fun y9 => ?_
 ·exact J.k 0 0 rfl Ty35 (At.whole _) <| J.k 0 1 rfl Ty35 (At.whole _) <| J.C 0 F26 (Zg8 _ _) fun r8 => J.e 1
 ·exact J.e 4
 refine J.j 1 3 .bool ?_ ?_ fun y11 => ?_
 ·exact J.C 1 F5 (ZcH _) fun r10 => J.e 2
 ·exact J.e 4
 refine J.j 1 3 .bool ?_ ?_ fun y12 => ?_
 ·exact J.e 4
 ·exact J.e 4
 refine J.j 1 4 .bool ?_ ?_ fun y15 => ?_
 ·exact J.k 0 1 rfl Ty35 (At.whole _) <| J.C 0 F23 (ZgZ _) fun r13 => J.C 0 F5 (ZcH _) fun r14 => J.e 2
 ·exact J.e 5
 exact J.z 1 <| J.r

noncomputable def Zbc.B : Code := bod Tryz.f10
noncomputable def Zbc.cx : Fx := ⟨Tryz.prog, 10, Tryz.f10, none⟩
noncomputable def Zbc.out (r_ : Sl) : Value := Sl.v r_
noncomputable def Zbc.F1 (x2 : Sl) : LF (Sl × Int) Sl := ⟨[.inBlock 0, .code (c2 (c2 (c2 Zbc.B)))], c1 (c2 (c1 (c2 (c2 Zbc.B)))), fun s_ => [(3, Sl.v s_.1), (9, Sl.v x2), (10, .int .i64 (x2.len : Int)), (11, .int .i64 s_.2)], fun s_ => [], (rt Zbc.out)⟩
noncomputable def Zbc.L1 (x2 : Sl) (s3 : Sl) (s4 : Int) : M (LS (Sl × Int) Sl) :=
 if s4 < (x2.len : Int) then
  idx x2.a x2.len s4 16 >>= fun p12 =>
  ld Zah p12 >>= fun x13 =>
  slot 35 >>= fun b14 =>
  Zeq x13 >>= fun r15 =>
  slot 35 >>= fun b16 =>
  appl Zah 35 192 ZaL s3 [r15] >>= fun r17 =>
  pure (LS.next (r17, wrap .i64 (s4 + 1)))
 else
  pure (LS.done s3)
theorem Zbc.L1_ok (x2 : Sl) : LJ Zbc.cx (Zbc.F1 x2) (fun s_ => Zbc.L1 x2 s_.1 s_.2) := by
 rintro ⟨s3, s4⟩
 show SJ _ _ _ _ (Zbc.L1 x2 s3 s4) _
 unfold Zbc.L1
 refine sr 1 <| J.z 1 <| seq <| J.f ?_ ?_
 ·exact SJ.skip <| seq <| block (id := 1) <| sr 4 <| J.i 0 fun p12 => J.l 0 Ty35 fun x13 => J.a 0 Ty35 fun b14 => J.s 0 0 rfl Ty35 (Upd.w x13) <| J.z 0 <| SJ.rg 6 <| J.k 1 0 rfl Ty35 (At.whole _) <| J.C 0 F27 (Zjl _) fun r15 => J.S 0 [r15] Ty35 fun b16 => J.p 0 0 rfl Ty35 fun r17 => J.z 1 <| inBlock <| SJ.rg 2 <| J.z 2 <| forget (List.Sublist.cons _ (List.Sublist.cons _ List.Sublist.slnil)) <| J.o rfl
 exact exit (id := 0) (by rfl) <| sr 2 <| J.z 2 <| J.r
noncomputable def Zbc (a0 : (Option Addr)) : M Sl :=
 nilck a0 >>= fun p1 =>
 ld cL p1 >>= fun x2 =>
 Zcn (fun s_ : (Sl × Int) => Zbc.L1 x2 s_.1 s_.2) (Sl.nil, 0)
theorem Zj6 (a0 : (Option Addr)) : Ref Tryz.prog 10 [.pointer a0] (Zbc a0) Zbc.out := by
 refine J.Fn Tryz.func10 ?_
 unfold Zbc
 exact sr 1 <| J.z 1 <| sr 1 <| J.z 1 <| seq <| sr 6 <| J.n 1 fun p1 => J.l 1 Ty28 fun x2 => J.z 2 <| block (id := 0) <| J.L (Zbc.L1_ok x2)

noncomputable def Za2.B : Code := bod Tryz.f9
noncomputable def Za2.cx : Fx := ⟨Tryz.prog, 9, Tryz.f9, none⟩
noncomputable def Za2.out (r_ : Bool) : Value := .bool r_
noncomputable def Za2.F1 (a0 : Sl) (a1 : Sl) : LF Int Bool := ⟨[.inBlock 0, .code (c2 (c2 (c2 Za2.B)))], c1 (c2 (c1 (c2 (c2 Za2.B)))), fun s_ => [(0, Sl.v a0), (1, Sl.v a1), (5, .int .i64 s_)], fun s_ => [], (rt Za2.out)⟩
noncomputable def Za2.L1 (a0 : Sl) (a1 : Sl) (s1 : Int) : M (LS Int Bool) :=
 if s1 < (a0.len : Int) then
  draw >>= fun _ =>
  idx a0.a a0.len s1 16 >>= fun p9 =>
  ld Zah p9 >>= fun x10 =>
  idx a1.a a1.len s1 16 >>= fun p11 =>
  ld Zah p11 >>= fun x12 =>
  Zdw x10 x12 >>= fun r13 =>
  if ¬ (r13 = true) then
   pure (LS.done false)
  else
   pure (LS.next (wrap .i64 (s1 + 1)))
 else
  pure (LS.done true)
theorem Za2.L1_ok (a0 : Sl) (a1 : Sl) : LJ Za2.cx (Za2.F1 a0 a1) (fun s_ => Za2.L1 a0 a1 s_) := by
 rintro s1
 show SJ _ _ _ _ (Za2.L1 a0 a1 s1) _
 unfold Za2.L1
 refine seq <| sr 4 <| J.z 4 <| J.f ?_ ?_
 ·refine SJ.skip <| seq <| block (id := 1) <| seq <| J.R 10 ZcY <| J.i 2 fun p9 => J.l 0 Ty35 fun x10 => J.i 2 fun p11 => J.l 0 Ty35 fun x12 => J.C 0 F26 (Zg8 _ _) fun r13 => J.z 1 <| sr 2 <| J.z 2 <| J.f ?_ ?_
  ·exact sr 1 <| J.z 1 <| J.r
  exact SJ.skip <| inBlock <| SJ.rg 3 <| J.z 3 <| J.o rfl
 exact exit (id := 0) (by rfl) <| sr 1 <| J.z 1 <| J.r
noncomputable def Za2 (a0 : Sl) (a1 : Sl) : M Bool :=
 if (a0.len : Int) ≠ (a1.len : Int) then
  pure false
 else
  Zcn (fun s_ : Int => Za2.L1 a0 a1 s_) 0
theorem Zi1 (a0 : Sl) (a1 : Sl) : Ref Tryz.prog 9 [Sl.v a0, Sl.v a1] (Za2 a0 a1) Za2.out := by
 refine J.Fn Tryz.func9 ?_
 unfold Za2
 refine sr 1 <| J.z 1 <| seq <| sr 5 <| J.z 5 <| J.f ?_ ?_
 ·exact sr 1 <| J.z 1 <| J.r
 exact SJ.skip <| seq <| sr 1 <| J.z 1 <| block (id := 0) <| J.L (Za2.L1_ok a0 a1)

noncomputable def Za9.B : Code := bod Tryz.f12
noncomputable def Za9.cx : Fx := ⟨Tryz.prog, 12, Tryz.f12, none⟩
noncomputable def Za9.out (r_ : Sl) : Value := Sl.v r_
noncomputable def Za9.F1 (x2 : Sl) : LF (Sl × Int) Sl := ⟨[.inBlock 0, .code (c2 (c2 (c2 Za9.B)))], c1 (c2 (c1 (c2 (c2 Za9.B)))), fun s_ => [(3, Sl.v s_.1), (9, Sl.v x2), (10, .int .i64 (x2.len : Int)), (11, .int .i64 s_.2)], fun s_ => [], (rt Za9.out)⟩
noncomputable def Za9.L1 (x2 : Sl) (s3 : Sl) (s4 : Int) : M (LS (Sl × Int) Sl) :=
 if s4 < (x2.len : Int) then
  idx x2.a x2.len s4 16 >>= fun p12 =>
  ld Zah p12 >>= fun x13 =>
  slot 35 >>= fun b14 =>
  Zae x13 >>= fun r15 =>
  slot 9 >>= fun b16 =>
  appl cS 9 16 ByteArray.empty s3 [r15] >>= fun r17 =>
  pure (LS.next (r17, wrap .i64 (s4 + 1)))
 else
  pure (LS.done s3)
theorem Za9.L1_ok (x2 : Sl) : LJ Za9.cx (Za9.F1 x2) (fun s_ => Za9.L1 x2 s_.1 s_.2) := by
 rintro ⟨s3, s4⟩
 show SJ _ _ _ _ (Za9.L1 x2 s3 s4) _
 unfold Za9.L1
 refine sr 1 <| J.z 1 <| seq <| J.f ?_ ?_
 ·exact SJ.skip <| seq <| block (id := 1) <| sr 4 <| J.i 0 fun p12 => J.l 0 Ty35 fun x13 => J.a 0 Ty35 fun b14 => J.s 0 0 rfl Ty35 (Upd.w x13) <| J.z 0 <| SJ.rg 6 <| J.k 1 0 rfl Ty35 (At.whole _) <| J.C 0 F28 (Zjj _) fun r15 => J.S 0 [r15] Ty9 fun b16 => J.p 0 0 rfl Ty9 fun r17 => J.z 1 <| inBlock <| SJ.rg 2 <| J.z 2 <| forget (List.Sublist.cons _ (List.Sublist.cons _ List.Sublist.slnil)) <| J.o rfl
 exact exit (id := 0) (by rfl) <| sr 2 <| J.z 2 <| J.r
noncomputable def Za9 (a0 : (Option Addr)) : M Sl :=
 nilck a0 >>= fun p1 =>
 ld cL p1 >>= fun x2 =>
 Zcn (fun s_ : (Sl × Int) => Za9.L1 x2 s_.1 s_.2) (Sl.nil, 0)
theorem ZgM (a0 : (Option Addr)) : Ref Tryz.prog 12 [.pointer a0] (Za9 a0) Za9.out := by
 refine J.Fn Tryz.func12 ?_
 unfold Za9
 exact sr 1 <| J.z 1 <| sr 1 <| J.z 1 <| seq <| sr 6 <| J.n 1 fun p1 => J.l 1 Ty28 fun x2 => J.z 2 <| block (id := 0) <| J.L (Za9.L1_ok x2)

noncomputable def ZaW.B : Code := bod Tryz.f11
noncomputable def ZaW.cx : Fx := ⟨Tryz.prog, 11, Tryz.f11, none⟩
noncomputable def ZaW.out (r_ : Bool) : Value := .bool r_
noncomputable def ZaW.F1 (a0 : Sl) (a1 : Sl) : LF Int Bool := ⟨[.inBlock 0, .code (c2 (c2 (c2 ZaW.B)))], c1 (c2 (c1 (c2 (c2 ZaW.B)))), fun s_ => [(0, Sl.v a0), (1, Sl.v a1), (5, .int .i64 s_)], fun s_ => [], (rt ZaW.out)⟩
noncomputable def ZaW.L1 (a0 : Sl) (a1 : Sl) (s1 : Int) : M (LS Int Bool) :=
 if s1 < (a0.len : Int) then
  draw >>= fun _ =>
  idx a0.a a0.len s1 1 >>= fun p8 =>
  ld cS p8 >>= fun x9 =>
  idx a1.a a1.len s1 1 >>= fun p10 =>
  ld cS p10 >>= fun x11 =>
  if ¬ (x9.toList = x11.toList) then
   pure (LS.done false)
  else
   pure (LS.next (wrap .i64 (s1 + 1)))
 else
  pure (LS.done true)
theorem ZaW.L1_ok (a0 : Sl) (a1 : Sl) : LJ ZaW.cx (ZaW.F1 a0 a1) (fun s_ => ZaW.L1 a0 a1 s_) := by
 rintro s1
 show SJ _ _ _ _ (ZaW.L1 a0 a1 s1) _
 unfold ZaW.L1
 refine seq <| sr 4 <| J.z 4 <| J.f ?_ ?_
 ·refine SJ.skip <| seq <| block (id := 1) <| seq <| J.R 9 ZcY <| J.i 2 fun p8 => J.l 0 Ty9 fun x9 => J.i 2 fun p10 => J.l 0 Ty9 fun x11 => J.z 1 <| J.f ?_ ?_
  ·exact sr 1 <| J.z 1 <| J.r
  exact SJ.skip <| inBlock <| SJ.rg 3 <| J.z 3 <| J.o rfl
 exact exit (id := 0) (by rfl) <| sr 1 <| J.z 1 <| J.r
noncomputable def ZaW (a0 : Sl) (a1 : Sl) : M Bool :=
 if (a0.len : Int) ≠ (a1.len : Int) then
  pure false
 else
  Zcn (fun s_ : Int => ZaW.L1 a0 a1 s_) 0
theorem Zh9 (a0 : Sl) (a1 : Sl) : Ref Tryz.prog 11 [Sl.v a0, Sl.v a1] (ZaW a0 a1) ZaW.out := by
 refine J.Fn Tryz.func11 ?_
 unfold ZaW
 refine sr 1 <| J.z 1 <| seq <| sr 5 <| J.z 5 <| J.f ?_ ?_
 ·exact sr 1 <| J.z 1 <| J.r
 exact SJ.skip <| seq <| sr 1 <| J.z 1 <| block (id := 0) <| J.L (ZaW.L1_ok a0 a1)

noncomputable def ZcS.out (r_ : Sl) : Value := Sl.v r_
noncomputable def ZcS (a0 : Sl) : M Sl :=
 appS (cI .u8) 5 1 0 Sl.nil a0 >>= fun r1 =>
 pure r1
theorem Zfq (a0 : Sl) : Ref Tryz.prog 55 [Sl.v a0] (ZcS a0) ZcS.out := by
 refine J.Fn Tryz.func55 ?_
 unfold ZcS
 exact sr 1 <| J.z 1 <| sr 1 <| J.z 1 <| sr 4 <| J.g 2 <| OJ.appS (d := 6) (t := 54) (u := 54) (so := .tmp 4) (xo := .tmp 5) (owed := []) Ty5 fun r1 => OW.nil <| J.z 1 <| J.r

noncomputable def ZaU.B : Code := bod Tryz.f29
noncomputable def ZaU.cx : Fx := ⟨Tryz.prog, 29, Tryz.f29, none⟩
noncomputable def ZaU.out (r_ : Sl) : Value := Sl.v r_
noncomputable def ZaU.F1 (a0 : Sl) : LF (Sl × Int) Sl := ⟨[.inBlock 0, .code (c2 (c2 (c2 ZaU.B)))], c1 (c2 (c1 (c2 (c2 ZaU.B)))), fun s_ => [(0, Sl.v a0), (3, Sl.v s_.1), (4, .int .i64 s_.2)], fun s_ => [], (rt ZaU.out)⟩
noncomputable def ZaU.L1 (a0 : Sl) (s1 : Sl) (s2 : Int) : M (LS (Sl × Int) Sl) :=
 if s2 < (a0.len : Int) then
  draw >>= fun _ =>
  idx a0.a a0.len s2 2 >>= fun p11 =>
  ld (cI .i64) p11 >>= fun x12 =>
  idx a0.a a0.len s2 2 >>= fun p13 =>
  ld cL (Addr.add p13 1) >>= fun x14 =>
  ZcS x14 >>= fun r15 =>
  same (cI .i64) p11 x12 >>= fun _ =>
  slot 139 >>= fun b16 =>
  appl ZcC 139 32 ZlZ s1 [(⟨x12, r15⟩ : Zdv)] >>= fun r17 =>
  pure (LS.next (r17, wrap .i64 (s2 + 1)))
 else
  pure (LS.done s1)
theorem ZaU.L1_ok (a0 : Sl) : LJ ZaU.cx (ZaU.F1 a0) (fun s_ => ZaU.L1 a0 s_.1 s_.2) := by
 rintro ⟨s1, s2⟩
 show SJ _ _ _ _ (ZaU.L1 a0 s1 s2) _
 unfold ZaU.L1
 refine seq <| sr 4 <| J.z 4 <| J.f ?_ ?_
 ·exact SJ.skip <| seq <| block (id := 1) <| J.R 16 ZcY <| J.i 3 fun p11 => J.l 1 Ty3 fun x12 => J.i 2 fun p13 => J.l 1 Ty54 fun x14 => OJ.call (d := 22) (g := 55) (ats := #[54]) (args := [.tmp 21]) (owed := [⟨5, 3, p11, (cI .i64).val x12⟩]) F55 (Zfq x14) fun r15 => OW.same Ty3 <| OW.nil <| J.u 0 ZwK (.f 0 (Zm1 _ x12) (.f 1 (Zm2 _ r15) .nil)) <| J.S 0 [(⟨x12, r15⟩ : Zdv)] ZwK fun b16 => J.p 0 0 rfl ZwK fun r17 => J.z 1 <| inBlock <| SJ.rg 3 <| J.z 3 <| forget (List.Sublist.cons _ List.Sublist.slnil) <| J.o rfl
 exact exit (id := 0) (by rfl) <| sr 2 <| J.z 2 <| J.r
noncomputable def ZaU (a0 : Sl) : M Sl :=
 Zcn (fun s_ : (Sl × Int) => ZaU.L1 a0 s_.1 s_.2) (Sl.nil, 0)
theorem ZeL (a0 : Sl) : Ref Tryz.prog 29 [Sl.v a0] (ZaU a0) ZaU.out := by
 refine J.Fn Tryz.func29 ?_
 unfold ZaU
 exact sr 1 <| J.z 1 <| sr 1 <| J.z 1 <| seq <| sr 1 <| J.z 1 <| block (id := 0) <| J.L (ZaU.L1_ok a0)

noncomputable def ZcG.out (r_ : Sl) : Value := Sl.v r_
noncomputable def ZcG (a0 : Sl) : M Sl :=
 appS (cI .u8) 5 1 0 Sl.nil a0 >>= fun r1 =>
 pure r1
theorem Zen (a0 : Sl) : Ref Tryz.prog 30 [Sl.v a0] (ZcG a0) ZcG.out := by
 refine J.Fn Tryz.func30 ?_
 unfold ZcG
 exact sr 1 <| J.z 1 <| sr 1 <| J.z 1 <| sr 4 <| J.g 2 <| OJ.appS (d := 6) (t := 54) (u := 54) (so := .tmp 4) (xo := .tmp 5) (owed := []) Ty5 fun r1 => OW.nil <| J.z 1 <| J.r

noncomputable def Za1.B : Code := bod Tryz.f56
noncomputable def Za1.cx : Fx := ⟨Tryz.prog, 56, Tryz.f56, none⟩
noncomputable def Za1.out (r_ : Sl) : Value := Sl.v r_
noncomputable def Za1.F1 (a0 : Sl) : LF (Sl × Int) Sl := ⟨[.inBlock 0, .code (c2 (c2 (c2 Za1.B)))], c1 (c2 (c1 (c2 (c2 Za1.B)))), fun s_ => [(0, Sl.v a0), (3, Sl.v s_.1), (4, .int .i64 s_.2)], fun s_ => [], (rt Za1.out)⟩
noncomputable def Za1.L1 (a0 : Sl) (s1 : Sl) (s2 : Int) : M (LS (Sl × Int) Sl) :=
 if s2 < (a0.len : Int) then
  draw >>= fun _ =>
  idx a0.a a0.len s2 3 >>= fun p14 =>
  ld (cI .i64) p14 >>= fun x15 =>
  idx a0.a a0.len s2 3 >>= fun p16 =>
  ld cL (Addr.add p16 1) >>= fun x17 =>
  idx a0.a a0.len s2 3 >>= fun p18 =>
  ld cL (Addr.add p18 2) >>= fun x19 =>
  ZaU x17 >>= fun r20 =>
  same cL (Addr.add p18 2) x19 >>= fun _ =>
  same (cI .i64) p14 x15 >>= fun _ =>
  ZcS x19 >>= fun r21 =>
  same (cI .i64) p14 x15 >>= fun _ =>
  slot 181 >>= fun b22 =>
  appl Zcu 181 56 Zl1 s1 [(⟨x15, r20, r21⟩ : ZcR)] >>= fun r23 =>
  pure (LS.next (r23, wrap .i64 (s2 + 1)))
 else
  pure (LS.done s1)
theorem Za1.L1_ok (a0 : Sl) : LJ Za1.cx (Za1.F1 a0) (fun s_ => Za1.L1 a0 s_.1 s_.2) := by
 rintro ⟨s1, s2⟩
 show SJ _ _ _ _ (Za1.L1 a0 s1 s2) _
 unfold Za1.L1
 refine seq <| sr 4 <| J.z 4 <| J.f ?_ ?_
 ·exact SJ.skip <| seq <| block (id := 1) <| J.D [0, 1, 2, 3, 4, 5, 6, 7, 8, 9, 10, 12, 13, 14, 15, 16, 11, 17, 18, 19, 20, 21] ZcY <| J.i 3 fun p14 => J.l 1 Ty3 fun x15 => J.i 2 fun p16 => J.l 1 Ty53 fun x17 => J.i 2 fun p18 => J.l 1 Ty54 fun x19 => OJ.call (d := 22) (g := 29) (ats := #[53]) (args := [.tmp 21]) (owed := [⟨16, 54, (Addr.add p18 2), cL.val x19⟩, ⟨5, 3, p14, (cI .i64).val x15⟩]) F29 (ZeL x17) fun r20 => OW.same Ty54 <| OW.same Ty3 <| OW.nil <| OJ.call (d := 28) (g := 55) (ats := #[54]) (args := [.tmp 27]) (owed := [⟨5, 3, p14, (cI .i64).val x15⟩]) F55 (Zfq x19) fun r21 => OW.same Ty3 <| OW.nil <| J.u 0 ZwI (.f 0 (Zm8 _ x15) (.f 1 (Zm7 _ r20) (.f 2 (Zm9 _ r21) .nil))) <| J.S 0 [(⟨x15, r20, r21⟩ : ZcR)] ZwI fun b22 => J.p 0 0 rfl ZwI fun r23 => J.z 1 <| inBlock <| SJ.rg 3 <| J.z 3 <| forget (List.Sublist.cons _ List.Sublist.slnil) <| J.o rfl
 exact exit (id := 0) (by rfl) <| sr 2 <| J.z 2 <| J.r
noncomputable def Za1 (a0 : Sl) : M Sl :=
 Zcn (fun s_ : (Sl × Int) => Za1.L1 a0 s_.1 s_.2) (Sl.nil, 0)
theorem Zih (a0 : Sl) : Ref Tryz.prog 56 [Sl.v a0] (Za1 a0) Za1.out := by
 refine J.Fn Tryz.func56 ?_
 unfold Za1
 exact sr 1 <| J.z 1 <| sr 1 <| J.z 1 <| seq <| sr 1 <| J.z 1 <| block (id := 0) <| J.L (Za1.L1_ok a0)

noncomputable def ZeE.out (r_ : ZdO) : Value := Zc6.val r_
noncomputable def ZeE (a0 : ZdO) : M ZdO :=
 slot 61 >>= fun b1 =>
 slot 61 >>= fun b2 =>
 Za1 a0.Exts >>= fun r3 =>
 ZcS a0.Data >>= fun r4 =>
 pure (⟨a0.Class, a0.Flow, a0.Hop, a0.Src, a0.Dst, r3, a0.Frag, a0.Next, r4⟩ : ZdO)
theorem ZkC (a0 : ZdO) : Ref Tryz.prog 31 [Zc6.val a0] (ZeE a0) ZeE.out := by
 refine J.Fn Tryz.func31 ?_
 unfold ZeE
 exact sr 2 <| J.b 0 Zc6 a0 fun b1 => J.a 0 Ty61 fun b2 => J.z 0 <| sr 5 <| J.k 1 1 rfl Ty57 (Znk _) <| J.C 0 F56 (Zih _) fun r3 => J.s 1 1 rfl Ty57 (Zm3 _ r3) <| J.z 0 <| sr 5 <| J.k 1 1 rfl Ty54 (Znl _) <| J.C 0 F55 (Zfq _) fun r4 => J.s 1 1 rfl Ty54 (Zm4 _ r4) <| J.z 0 <| sr 2 <| J.k 0 1 rfl Ty61 (At.whole _) <| J.s 0 0 rfl Ty61 (Upd.w (⟨a0.Class, a0.Flow, a0.Hop, a0.Src, a0.Dst, r3, a0.Frag, a0.Next, r4⟩ : ZdO)) <| J.z 0 <| J.rc (.c 0 rfl Ty61 .n)

noncomputable def ZdC.out (r_ : Zat) : Value := Zaz.val r_
noncomputable def ZdC (a0 : Zat) : M Zat :=
 slot 69 >>= fun b1 =>
 slot 69 >>= fun b2 =>
 appS ZfB 272 32 ZlY Sl.nil a0.Tags >>= fun r3 =>
 ZaU a0.Ip4.Opts >>= fun r4 =>
 ZcG a0.Ip4.Data >>= fun r5 =>
 ZeE a0.Ip6 >>= fun r6 =>
 ZcG a0.Icmp.Data >>= fun r7 =>
 ZcG a0.Udp.Data >>= fun r8 =>
 ZaU a0.Tcp.Opts >>= fun r9 =>
 ZcG a0.Tcp.Data >>= fun r10 =>
 pure (⟨a0.Dst, a0.Src, r3, a0.Kind, a0.Arp, (⟨a0.Ip4.Tos, a0.Ip4.ID, a0.Ip4.DF, a0.Ip4.MF, a0.Ip4.Off, a0.Ip4.TTL, a0.Ip4.Proto, a0.Ip4.Src, a0.Ip4.Dst, r4, r5⟩ : Zd3), r6, a0.L4, (⟨a0.Icmp.V, a0.Icmp.Type_, a0.Icmp.Code, a0.Icmp.Rest, r7⟩ : ZeW), (⟨a0.Udp.Sport, a0.Udp.Dport, a0.Udp.NoSum, r8⟩ : ZfC), (⟨a0.Tcp.Sport, a0.Tcp.Dport, a0.Tcp.Seq, a0.Tcp.Ack, a0.Tcp.Flags, a0.Tcp.Win, a0.Tcp.Urg, r9, r10⟩ : Zet)⟩ : Zat)
theorem ZjZ (a0 : Zat) : Ref Tryz.prog 13 [Zaz.val a0] (ZdC a0) ZdC.out := by
 refine J.Fn Tryz.func13 ?_
 unfold ZdC
 exact sr 2 <| J.b 0 Zaz a0 fun b1 => J.a 0 Ty69 fun b2 => J.z 0 <| sr 1 <| J.z 1 <| sr 6 <| J.k 2 1 rfl Ty47 (ZfJ _) <| OJ.appS (d := 7) (t := 47) (u := 47) (so := .tmp 4) (xo := .tmp 6) (owed := []) ZxX fun r3 => OW.nil <| J.s 1 1 rfl Ty47 (Zky _ r3) <| J.z 0 <| sr 7 <| J.k 2 1 rfl Ty53 (At.trans (Zcb _) (Znm _)) <| J.C 0 F29 (ZeL _) fun r4 => J.s 2 1 rfl Ty53 (Upd.trans (Zcb _) (Zm5 _ r4) (Zhw _ (⟨a0.Ip4.Tos, a0.Ip4.ID, a0.Ip4.DF, a0.Ip4.MF, a0.Ip4.Off, a0.Ip4.TTL, a0.Ip4.Proto, a0.Ip4.Src, a0.Ip4.Dst, r4, a0.Ip4.Data⟩ : Zd3))) <| J.z 0 <| sr 7 <| J.k 2 1 rfl Ty54 (At.trans (Zcb _) (Znn _)) <| J.C 0 F30 (Zen _) fun r5 => J.s 2 1 rfl Ty54 (Upd.trans (Zcb _) (Zm6 _ r5) (Zhw _ (⟨a0.Ip4.Tos, a0.Ip4.ID, a0.Ip4.DF, a0.Ip4.MF, a0.Ip4.Off, a0.Ip4.TTL, a0.Ip4.Proto, a0.Ip4.Src, a0.Ip4.Dst, r4, r5⟩ : Zd3))) <| J.z 0 <| sr 5 <| J.k 1 1 rfl Ty61 (ZdB _) <| J.C 0 F31 (ZkC _) fun r6 => J.s 1 1 rfl Ty61 (Zk1 _ r6) <| J.z 0 <| sr 7 <| J.k 2 1 rfl Ty54 (At.trans (ZfK _) (ZlM _)) <| J.C 0 F30 (Zen _) fun r7 => J.s 2 1 rfl Ty54 (Upd.trans (ZfK _) (ZlF _ r7) (Zkz _ (⟨a0.Icmp.V, a0.Icmp.Type_, a0.Icmp.Code, a0.Icmp.Rest, r7⟩ : ZeW))) <| J.z 0 <| sr 7 <| J.k 2 1 rfl Ty54 (At.trans (Ze0 _) (Zne _)) <| J.C 0 F30 (Zen _) fun r8 => J.s 2 1 rfl Ty54 (Upd.trans (Ze0 _) (ZmW _ r8) (Zk0 _ (⟨a0.Udp.Sport, a0.Udp.Dport, a0.Udp.NoSum, r8⟩ : ZfC))) <| J.z 0 <| sr 7 <| J.k 2 1 rfl Ty53 (At.trans (ZcQ _) (Znf _)) <| J.C 0 F29 (ZeL _) fun r9 => J.s 2 1 rfl Ty53 (Upd.trans (ZcQ _) (ZmX _ r9) (Zhv _ (⟨a0.Tcp.Sport, a0.Tcp.Dport, a0.Tcp.Seq, a0.Tcp.Ack, a0.Tcp.Flags, a0.Tcp.Win, a0.Tcp.Urg, r9, a0.Tcp.Data⟩ : Zet))) <| J.z 0 <| sr 7 <| J.k 2 1 rfl Ty54 (At.trans (ZcQ _) (Zng _)) <| J.C 0 F30 (Zen _) fun r10 => J.s 2 1 rfl Ty54 (Upd.trans (ZcQ _) (ZmY _ r10) (Zhv _ (⟨a0.Tcp.Sport, a0.Tcp.Dport, a0.Tcp.Seq, a0.Tcp.Ack, a0.Tcp.Flags, a0.Tcp.Win, a0.Tcp.Urg, r9, r10⟩ : Zet))) <| J.z 0 <| sr 2 <| J.k 0 1 rfl Ty69 (At.whole _) <| J.s 0 0 rfl Ty69 (Upd.w (⟨a0.Dst, a0.Src, r3, a0.Kind, a0.Arp, (⟨a0.Ip4.Tos, a0.Ip4.ID, a0.Ip4.DF, a0.Ip4.MF, a0.Ip4.Off, a0.Ip4.TTL, a0.Ip4.Proto, a0.Ip4.Src, a0.Ip4.Dst, r4, r5⟩ : Zd3), r6, a0.L4, (⟨a0.Icmp.V, a0.Icmp.Type_, a0.Icmp.Code, a0.Icmp.Rest, r7⟩ : ZeW), (⟨a0.Udp.Sport, a0.Udp.Dport, a0.Udp.NoSum, r8⟩ : ZfC), (⟨a0.Tcp.Sport, a0.Tcp.Dport, a0.Tcp.Seq, a0.Tcp.Ack, a0.Tcp.Flags, a0.Tcp.Win, a0.Tcp.Urg, r9, r10⟩ : Zet)⟩ : Zat)) <| J.z 0 <| J.rc (.c 0 rfl Ty69 .n)

noncomputable def ZcW.out (r_ : Bool) : Value := .bool r_
noncomputable def ZcW (a0 : Int) (a1 : Int) (a2 : Zat) : M Bool :=
 slot 69 >>= fun b1 =>
 pure ((wrap .i64 (a0 - 1)) == a1)
theorem Zis (a0 : Int) (a1 : Int) (a2 : Zat) : Ref Tryz.prog 166 [.int .i64 a0, .int .i64 a1, Zaz.val a2] (ZcW a0 a1 a2) ZcW.out := by
 refine J.Fn Tryz.func166 ?_
 unfold ZcW
 exact sr 2 <| J.b 0 Zaz a2 fun b1 => J.z 1 <| sr 5 <| J.z 5 <| J.r

noncomputable def ZcK.out (r_ : Bool) : Value := .bool r_
noncomputable def ZcK (a0 : Int) (a1 : Int) (a2 : Zat) : M Bool :=
 slot 69 >>= fun b1 =>
 (if (a2.Tags.len : Int) > 0 then
   idx a2.Tags.a a2.Tags.len 0 4 >>= fun p2 =>
   ld (cI .i64) (Addr.add p2 3) >>= fun x3 =>
   pure (x3 == a0)
  else
   pure false) >>= fun y4 =>
 pure y4
theorem Zia (a0 : Int) (a1 : Int) (a2 : Zat) : Ref Tryz.prog 167 [.int .i64 a0, .int .i64 a1, Zaz.val a2] (ZcK a0 a1 a2) ZcK.out := by
 refine J.Fn Tryz.func167 ?_
 unfold ZcK
 refine sr 2 <| J.b 0 Zaz a2 fun b1 => J.z 1 <| sr 14 <| J.k 1 0 rfl Ty47 (ZfJ _) <| J.j 3 7 .bool ?_ ?_ fun y4 => ?_
 ·exact J.k 1 0 rfl Ty47 (ZfJ _) <| J.i 0 fun p2 => J.l 1 Ty3 fun x3 => J.e 3
 ·exact J.e 8
 exact J.z 1 <| J.r

noncomputable def Zcz.out (r_ : Bool) : Value := .bool r_
noncomputable def Zcz (a0 : Int) (a1 : Int) (a2 : Zat) : M Bool :=
 slot 69 >>= fun b1 =>
 pure (a2.Kind == a0)
theorem ZhG (a0 : Int) (a1 : Int) (a2 : Zat) : Ref Tryz.prog 168 [.int .i64 a0, .int .i64 a1, Zaz.val a2] (Zcz a0 a1 a2) Zcz.out := by
 refine J.Fn Tryz.func168 ?_
 unfold Zcz
 exact sr 2 <| J.b 0 Zaz a2 fun b1 => J.z 1 <| sr 5 <| J.k 1 0 rfl Ty3 (Zdn _) <| J.z 3 <| J.r

noncomputable def Zck.out (r_ : Bool) : Value := .bool r_
noncomputable def Zck (a0 : Int) (a1 : Int) (a2 : Zat) : M Bool :=
 slot 69 >>= fun b1 =>
 (if a2.Kind = 2 then
   pure (a2.Ip4.Proto == a0)
  else
   pure false) >>= fun y2 =>
 (if y2 = true then
   pure true
  else
   (if a2.Kind = 3 then
     pure (a2.Ip6.Next == a0)
    else
     pure false) >>= fun y3 =>
   pure y3) >>= fun y4 =>
 pure y4
theorem Zhc (a0 : Int) (a1 : Int) (a2 : Zat) : Ref Tryz.prog 169 [.int .i64 a0, .int .i64 a1, Zaz.val a2] (Zck a0 a1 a2) Zck.out := by
 refine J.Fn Tryz.func169 ?_
 unfold Zck
 refine sr 2 <| J.b 0 Zaz a2 fun b1 => J.z 1 <| sr 23 <| J.k 1 0 rfl Ty3 (Zdn _) <| J.j 2 5 .bool ?_ ?_ fun y2 => ?_
 ·exact J.k 2 0 rfl Ty3 (At.trans (Zcb _) (ZlL _)) <| J.e 3
 ·exact J.e 6
 refine J.g 1 <| OJ.join (b := y2) [11, 12, 13, 14, 15, 16, 17, 18, 19, 20, 21] [22] [28] (fun y4 => [(28, .bool y4)]) [] [] (t := 17) Iff.rfl (fun hp_ => ?_) (fun hp_ => ?_) (fun _ _ _ _ _ _ h_ => h_) fun y4 => ?_
 ·exact J.g 11 <| OJ.nil ⟨(Cov.mem Cov.nil), rfl, _, rfl, by kernel_rfl⟩
 ·refine J.k 1 0 rfl Ty3 (Zdn _) <| J.g 2 <| OJ.join (b := (a2.Kind == 3)) [15, 16, 17, 18, 19, 20] [21] [17, 27] (fun y3 => [(17, .bool false), (27, .bool y3)]) [] [] (t := 21) zq (fun hp_ => ?_) (fun hp_ => ?_) (fun _ _ _ _ _ hq_ h_ => ⟨fun e_ he_ => (hq_ e_ he_).elim (fun h => h_.1 e_ h) (fun h => nomatch h), h_.2⟩) fun y3 => ?_
  ·exact J.k 2 0 rfl Ty3 (At.trans (ZdB _) (Zni _)) <| J.g 3 <| OJ.nil ⟨(Cov.mem Cov.nil), rfl, _, rfl, by kernel_rfl⟩
  ·exact J.g 6 <| OJ.nil ⟨(Cov.mem Cov.nil), rfl, _, rfl, by kernel_rfl⟩
  exact J.g 1 <| OJ.nil ⟨(Cov.mem Cov.nil), rfl, _, rfl, by kernel_rfl⟩
 exact J.z 1 <| J.r

noncomputable def Zcc.out (r_ : Bool) : Value := .bool r_
noncomputable def Zcc (a0 : Zat → M Bool) (a1 : Int) (a2 : Zat) : M Bool :=
 slot 69 >>= fun b1 =>
 a0 a2 >>= fun r2 =>
 pure r2
theorem ZhF (a0v : Any) (a0 : Zat → M Bool) (h_a0 : ∀ (x0_ : Zat), RefV Tryz.prog a0v.v [Zaz.val x0_] (a0 x0_) (fun r_ : Bool => .bool r_)) (a1 : Int) (a2 : Zat) : Ref Tryz.prog 170 [a0v.v, .int .i64 a1, Zaz.val a2] (Zcc a0 a1 a2) Zcc.out := by
 refine J.Fn Tryz.func170 ?_
 unfold Zcc
 exact sr 2 <| J.b 0 Zaz a2 fun b1 => J.z 1 <| sr 4 <| J.k 1 0 rfl Ty69 (At.whole _) <| J.v 0 (h_a0 a2) fun r2 => J.z 1 <| J.r

noncomputable def ZcA.out (r_ : Bool) : Value := .bool r_
noncomputable def ZcA (a0 : ZbV) (a1 : Int) (a2 : Zat) : M Bool :=
 slot 155 >>= fun b1 =>
 slot 69 >>= fun b2 =>
 (if a2.L4 = 3 then
   pure ((band .i64 a2.Tcp.Flags a0.set) == a0.set)
  else
   pure false) >>= fun y3 =>
 (if y3 = true then
   pure ((band .i64 a2.Tcp.Flags a0.clear) == 0)
  else
   pure false) >>= fun y4 =>
 pure y4
theorem ZhH (a0 : ZbV) (a1 : Int) (a2 : Zat) : Ref Tryz.prog 171 [Zbx.val a0, .int .i64 a1, Zaz.val a2] (ZcA a0 a1 a2) ZcA.out := by
 refine J.Fn Tryz.func171 ?_
 unfold ZcA
 refine sr 3 <| J.b 0 Zbx a0 fun b1 => J.b 0 Zaz a2 fun b2 => J.z 1 <| sr 24 <| J.k 1 0 rfl Ty3 (Zf6 _) <| J.j 2 9 .bool ?_ ?_ fun y3 => ?_
 ·exact J.k 2 0 rfl Ty3 (At.trans (ZcQ _) (Zh7 _)) <| J.k 1 1 rfl Ty3 (Zf2 _) <| J.k 2 1 rfl Ty3 (Zf2 _) <| J.e 2
 ·exact J.e 10
 refine J.j 1 7 .bool ?_ ?_ fun y4 => ?_
 ·exact J.k 2 0 rfl Ty3 (At.trans (ZcQ _) (Zh7 _)) <| J.k 1 1 rfl Ty3 (ZhW _) <| J.e 3
 ·exact J.e 8
 exact J.z 1 <| J.r

noncomputable def Zcx.out (r_ : Bool) : Value := .bool r_
noncomputable def Zcx (a0 : Int) (a1 : Int) (a2 : Zat) : M Bool :=
 slot 69 >>= fun b1 =>
 (if a2.L4 = 1 then
   pure (a2.Icmp.Type_ == (wrap .i64 (a0 - 1)))
  else
   pure false) >>= fun y2 =>
 pure y2
theorem ZhE (a0 : Int) (a1 : Int) (a2 : Zat) : Ref Tryz.prog 172 [.int .i64 a0, .int .i64 a1, Zaz.val a2] (Zcx a0 a1 a2) Zcx.out := by
 refine J.Fn Tryz.func172 ?_
 unfold Zcx
 refine sr 2 <| J.b 0 Zaz a2 fun b1 => J.z 1 <| sr 12 <| J.k 1 0 rfl Ty3 (Zf6 _) <| J.j 2 6 .bool ?_ ?_ fun y2 => ?_
 ·exact J.k 2 0 rfl Ty3 (At.trans (ZfK _) (Zk3 _)) <| J.e 4
 ·exact J.e 7
 exact J.z 1 <| J.r

noncomputable def Zcl.out (r_ : Bool) : Value := .bool r_
noncomputable def Zcl (a0 : Zed) (a1 : Int) (a2 : Zat) : M Bool :=
 slot 158 >>= fun b1 =>
 slot 69 >>= fun b2 =>
 (if a2.Kind = 2 then
   (if a2.Ip4.MF = true then
     pure true
    else
     pure (decide (a2.Ip4.Off > 0))) >>= fun y3 =>
   pure y3
  else
   pure false) >>= fun y4 =>
 (if y4 = true then
   pure true
  else
   (if a2.Kind = 3 then
     pure a2.Ip6.Frag.Has
    else
     pure false) >>= fun y5 =>
   pure y5) >>= fun y6 =>
 pure y6
theorem Zhd (a0 : Zed) (a1 : Int) (a2 : Zat) : Ref Tryz.prog 173 [Zb8.val a0, .int .i64 a1, Zaz.val a2] (Zcl a0 a1 a2) Zcl.out := by
 refine J.Fn Tryz.func173 ?_
 unfold Zcl
 refine sr 3 <| J.b 0 Zb8 a0 fun b1 => J.b 0 Zaz a2 fun b2 => J.z 1 <| sr 26 <| J.k 1 0 rfl Ty3 (Zdn _) <| J.g 2 <| OJ.join (b := (a2.Kind == 2)) [4, 5, 6, 7, 8, 9, 10, 11, 12, 13] [14, 15, 16, 17, 18, 19, 20, 21, 22, 23, 24, 25] [5, 20] (fun y4 => [(5, .pointer (some (pt b2 0))), (20, .bool y4)]) [] [] (t := 10) zq (fun hp_ => ?_) (fun hp_ => ?_) (fun _ _ _ _ _ _ h_ => h_) fun y4 => ?_
 ·refine J.k 2 0 rfl Ty4 (At.trans (Zcb _) (Zo5 _)) <| J.g 1 <| OJ.join (b := a2.Ip4.MF) [8, 9, 10, 11, 12] [13] [5, 10, 19] (fun y3 => [(5, .pointer (some (pt b2 0))), (10, .bool true), (19, .bool y3)]) [] [] (t := 14) Iff.rfl (fun hp_ => ?_) (fun hp_ => ?_) (fun _ _ _ _ _ hq_ h_ => ⟨fun e_ he_ => (hq_ e_ he_).elim (fun h => h_.1 e_ h) (fun h => nomatch h), h_.2⟩) fun y3 => ?_
  ·exact J.g 5 <| OJ.nil ⟨(Cov.mem Cov.nil), rfl, _, rfl, by kernel_rfl⟩
  ·exact J.k 2 0 rfl Ty3 (At.trans (Zcb _) (ZnG _)) <| J.g 2 <| OJ.nil ⟨(Cov.mem Cov.nil), rfl, _, rfl, by kernel_rfl⟩
  exact J.g 1 <| OJ.nil ⟨(Cov.mem Cov.nil), rfl, _, rfl, by kernel_rfl⟩
 ·exact J.g 10 <| OJ.nil ⟨(Cov.mem Cov.nil), rfl, _, rfl, by kernel_rfl⟩
 refine J.g 1 <| OJ.join (b := y4) [15, 16, 17, 18, 19, 20, 21, 22, 23, 24] [25] [31] (fun y6 => [(31, .bool y6)]) [] [] (t := 21) Iff.rfl (fun hp_ => ?_) (fun hp_ => ?_) (fun _ _ _ _ _ _ h_ => h_) fun y6 => ?_
 ·exact J.g 10 <| OJ.nil ⟨(Cov.mem Cov.nil), rfl, _, rfl, by kernel_rfl⟩
 ·refine J.k 1 0 rfl Ty3 (Zdn _) <| J.g 2 <| OJ.join (b := (a2.Kind == 3)) [19, 20, 21, 22, 23] [24] [21, 30] (fun y5 => [(21, .bool false), (30, .bool y5)]) [] [] (t := 25) zq (fun hp_ => ?_) (fun hp_ => ?_) (fun _ _ _ _ _ hq_ h_ => ⟨fun e_ he_ => (hq_ e_ he_).elim (fun h => h_.1 e_ h) (fun h => nomatch h), h_.2⟩) fun y5 => ?_
  ·exact J.k 3 0 rfl Ty4 (At.trans (At.trans (ZdB _) (Znj _)) (Zno _)) <| J.g 1 <| OJ.nil ⟨(Cov.mem Cov.nil), rfl, _, rfl, by kernel_rfl⟩
  ·exact J.g 5 <| OJ.nil ⟨(Cov.mem Cov.nil), rfl, _, rfl, by kernel_rfl⟩
  exact J.g 1 <| OJ.nil ⟨(Cov.mem Cov.nil), rfl, _, rfl, by kernel_rfl⟩
 exact J.z 1 <| J.r

noncomputable def Zay.out (r_ : Bool) : Value := .bool r_
noncomputable def Zay.fv (f_ : Any) (y0_ : Zat) : M Bool :=
 (ZjO f_.v).elim fail (fun q_ => if q_.1 = 85 then (match q_.2 with | [p0_, p1_, p2_] => Zc4 y0_ p0_ p1_ p2_ | _ => fail) else if q_.1 = 90 then (match q_.2 with | [p0_, p1_] => ZcO y0_ p0_ p1_ | _ => fail) else fail)
theorem Zay.fv_ok (f_ : Any) (y0_ : Zat) : RefV Tryz.prog f_.v [Zaz.val y0_] (Zay.fv f_ y0_) (fun r_ : Bool => .bool r_) := by
  intro v r v' e
  unfold Zay.fv at e
  cases hf_ : ZjO f_.v with
  | none => rw [hf_] at e; cases e
  | some q_ =>
    obtain ⟨g_, l_⟩ := q_
    rw [hf_] at e
    dsimp only [Option.elim] at e
    by_cases hg_ : g_ = 85
    · subst hg_
      rw [if_pos rfl] at e
      split at e
      · rename_i p0_ p1_ p2_
        have h_ := RefV.of (first := []) (cap := [.pointer (some p0_), .pointer (some p1_), .pointer (some p2_)]) (vals := [Zaz.val y0_]) F85 (ZjD y0_ p0_ p1_ p2_) v r v' e
        rw [Zof hf_]
        exact h_
      · cases e
    rw [if_neg hg_] at e
    by_cases hg_ : g_ = 90
    · subst hg_
      rw [if_pos rfl] at e
      split at e
      · rename_i p0_ p1_
        have h_ := RefV.of (first := []) (cap := [.pointer (some p0_), .pointer (some p1_)]) (vals := [Zaz.val y0_]) F90 (Zi9 y0_ p0_ p1_) v r v' e
        rw [Zof hf_]
        exact h_
      · cases e
    rw [if_neg hg_] at e
    cases e
noncomputable def Zay.iv (f_ : Any) (x0_ : Int) (x1_ : Zat) : M Bool :=
 (ifc f_.v).elim fail (fun q_ => if q_.1 = 147 then ((cI .i64).un q_.2).elim fail (fun y_ => ZcW y_ x0_ x1_) else if q_.1 = 148 then ((cI .i64).un q_.2).elim fail (fun y_ => ZcK y_ x0_ x1_) else if q_.1 = 149 then ((cI .i64).un q_.2).elim fail (fun y_ => Zcz y_ x0_ x1_) else if q_.1 = 150 then ((cI .i64).un q_.2).elim fail (fun y_ => Zck y_ x0_ x1_) else if q_.1 = 152 then (cV.un q_.2).elim fail (fun y_ => Zcc (Zay.fv y_) x0_ x1_) else if q_.1 = 155 then (Zbx.un q_.2).elim fail (fun y_ => ZcA y_ x0_ x1_) else if q_.1 = 156 then ((cI .i64).un q_.2).elim fail (fun y_ => Zcx y_ x0_ x1_) else if q_.1 = 158 then (Zb8.un q_.2).elim fail (fun y_ => Zcl y_ x0_ x1_) else fail)
theorem Zay.iv_ok (f_ : Any) (x0_ : Int) (x1_ : Zat) : RefN Tryz.prog f_.v "weir/rules.holds" [.int .i64 x0_, Zaz.val x1_] (Zay.iv f_ x0_ x1_) (fun r_ : Bool => .bool r_) := by
  intro v r v' e
  unfold Zay.iv at e
  cases hf_ : ifc f_.v with
  | none => rw [hf_] at e; cases e
  | some q_ =>
    obtain ⟨t_, z_⟩ := q_
    rw [hf_] at e
    dsimp only [Option.elim] at e
    by_cases ht_ : t_ = 147
    · subst ht_
      rw [if_pos rfl] at e
      cases hy_ : (cI .i64).un z_ with
      | none => rw [hy_] at e; cases e
      | some y_ =>
        rw [hy_] at e
        dsimp only [Option.elim] at e
        rw [Zll hf_, Cod.un_eq hy_]
        exact RefN.of (by kernel_rfl) F166 (Zis y_ x0_ x1_) v r v' e
    rw [if_neg ht_] at e
    by_cases ht_ : t_ = 148
    · subst ht_
      rw [if_pos rfl] at e
      cases hy_ : (cI .i64).un z_ with
      | none => rw [hy_] at e; cases e
      | some y_ =>
        rw [hy_] at e
        dsimp only [Option.elim] at e
        rw [Zll hf_, Cod.un_eq hy_]
        exact RefN.of (by kernel_rfl) F167 (Zia y_ x0_ x1_) v r v' e
    rw [if_neg ht_] at e
    by_cases ht_ : t_ = 149
    · subst ht_
      rw [if_pos rfl] at e
      cases hy_ : (cI .i64).un z_ with
      | none => rw [hy_] at e; cases e
      | some y_ =>
        rw [hy_] at e
        dsimp only [Option.elim] at e
        rw [Zll hf_, Cod.un_eq hy_]
        exact RefN.of (by kernel_rfl) F168 (ZhG y_ x0_ x1_) v r v' e
    rw [if_neg ht_] at e
    by_cases ht_ : t_ = 150
    · subst ht_
      rw [if_pos rfl] at e
      cases hy_ : (cI .i64).un z_ with
      | none => rw [hy_] at e; cases e
      | some y_ =>
        rw [hy_] at e
        dsimp only [Option.elim] at e
        rw [Zll hf_, Cod.un_eq hy_]
        exact RefN.of (by kernel_rfl) F169 (Zhc y_ x0_ x1_) v r v' e
    rw [if_neg ht_] at e
    by_cases ht_ : t_ = 152
    · subst ht_
      rw [if_pos rfl] at e
      cases hy_ : cV.un z_ with
      | none => rw [hy_] at e; cases e
      | some y_ =>
        rw [hy_] at e
        dsimp only [Option.elim] at e
        rw [Zll hf_, Cod.un_eq hy_]
        exact RefN.of (by kernel_rfl) F170 (ZhF y_ (Zay.fv y_) (fun y0_ => Zay.fv_ok y_ y0_) x0_ x1_) v r v' e
    rw [if_neg ht_] at e
    by_cases ht_ : t_ = 155
    · subst ht_
      rw [if_pos rfl] at e
      cases hy_ : Zbx.un z_ with
      | none => rw [hy_] at e; cases e
      | some y_ =>
        rw [hy_] at e
        dsimp only [Option.elim] at e
        rw [Zll hf_, Cod.un_eq hy_]
        exact RefN.of (by kernel_rfl) F171 (ZhH y_ x0_ x1_) v r v' e
    rw [if_neg ht_] at e
    by_cases ht_ : t_ = 156
    · subst ht_
      rw [if_pos rfl] at e
      cases hy_ : (cI .i64).un z_ with
      | none => rw [hy_] at e; cases e
      | some y_ =>
        rw [hy_] at e
        dsimp only [Option.elim] at e
        rw [Zll hf_, Cod.un_eq hy_]
        exact RefN.of (by kernel_rfl) F172 (ZhE y_ x0_ x1_) v r v' e
    rw [if_neg ht_] at e
    by_cases ht_ : t_ = 158
    · subst ht_
      rw [if_pos rfl] at e
      cases hy_ : Zb8.un z_ with
      | none => rw [hy_] at e; cases e
      | some y_ =>
        rw [hy_] at e
        dsimp only [Option.elim] at e
        rw [Zll hf_, Cod.un_eq hy_]
        exact RefN.of (by kernel_rfl) F173 (Zhd y_ x0_ x1_) v r v' e
    rw [if_neg ht_] at e
    cases e
noncomputable def Zay (a0 : Any) (a1 : Addr) (a2 : Addr) : M Bool :=
 ld (cI .i64) a1 >>= fun x1 =>
 ld Zaz a2 >>= fun x2 =>
 Zay.iv a0 x1 x2 >>= fun r3 =>
 pure (!r3)
theorem Zja (a0 : Any) (a1 : Addr) (a2 : Addr) : Ref Tryz.prog 33 [a0.v, .pointer (some a1), .pointer (some a2)] (Zay a0 a1 a2) Zay.out := by
 refine J.Fn Tryz.func33 ?_
 unfold Zay
 exact sr 1 <| J.z 1 <| sr 6 <| J.l 1 Ty3 fun x1 => J.l 0 Ty69 fun x2 => OJ.inv (d := 8) (ats := #[3, 69]) (args := [.tmp 6, .tmp 7]) (ro := .tmp 5) (name := "weir/rules.holds") (fv := a0.v) (vals := [.int .i64 x1, Zaz.val x2]) (owed := []) (by kernel_rfl) (by kernel_rfl) (by kernel_rfl) (Zay.iv_ok a0 x1 x2) (by kernel_rfl) (by kernel_rfl) (by kernel_rfl) fun r3 => OW.nil <| J.z 2 <| J.r

noncomputable def Zam.B : Code := bod Tryz.f57
noncomputable def Zam.cx : Fx := ⟨Tryz.prog, 57, Tryz.f57, none⟩
noncomputable def Zam.out (r_ : Int) : Value := .int .i64 r_
noncomputable def Zam.F1 (a0 : Sl) (a1v : Any) : LF Int Int := ⟨[.inBlock 0, .code (c2 (c2 Zam.B))], c1 (c2 (c1 (c2 Zam.B))), fun s_ => [(0, Sl.v a0), (1, a1v.v), (7, .int .i64 (a0.len : Int)), (8, .int .i64 s_)], fun s_ => [], (rt Zam.out)⟩
noncomputable def Zam.L1 (a0 : Sl) (a1 : Any → M Bool) (s1 : Int) : M (LS Int Int) :=
 if s1 < (a0.len : Int) then
  idx a0.a a0.len s1 1 >>= fun p7 =>
  ld cV p7 >>= fun x8 =>
  a1 x8 >>= fun r9 =>
  if r9 = true then
   pure (LS.done s1)
  else
   pure (LS.next (wrap .i64 (s1 + 1)))
 else
  pure (LS.done (-1))
theorem Zam.L1_ok (a0 : Sl) (a1v : Any) (a1 : Any → M Bool) (h_a1 : ∀ (x0_ : Any), RefV Tryz.prog a1v.v [x0_.v] (a1 x0_) (fun r_ : Bool => .bool r_)) : LJ Zam.cx (Zam.F1 a0 a1v) (fun s_ => Zam.L1 a0 a1 s_) := by
 rintro s1
 show SJ _ _ _ _ (Zam.L1 a0 a1 s1) _
 unfold Zam.L1
 refine sr 1 <| J.z 1 <| seq <| J.f ?_ ?_
 ·refine SJ.skip <| seq <| block (id := 1) <| sr 2 <| J.z 2 <| sr 6 <| J.i 3 fun p7 => J.l 0 ZwL fun x8 => J.v 0 (h_a1 x8) fun r9 => J.z 0 <| J.f ?_ ?_
  ·exact sr 2 <| J.z 2 <| J.r
  exact SJ.skip <| inBlock <| SJ.rg 2 <| J.z 2 <| J.o rfl
 exact exit (id := 0) (by rfl) <| sr 1 <| J.z 1 <| J.r
noncomputable def Zam (a0 : Sl) (a1 : Any → M Bool) : M Int :=
 Zcn (fun s_ : Int => Zam.L1 a0 a1 s_) 0
theorem ZeF (a0 : Sl) (a1v : Any) (a1 : Any → M Bool) (h_a1 : ∀ (x0_ : Any), RefV Tryz.prog a1v.v [x0_.v] (a1 x0_) (fun r_ : Bool => .bool r_)) : Ref Tryz.prog 57 [Sl.v a0, a1v.v] (Zam a0 a1) Zam.out := by
 refine J.Fn Tryz.func57 ?_
 unfold Zam
 exact sr 1 <| J.z 1 <| seq <| sr 3 <| J.z 3 <| block (id := 0) <| J.L (Zam.L1_ok a0 a1v a1 h_a1)

noncomputable def Zbh.out (r_ : Bool) : Value := .bool r_
noncomputable def Zbh (a0 : Sl) (a1 : Any → M Bool) : M Bool :=
 Zam a0 a1 >>= fun r1 =>
 pure (decide (r1 ≥ 0))
theorem Zei (a0 : Sl) (a1v : Any) (a1 : Any → M Bool) (h_a1 : ∀ (x0_ : Any), RefV Tryz.prog a1v.v [x0_.v] (a1 x0_) (fun r_ : Bool => .bool r_)) : Ref Tryz.prog 32 [Sl.v a0, a1v.v] (Zbh a0 a1) Zbh.out := by
 refine J.Fn Tryz.func32 ?_
 unfold Zbh
 exact sr 1 <| J.z 1 <| sr 5 <| J.C 2 F57 (ZeF a0 a1v a1 h_a1) fun r1 => J.z 2 <| J.r

noncomputable def Zba.B : Code := bod Tryz.f14
noncomputable def Zba.cx : Fx := ⟨Tryz.prog, 14, Tryz.f14, none⟩
noncomputable def Zba.out (r_ : Zbv) : Value := Zcf.val r_
noncomputable def Zba.F1 (a0 : (Option Addr)) (b1 : Nat) (b2 : Nat) (b3 : Nat) (x5 : Sl) : LF (Int × Zbv) Zbv := ⟨[.inBlock 0, .code (c2 (c2 Zba.B))], c1 (c2 (c1 (c2 Zba.B))), fun s_ => [(0, .pointer a0), (4, .pointer (some (pt b1 0))), (5, .pointer (some (pt b2 0))), (6, .pointer (some (pt b3 0))), (12, Sl.v x5), (13, .int .i64 (x5.len : Int)), (14, .int .i64 s_.1)], fun s_ => [(b3, Zcf.enc s_.2)], (rt Zba.out)⟩
noncomputable def Zba.L1 (a0 : (Option Addr)) (b1 : Nat) (b2 : Nat) (x5 : Sl) (s6 : Int) (s7 : Zbv) : M (LS (Int × Zbv) Zbv) :=
 if s6 < (x5.len : Int) then
  idx x5.a x5.len s6 1 >>= fun p30 =>
  ld cL p30 >>= fun x31 =>
  Zbh x31 (fun (q32 : Any) => Zay q32 (pt b1 0) (pt b2 0)) >>= fun r33 =>
  if ¬ (r33 = true) then
   draw >>= fun _ =>
   nilck a0 >>= fun p42 =>
   ld cL p42 >>= fun x43 =>
   idx x43.a x43.len s6 16 >>= fun p44 =>
   ld (cI .i64) p44 >>= fun x45 =>
   nilck a0 >>= fun p46 =>
   ld cL p46 >>= fun x47 =>
   idx x47.a x47.len s6 16 >>= fun p48 =>
   ld (cI .i64) (Addr.add p48 1) >>= fun x49 =>
   pure (LS.done (⟨x45, x49, s6⟩ : Zbv))
  else
   pure (LS.next (wrap .i64 (s6 + 1), s7))
 else
  pure (LS.done (⟨2, Zfo.Class, (-1)⟩ : Zbv))
theorem Zba.L1_ok (a0 : (Option Addr)) (b1 : Nat) (b2 : Nat) (b3 : Nat) (x5 : Sl) : LJ Zba.cx (Zba.F1 a0 b1 b2 b3 x5) (fun s_ => Zba.L1 a0 b1 b2 x5 s_.1 s_.2) := by
 rintro ⟨s6, s7⟩
 show SJ _ _ _ _ (Zba.L1 a0 b1 b2 x5 s6 s7) _
 unfold Zba.L1
 refine sr 1 <| J.z 1 <| seq <| J.f ?_ ?_
 ·refine SJ.skip <| seq <| block (id := 1) <| sr 5 <| J.i 1 fun p30 => J.l 0 Zq2 fun x31 => J.z 2 <| sr 4 <| J.C 2 F32 (Zei x31 ⟨.func (.func 33) #[] #[.pointer (some (pt b1 0)), .pointer (some (pt b2 0))], rfl⟩ (fun (q32 : Any) => Zay q32 (pt b1 0) (pt b2 0)) (fun q32 => RefV.of (first := []) (cap := [.pointer (some (pt b1 0)), .pointer (some (pt b2 0))]) F33 (Zja q32 (pt b1 0) (pt b2 0)))) fun r33 => J.z 1 <| J.f ?_ ?_
  ·exact seq <| J.R 19 ZcY <| J.n 1 fun p42 => J.l 1 Ty28 fun x43 => J.i 1 fun p44 => J.l 1 Ty3 fun x45 => J.n 1 fun p46 => J.l 1 Ty28 fun x47 => J.i 1 fun p48 => J.l 1 Ty3 fun x49 => J.u 1 Ty74 (.f 0 (ZgV _ x45) (.f 1 (Zje _ x49) (.f 2 (ZgA _ s6) .nil))) <| J.s 0 0 rfl Ty74 (Upd.w (⟨x45, x49, s6⟩ : Zbv)) <| J.z 0 <| J.rc (.c 0 rfl Ty74 .n)
  exact SJ.skip <| inBlock <| SJ.rg 2 <| J.z 2 <| J.o rfl
 exact exit (id := 0) (by rfl) <| sr 2 <| J.u 0 Ty74 (.f 0 (ZgV _ 2) (.f 2 (ZgA _ (-1)) .nil)) <| J.s 0 0 rfl Ty74 (Upd.w (⟨2, Zfo.Class, (-1)⟩ : Zbv)) <| J.z 0 <| J.rc (.c 0 rfl Ty74 .n)
noncomputable def Zba (a0 : (Option Addr)) (a1 : Int) (a2 : Zat) : M Zbv :=
 newv 3 (cI .i64) a1 >>= fun b1 =>
 newv 69 Zaz a2 >>= fun b2 =>
 slot 74 >>= fun b3 =>
 nilck a0 >>= fun p4 =>
 ld cL (Addr.add p4 1) >>= fun x5 =>
 Zcn (fun s_ : (Int × Zbv) => Zba.L1 a0 b1 b2 x5 s_.1 s_.2) (0, Zfo)
theorem ZgN (a0 : (Option Addr)) (a1 : Int) (a2 : Zat) : Ref Tryz.prog 14 [.pointer a0, .int .i64 a1, Zaz.val a2] (Zba a0 a1 a2) Zba.out := by
 refine J.Fn Tryz.func14 ?_
 unfold Zba
 exact sr 3 <| J.B 0 fun b1 => J.B 0 fun b2 => J.a 0 Ty74 fun b3 => J.z 0 <| seq <| sr 6 <| J.n 1 fun p4 => J.l 1 Ty77 fun x5 => J.z 2 <| block (id := 0) <| J.L (Zba.L1_ok a0 b1 b2 b3 x5)

noncomputable def Zaj.B : Code := bod Tryz.f3
noncomputable def Zaj.cx : Fx := ⟨Tryz.prog, 3, Tryz.f3, none⟩
noncomputable def Zaj.out (r_ : Bool) : Value := .bool r_
noncomputable def Zaj.F1 (a1 : Sl) (r1 : ((Option Addr) × Int × Int × Int)) (r18 : ((Option Addr) × Int × Int)) : LF Int Bool := ⟨[.inBlock 2, .code (c2 (c2 (c2 (c2 (c2 (c2 (c2 (c2 Zaj.B))))))))], c1 (c2 (c1 (c2 (c2 (c2 (c2 (c2 (c2 (c2 Zaj.B))))))))), fun s_ => [(1, Sl.v a1), (5, .pointer r1.1), (14, .pointer r18.1), (17, .int .i64 s_)], fun s_ => [], (rt Zaj.out)⟩
noncomputable def Zaj.L1 (a1 : Sl) (r1 : ((Option Addr) × Int × Int × Int)) (r18 : ((Option Addr) × Int × Int)) (s46 : Int) : M (LS Int Bool) :=
 if s46 < (a1.len : Int) then
  idx a1.a a1.len s46 168 >>= fun p60 =>
  ld Zaz (Addr.add p60 1) >>= fun x61 =>
  ZdC x61 >>= fun r62 =>
  slot 69 >>= fun b63 =>
  draw >>= fun _ =>
  idx a1.a a1.len s46 168 >>= fun p64 =>
  ld (cI .i64) p64 >>= fun x65 =>
  idx a1.a a1.len s46 168 >>= fun p66 =>
  ld (cI .i64) p66 >>= fun x67 =>
  Zba r1.1 x65 r62 >>= fun r68 =>
  same (cI .i64) p66 x67 >>= fun _ =>
  Zba r18.1 x67 r62 >>= fun r69 =>
  if ¬ (r68 = r69) then
   pure (LS.done false)
  else
   pure (LS.next (wrap .i64 (s46 + 1)))
 else
  Zco >>= fun r71 =>
  pure (LS.done r71)
theorem Zaj.L1_ok (a1 : Sl) (r1 : ((Option Addr) × Int × Int × Int)) (r18 : ((Option Addr) × Int × Int)) : LJ Zaj.cx (Zaj.F1 a1 r1 r18) (fun s_ => Zaj.L1 a1 r1 r18 s_) := by
 rintro s46
 show SJ _ _ _ _ (Zaj.L1 a1 r1 r18 s46) _
 unfold Zaj.L1
 refine seq <| sr 4 <| J.z 4 <| J.f ?_ ?_
 ·refine SJ.skip <| seq <| block (id := 3) <| sr 8 <| J.i 2 fun p60 => J.l 1 Ty69 fun x61 => J.C 0 F13 (ZjZ _) fun r62 => J.a 0 Ty69 fun b63 => J.s 0 0 rfl Ty69 (Upd.w r62) <| J.z 0 <| seq <| J.D [0, 1, 2, 3, 4, 5, 6, 9, 10, 11, 12, 13, 14, 7, 8, 15, 16] ZcY <| J.i 3 fun p64 => J.l 1 Ty3 fun x65 => J.k 0 0 rfl Ty69 (At.whole _) <| J.i 2 fun p66 => J.l 1 Ty3 fun x67 => J.k 0 0 rfl Ty69 (At.whole _) <| OJ.call (d := 137) (g := 14) (ats := #[24, 3, 69]) (args := [.tmp 130, .tmp 135, .tmp 136]) (owed := [⟨14, 69, (pt b63 0), Zaz.val r62⟩, ⟨13, 3, p66, (cI .i64).val x67⟩]) F14 (ZgN r1.1 x65 r62) fun r68 => OW.known (j := 0) (q := r62) Ty69 rfl (At.whole _) <| OW.same Ty3 <| OW.nil <| J.C 1 F14 (ZgN _ _ _) fun r69 => OJ.neq (d := 146) (T := 74) (yT := 74) (y := .tmp 137) (z := .tmp 145) (cd := Zcf) (p := r68) (q := r69) rfl Eq74 <| J.z 0 <| J.f ?_ ?_
  ·exact sr 1 <| J.z 1 <| J.r
  exact SJ.skip <| inBlock <| SJ.rg 3 <| J.z 3 <| forget (List.Sublist.cons _ List.Sublist.slnil) <| J.o rfl
 exact exit (id := 2) (by rfl) <| sr 2 <| J.C 0 F8 Zf7 fun r71 => J.z 1 <| J.r
noncomputable def Zaj.K1 (a0 : Sl) (a1 : Sl) (r1 : ((Option Addr) × Int × Int × Int)) (s2 : Sl) : M Bool :=
 Zb5 s2 >>= fun r18 =>
 Zb3 r1.2.1 >>= fun r19 =>
 if r19 ≠ 0 then
  Zco >>= fun r28 =>
  (if r28 = true then
    pure (Option.isNone r1.1)
   else
    pure false) >>= fun y29 =>
  (if y29 = true then
    Zb3 r18.2.1 >>= fun r30 =>
    (if r30 = 0 then
      pure true
     else
      Zb3 r1.2.1 >>= fun r31 =>
      pure (r31 == 167)) >>= fun y32 =>
    pure y32
   else
    pure false) >>= fun y33 =>
  (if y33 = true then
    pure (decide (r1.2.2.1 ≥ 0))
   else
    pure false) >>= fun y34 =>
  (if y34 = true then
    pure (decide (r1.2.2.1 < (a0.len : Int)))
   else
    pure false) >>= fun y35 =>
  pure y35
 else
  (if r1.1 = none then
    pure true
   else
    pure (Option.isNone r18.1)) >>= fun y36 =>
  (if y36 = true then
    pure true
   else
    Zb3 r18.2.1 >>= fun r37 =>
    pure (r37 != 0)) >>= fun y38 =>
  (if y38 = true then
    pure true
   else
    Zbc r1.1 >>= fun r39 =>
    Za2 r39 s2 >>= fun r40 =>
    pure (!r40)) >>= fun y41 =>
  (if y41 = true then
    pure true
   else
    Za9 r1.1 >>= fun r42 =>
    Za9 r18.1 >>= fun r43 =>
    ZaW r42 r43 >>= fun r44 =>
    pure (!r44)) >>= fun y45 =>
  if y45 = true then
   pure false
  else
   Zcn (fun s_ : Int => Zaj.L1 a1 r1 r18 s_) 0
theorem Zaj.K1_ok (a0 : Sl) (a1 : Sl) (r1 : ((Option Addr) × Int × Int × Int)) (s2 : Sl) :
  SJ Zaj.cx [.code (c2 (c2 (c2 (c2 Zaj.B))))] [(0, Sl.v a0), (1, Sl.v a1), (5, .pointer r1.1), (6, .int .i64 r1.2.1), (7, .int .i64 r1.2.2.1), (9, Sl.v s2)] [] (Zaj.K1 a0 a1 r1 s2) (rt Zaj.out) := by
 unfold Zaj.K1
 refine sr 9 <| J.C 1 F7 (Zpp _) fun r18 => J.z 7 <| seq <| sr 3 <| J.C 1 F5 (ZcH _) fun r19 => J.z 1 <| J.f ?_ ?_
 ·refine sr 26 <| J.C 0 F8 Zf7 fun r28 => J.j 1 2 .bool ?_ ?_ fun y29 => ?_
  ·exact J.e 3
  ·exact J.e 3
  refine J.g 1 <| OJ.join (b := y29) [6, 7, 8, 9, 10, 11, 12, 13, 14] [15, 16, 17, 18, 19, 20, 21, 22, 23, 24, 25] [0, 7, 81] (fun y33 => [(0, Sl.v a0), (7, .int .i64 r1.2.2.1), (81, .bool y33)]) [] [] (t := 72) Iff.rfl (fun hp_ => ?_) (fun hp_ => ?_) (fun _ _ _ _ _ _ h_ => h_) fun y33 => ?_
  ·refine J.C 1 F5 (ZcH _) fun r30 => J.g 2 <| OJ.join (b := (r30 == 0)) [10, 11, 12, 13] [14] [0, 7, 72, 80] (fun y32 => [(0, Sl.v a0), (7, .int .i64 r1.2.2.1), (72, .bool true), (80, .bool y32)]) [] [] (t := 76) zq (fun hp_ => ?_) (fun hp_ => ?_) (fun _ _ _ _ _ hq_ h_ => ⟨fun e_ he_ => (hq_ e_ he_).elim (fun h => h_.1 e_ h) (fun h => nomatch h), h_.2⟩) fun y32 => ?_
   ·exact J.g 4 <| OJ.nil ⟨(Cov.mem Cov.nil), rfl, _, rfl, by kernel_rfl⟩
   ·exact J.C 1 F5 (ZcH _) fun r31 => J.g 2 <| OJ.nil ⟨(Cov.mem Cov.nil), rfl, _, rfl, by kernel_rfl⟩
   exact J.g 1 <| OJ.nil ⟨(Cov.mem Cov.nil), rfl, _, rfl, by kernel_rfl⟩
  ·exact J.g 9 <| OJ.nil ⟨(Cov.mem Cov.nil), rfl, _, rfl, by kernel_rfl⟩
  refine J.j 1 2 .bool ?_ ?_ fun y34 => ?_
  ·exact J.e 3
  ·exact J.e 3
  refine J.j 1 4 .bool ?_ ?_ fun y35 => ?_
  ·exact J.e 5
  ·exact J.e 5
  exact J.z 1 <| J.r
 refine SJ.skip <| seq <| sr 26 <| J.j 3 2 .bool ?_ ?_ fun y36 => ?_
 ·exact J.e 3
 ·exact J.e 3
 refine J.j 1 3 .bool ?_ ?_ fun y38 => ?_
 ·exact J.e 4
 ·exact J.C 1 F5 (ZcH _) fun r37 => J.e 2
 refine J.j 1 5 .bool ?_ ?_ fun y41 => ?_
 ·exact J.e 6
 ·exact J.C 1 F10 (Zj6 _) fun r39 => J.C 1 F9 (Zi1 _ _) fun r40 => J.e 2
 refine J.j 1 6 .bool ?_ ?_ fun y45 => ?_
 ·exact J.e 7
 ·exact J.C 1 F12 (ZgM _) fun r42 => J.C 1 F12 (ZgM _) fun r43 => J.C 0 F11 (Zh9 _ _) fun r44 => J.e 2
 refine J.z 0 <| J.f ?_ ?_
 ·exact sr 1 <| J.z 1 <| J.r
 exact SJ.skip <| seq <| sr 1 <| J.z 1 <| block (id := 2) <| J.L (Zaj.L1_ok a1 r1 r18)
noncomputable def Zaj.F2 (a0 : Sl) (a1 : Sl) (r1 : ((Option Addr) × Int × Int × Int)) : LF (Sl × Int) Bool := ⟨[.inBlock 0, .code (c2 (c2 (c2 (c2 Zaj.B))))], c1 (c2 (c1 (c2 (c2 (c2 Zaj.B))))), fun s_ => [(0, Sl.v a0), (1, Sl.v a1), (5, .pointer r1.1), (6, .int .i64 r1.2.1), (7, .int .i64 r1.2.2.1), (9, Sl.v s_.1), (10, .int .i64 s_.2)], fun s_ => [], (rt Zaj.out)⟩
noncomputable def Zaj.L2 (a0 : Sl) (a1 : Sl) (r1 : ((Option Addr) × Int × Int × Int)) (s2 : Sl) (s3 : Int) : M (LS (Sl × Int) Bool) :=
 (if s3 < (a0.len : Int) then
   Zb3 r1.2.1 >>= fun r75 =>
   (if r75 = 0 then
     pure true
    else
     pure (decide (s3 < r1.2.2.1))) >>= fun y76 =>
   pure y76
  else
   pure false) >>= fun y77 =>
 if y77 = true then
  idx a0.a a0.len s3 1 >>= fun p78 =>
  ld cS p78 >>= fun x79 =>
  Zal x79 >>= fun r80 =>
  slot 35 >>= fun b81 =>
  Zb3 r80.2.1 >>= fun r82 =>
  if r82 = 0 then
   slot 35 >>= fun b85 =>
   appl Zah 35 192 ZaL s2 [r80.1] >>= fun r86 =>
   pure (LS.next (r86, wrap .i64 (s3 + 1)))
  else
   pure (LS.next (s2, wrap .i64 (s3 + 1)))
 else
  (Zaj.K1 a0 a1 r1 s2) >>= fun b => pure (LS.done b)
theorem Zaj.L2_ok (a0 : Sl) (a1 : Sl) (r1 : ((Option Addr) × Int × Int × Int)) : LJ Zaj.cx (Zaj.F2 a0 a1 r1) (fun s_ => Zaj.L2 a0 a1 r1 s_.1 s_.2) := by
 rintro ⟨s2, s3⟩
 show SJ _ _ _ _ (Zaj.L2 a0 a1 r1 s2 s3) _
 unfold Zaj.L2
 refine seq <| sr 14 <| J.g 5 <| OJ.join (b := decide (s3 < (a0.len : Int))) [5, 6, 7, 8, 9, 10, 11, 12, 13] [] [0, 1, 5, 6, 7, 9, 10, 39] (fun y77 => [(0, Sl.v a0), (1, Sl.v a1), (5, .pointer r1.1), (6, .int .i64 r1.2.1), (7, .int .i64 r1.2.2.1), (9, Sl.v s2), (10, .int .i64 s3), (39, .bool y77)]) [] [] (t := 30) ze (fun hp_ => ?_) (fun hp_ => ?_) (fun _ _ _ _ _ _ h_ => h_) fun y77 => ?_
 ·refine J.C 1 F5 (ZcH _) fun r75 => J.g 2 <| OJ.join (b := (r75 == 0)) [9, 10, 11, 12] [13] [0, 1, 5, 6, 7, 9, 10, 30, 38] (fun y76 => [(0, Sl.v a0), (1, Sl.v a1), (5, .pointer r1.1), (6, .int .i64 r1.2.1), (7, .int .i64 r1.2.2.1), (9, Sl.v s2), (10, .int .i64 s3), (30, .bool true), (38, .bool y76)]) [] [] (t := 34) zq (fun hp_ => ?_) (fun hp_ => ?_) (fun _ _ _ _ _ hq_ h_ => ⟨fun e_ he_ => (hq_ e_ he_).elim (fun h => h_.1 e_ h) (fun h => nomatch h), h_.2⟩) fun y76 => ?_
  ·exact J.g 4 <| OJ.nil ⟨(Cov.mem Cov.nil), rfl, _, rfl, by kernel_rfl⟩
  ·exact J.g 4 <| OJ.nil ⟨(Cov.mem Cov.nil), rfl, _, rfl, by kernel_rfl⟩
  exact J.g 1 <| OJ.nil ⟨(Cov.mem Cov.nil), rfl, _, rfl, by kernel_rfl⟩
 ·exact J.g 9 <| OJ.nil ⟨(Cov.mem Cov.nil), rfl, _, rfl, by kernel_rfl⟩
 refine J.z 0 <| J.f ?_ ?_
 ·refine SJ.skip <| seq <| block (id := 1) <| sr 13 <| J.i 2 fun p78 => J.l 0 Ty9 fun x79 => J.C 0 F6 (Zfu _) fun r80 => J.a 4 Ty35 fun b81 => J.s 0 0 rfl Ty35 (Upd.w r80.1) <| J.z 2 <| sr 3 <| J.C 1 F5 (ZcH _) fun r82 => J.z 1 <| J.f ?_ ?_
  ·exact SJ.rg 5 <| J.k 1 0 rfl Ty35 (At.whole _) <| J.S 0 [r80.1] Ty35 fun b85 => J.p 0 0 rfl Ty35 fun r86 => J.z 1 <| inBlock <| SJ.rg 3 <| J.z 3 <| forget (List.Sublist.cons _ (List.Sublist.cons _ List.Sublist.slnil)) <| J.o rfl
  exact SJ.skip <| inBlock <| SJ.rg 3 <| J.z 3 <| forget (List.Sublist.cons _ List.Sublist.slnil) <| J.o rfl
 exact exit (id := 0) (by rfl) <| J.q <| SJ.done <| Zaj.K1_ok a0 a1 r1 s2
noncomputable def Zaj (a0 : Sl) (a1 : Sl) : M Bool :=
 ZbJ a0 >>= fun r1 =>
 Zcn (fun s_ : (Sl × Int) => Zaj.L2 a0 a1 r1 s_.1 s_.2) (Sl.nil, 0)
theorem Zii (a0 : Sl) (a1 : Sl) : Ref Tryz.prog 3 [Sl.v a0, Sl.v a1] (Zaj a0 a1) Zaj.out := by
 refine J.Fn Tryz.func3 ?_
 unfold Zaj
 exact sr 1 <| J.z 1 <| sr 11 <| J.C 1 F4 (Zns _) fun r1 => J.z 9 <| sr 1 <| J.z 1 <| seq <| sr 1 <| J.z 1 <| block (id := 0) <| J.L (Zaj.L2_ok a0 a1 r1)
end Go.Proofs.YtfnokeoldcfcoaaGreatDoor.Lx
