/- Programs of the M-world for Go functions, each with the proof that the Go text does what it says. Printed by lxgen.py. -/
import Derived.Test.YtmgbjiaognomhaaGreatDoorLxT
set_option linter.unusedVariables false
set_option linter.unusedSimpArgs false
set_option linter.unusedSectionVars false
namespace Go.Proofs.YtmgbjiaognomhaaGreatDoor.Lx
open Go Go.Proofs
variable [ZdY]
/-! ### weir/rules.words: function 10 -/
noncomputable def ZaX.B : Code := bod Tryz.f10
noncomputable def ZaX.cx : Fx := ⟨Tryz.prog, 10, Tryz.f10, none⟩
noncomputable def ZaX.out (r_ : (Sl × Int)) : Value := .tuple #[Sl.v r_.1, .int .i64 r_.2]
noncomputable def ZaX.F1 (a0 : ByteArray) : LF (Sl × Int) (Sl × Int) := ⟨[.inBlock 0, .code (c2 (c2 (c2 ZaX.B)))], c1 (c2 (c1 (c2 (c2 ZaX.B)))), fun s_ => [(0, .string a0), (4, Sl.v s_.1), (5, .int .i64 s_.2)], fun s_ => [], (rt ZaX.out)⟩
noncomputable def ZaX.K1 (a0 : ByteArray) (s1 : Sl) (s2 : Int) (s42 : Int) : M (LS (Sl × Int) (Sl × Int)) :=
 chk ((0 : Int) ≤ s2 ∧ s2 < (a0.size : Int)) >>= fun _ =>
 if s42 > s2 then
  chk (0 ≤ (s2 : Int) ∧ (s2 : Int) ≤ s42 ∧ s42 ≤ (a0.size : Int)) >>= fun _ =>
  slot 48 >>= fun b60 =>
  appl ZbB 48 24 Zc6 s1 [(⟨(ByteArray.extract a0 (Int.toNat s2) (Int.toNat s42)), s2⟩ : ZaK)] >>= fun r61 =>
  pure (LS.next (r61, s42))
 else
  if (sb a0 s2) = 44 then
   chk (0 ≤ (s2 : Int) ∧ (s2 : Int) ≤ (IntKind.wrap .i64 (s42 + 1)) ∧ (IntKind.wrap .i64 (s42 + 1)) ≤ (a0.size : Int)) >>= fun _ =>
   slot 48 >>= fun b64 =>
   appl ZbB 48 24 Zc6 s1 [(⟨(ByteArray.extract a0 (Int.toNat s2) (Int.toNat (IntKind.wrap .i64 (s42 + 1)))), s2⟩ : ZaK)] >>= fun r65 =>
   pure (LS.next (r65, IntKind.wrap .i64 (s42 + 1)))
  else
   (if (sb a0 s2) = 32 then
     pure true
    else
     pure ((sb a0 s2) == 9)) >>= fun y66 =>
   if y66 = true then
    pure (LS.next (s1, IntKind.wrap .i64 (s2 + 1)))
   else
    pure (LS.done (Sl.nil, s2))
theorem ZaX.K1_ok (a0 : ByteArray) (s1 : Sl) (s2 : Int) (s42 : Int) :
  SJ ZaX.cx [.code (c2 (c2 (c1 (c2 (c1 (c1 (c2 (c1 (c2 (c2 ZaX.B)))))))))), .inBlock 1, .inLoop (c1 (c1 (c2 (c1 (c2 (c2 ZaX.B)))))), .inBlock 0, .code (c2 (c2 (c2 ZaX.B)))] [(0, .string a0), (4, Sl.v s1), (5, .int .i64 s2), (6, .int .i64 s42)] [] (ZaX.K1 a0 s1 s2 s42) (ZaX.F1 a0).f := by
 unfold ZaX.K1
 refine SJ.seq <| SJ.sr 4 <| J.t 2 fun hb53 hb54 => J.z 1 <| SJ.block (id := 4) <| SJ.sr 4 <| J.z 4 <| J.f ?_ ?_
 ·exact SJ.skip <| SJ.inBlock <| SJ.sr 10 <| J.ct 4 <| J.u 1 Ty48 (.f 0 (ZhG _ (ByteArray.extract a0 (Int.toNat s2) (Int.toNat s42))) (.f 1 (ZgI _ s2) .nil)) <| J.S 0 [(⟨(ByteArray.extract a0 (Int.toNat s2) (Int.toNat s42)), s2⟩ : ZaK)] Ty48 fun b60 => J.p 0 0 rfl Ty48 fun r61 => J.z 1 <| SJ.rg 2 <| J.z 2 <| SJ.inBlock <| SJ.forget (List.Sublist.cons _ List.Sublist.slnil) <| J.o rfl
 refine SJ.sr 3 <| J.z 3 <| J.f ?_ ?_
 ·exact SJ.rg 3 <| J.z 3 <| SJ.inBlock <| SJ.sr 10 <| J.ct 4 <| J.u 1 Ty48 (.f 0 (ZhG _ (ByteArray.extract a0 (Int.toNat s2) (Int.toNat (IntKind.wrap .i64 (s42 + 1))))) (.f 1 (ZgI _ s2) .nil)) <| J.S 0 [(⟨(ByteArray.extract a0 (Int.toNat s2) (Int.toNat (IntKind.wrap .i64 (s42 + 1)))), s2⟩ : ZaK)] Ty48 fun b64 => J.p 0 0 rfl Ty48 fun r65 => J.z 1 <| SJ.rg 2 <| J.z 2 <| SJ.inBlock <| SJ.forget (List.Sublist.cons _ List.Sublist.slnil) <| J.o rfl
 refine SJ.sr 7 <| J.j 3 2 .bool ?_ ?_ fun y66 => ?_
 ·exact J.e 3
 ·exact J.e 3
 refine J.z 1 <| J.f ?_ ?_
 ·exact SJ.sr 3 <| J.z 3 <| SJ.exit (id := 1) (by rfl) <| J.o rfl
 exact SJ.sr 3 <| J.z 3 <| J.r
noncomputable def ZaX.F2 (a0 : ByteArray) (s1 : Sl) (s2 : Int) : LF Int (LS (Sl × Int) (Sl × Int)) := ⟨[.inBlock 2, .code (c2 (c2 (c1 (c2 (c1 (c1 (c2 (c1 (c2 (c2 ZaX.B)))))))))), .inBlock 1, .inLoop (c1 (c1 (c2 (c1 (c2 (c2 ZaX.B)))))), .inBlock 0, .code (c2 (c2 (c2 ZaX.B)))], c1 (c1 (c2 (c1 (c2 (c1 (c1 (c2 (c1 (c2 (c2 ZaX.B)))))))))), fun s_ => [(0, .string a0), (4, Sl.v s1), (5, .int .i64 s2), (6, .int .i64 s_)], fun s_ => [], (ZaX.F1 a0).f⟩
noncomputable def ZaX.L2 (a0 : ByteArray) (s1 : Sl) (s2 : Int) (s42 : Int) : M (LS Int (LS (Sl × Int) (Sl × Int))) :=
 (if s42 < (a0.size : Int) then
   chk ((0 : Int) ≤ s42 ∧ s42 < (a0.size : Int)) >>= fun _ =>
   pure (decide ((sb a0 s42) > 32))
  else
   pure false) >>= fun y72 =>
 (if y72 = true then
   chk ((0 : Int) ≤ s42 ∧ s42 < (a0.size : Int)) >>= fun _ =>
   pure (decide ((sb a0 s42) < 127))
  else
   pure false) >>= fun y75 =>
 (if y75 = true then
   chk ((0 : Int) ≤ s42 ∧ s42 < (a0.size : Int)) >>= fun _ =>
   pure ((sb a0 s42) != 44)
  else
   pure false) >>= fun y78 =>
 if y78 = true then
  pure (LS.next (IntKind.wrap .i64 (s42 + 1)))
 else
  (ZaX.K1 a0 s1 s2 s42) >>= fun b => pure (LS.done b)
theorem ZaX.L2_ok (a0 : ByteArray) (s1 : Sl) (s2 : Int) : LJ ZaX.cx (ZaX.F2 a0 s1 s2) (fun s_ => ZaX.L2 a0 s1 s2 s_) := by
 rintro s42
 show SJ _ _ _ _ (ZaX.L2 a0 s1 s2 s42) _
 unfold ZaX.L2
 refine SJ.seq <| SJ.sr 22 <| J.j 5 4 .bool ?_ ?_ fun y72 => ?_
 ·exact J.t 2 fun hb70 hb71 => J.e 2
 ·exact J.e 5
 refine J.j 1 4 .bool ?_ ?_ fun y75 => ?_
 ·exact J.t 2 fun hb73 hb74 => J.e 2
 ·exact J.e 5
 refine J.j 1 4 .bool ?_ ?_ fun y78 => ?_
 ·exact J.t 2 fun hb76 hb77 => J.e 2
 ·exact J.e 5
 refine J.z 0 <| J.f ?_ ?_
 ·exact SJ.skip <| SJ.block (id := 3) <| SJ.rg 3 <| J.z 3 <| SJ.inBlock <| J.o rfl
 exact SJ.exit (id := 2) (by rfl) <| J.q <| SJ.done <| ZaX.K1_ok a0 s1 s2 s42
noncomputable def ZaX.L1 (a0 : ByteArray) (s1 : Sl) (s2 : Int) : M (LS (Sl × Int) (Sl × Int)) :=
 if s2 < (a0.size : Int) then
  Zci (fun s_ : Int => ZaX.L2 a0 s1 s2 s_) s2
 else
  pure (LS.done (s1, (-1)))
theorem ZaX.L1_ok (a0 : ByteArray) : LJ ZaX.cx (ZaX.F1 a0) (fun s_ => ZaX.L1 a0 s_.1 s_.2) := by
 rintro ⟨s1, s2⟩
 show SJ _ _ _ _ (ZaX.L1 a0 s1 s2) _
 unfold ZaX.L1
 refine SJ.seq <| SJ.sr 4 <| J.z 4 <| J.f ?_ ?_
 ·exact SJ.skip <| SJ.block (id := 1) <| SJ.sr 2 <| J.z 2 <| SJ.seq <| SJ.block (id := 2) <| J.L (ZaX.L2_ok a0 s1 s2)
 exact SJ.exit (id := 0) (by rfl) <| SJ.sr 3 <| J.z 3 <| J.r
noncomputable def ZaX (a0 : ByteArray) : M (Sl × Int) :=
 Zci (fun s_ : (Sl × Int) => ZaX.L1 a0 s_.1 s_.2) (Sl.nil, 0)
theorem Zle (a0 : ByteArray) : Ref Tryz.prog 10 [.string a0] (ZaX a0) ZaX.out := by
 refine J.Fn Tryz.func10 ?_
 unfold ZaX
 exact SJ.sr 2 <| J.z 2 <| SJ.sr 1 <| J.z 1 <| SJ.seq <| SJ.sr 1 <| J.z 1 <| SJ.block (id := 0) <| J.L (ZaX.L1_ok a0)

/-! ### (*weir/rules.reader).fail: function 14 -/
noncomputable def Za7.out (r_ : Unit) : Value := .tuple #[]
noncomputable def Za7 (a0 : (Option Addr)) (a1 : Int) (a2 : Int) : M Unit :=
 nilck a0 >>= fun p1 =>
 ld (cI .i64) (Addr.add p1 19) >>= fun x2 =>
 if x2 = 0 then
  nilck a0 >>= fun p5 =>
  st (cI .i64) (Addr.add p5 19) a1 >>= fun _ =>
  nilck a0 >>= fun p6 =>
  st (cI .i64) (Addr.add p6 20) a2 >>= fun _ =>
  pure ()
 else
  pure ()
theorem Zbt (a0 : (Option Addr)) (a1 : Int) (a2 : Int) : Ref Tryz.prog 14 [.pointer a0, .int .i64 a1, .int .i64 a2] (Za7 a0 a1 a2) Za7.out := by
 refine J.Fn Tryz.func14 ?_
 unfold Za7
 refine SJ.sr 5 <| J.n 1 fun p1 => J.l 1 Ty29 fun x2 => J.z 1 <| J.f ?_ ?_
 ·exact SJ.rg 10 <| J.n 4 fun p5 => J.w 1 Ty29 <| J.n 0 fun p6 => J.w 1 Ty3 <| J.z 0 <| SJ.end_ rfl (Res.run (ys := []) .nil rfl)
 exact SJ.skip <| SJ.end_ rfl (Res.run (ys := []) .nil rfl)

/-! ### (*weir/rules.reader).next: function 12 -/
noncomputable def ZaW.B : Code := bod Tryz.f12
noncomputable def ZaW.cx : Fx := ⟨Tryz.prog, 12, Tryz.f12, none⟩
noncomputable def ZaW.out (r_ : ZaK) : Value := ZbB.val r_
noncomputable def ZaW.K1 (a0 : (Option Addr)) : M ZaK :=
 nilck a0 >>= fun p12 =>
 ld (cI .i64) (Addr.add p12 19) >>= fun x13 =>
 if x13 ≠ 0 then
  pure Zc6
 else
  nilck a0 >>= fun p14 =>
  ld (cI .i64) (Addr.add p14 1) >>= fun x15 =>
  nilck a0 >>= fun p16 =>
  st (cI .i64) (Addr.add p16 1) (IntKind.wrap .i64 (x15 + 1)) >>= fun _ =>
  draw >>= fun _ =>
  nilck a0 >>= fun p17 =>
  ld cL p17 >>= fun x18 =>
  nilck a0 >>= fun p19 =>
  ld (cI .i64) (Addr.add p19 1) >>= fun x20 =>
  idx x18.a x18.len (IntKind.wrap .i64 (x20 - 1)) 2 >>= fun p21 =>
  ld ZbB p21 >>= fun x22 =>
  pure x22
theorem ZaW.K1_ok (a0 : (Option Addr)) (b1 : Nat) :
  SJ ZaW.cx [.code (c2 (c2 ZaW.B))] [(0, .pointer a0), (2, .pointer (some (pt b1 0)))] [(b1, ZbB.enc Zc6)] (ZaW.K1 a0) (rt ZaW.out) := by
 unfold ZaW.K1
 refine SJ.seq <| SJ.sr 5 <| J.n 1 fun p12 => J.l 1 Ty29 fun x13 => J.z 1 <| J.f ?_ ?_
 ·exact SJ.sr 2 <| J.u 0 Ty48 .nil <| J.s 0 0 rfl Ty48 (Upd.w Zc6) <| J.z 0 <| J.rc (.c 0 rfl Ty48 .n)
 exact SJ.skip <| SJ.sr 8 <| J.n 1 fun p14 => J.l 1 Ty3 fun x15 => J.n 1 fun p16 => J.w 1 Ty3 <| J.z 0 <| SJ.seq <| J.R 12 Zdz <| J.n 1 fun p17 => J.l 1 Ty40 fun x18 => J.n 1 fun p19 => J.l 1 Ty3 fun x20 => J.i 1 fun p21 => J.l 0 Ty48 fun x22 => J.s 0 0 rfl Ty48 (Upd.w x22) <| J.z 0 <| J.rc (.c 0 rfl Ty48 .n)
noncomputable def ZaW (a0 : (Option Addr)) : M ZaK :=
 slot 48 >>= fun b1 =>
 draw >>= fun _ =>
 nilck a0 >>= fun p2 =>
 ld (cI .i64) (Addr.add p2 19) >>= fun x3 =>
 (if x3 = 0 then
   nilck a0 >>= fun p4 =>
   ld (cI .i64) (Addr.add p4 1) >>= fun x5 =>
   nilck a0 >>= fun p6 =>
   ld cL p6 >>= fun x7 =>
   pure (x5 == (x7.len : Int))
  else
   pure false) >>= fun y8 =>
 if y8 = true then
  nilck a0 >>= fun p24 =>
  ld (cI .i64) (Addr.add p24 2) >>= fun x25 =>
  Za7 a0 161 x25 >>= fun r26 =>
  ZaW.K1 a0
 else
  ZaW.K1 a0
theorem Zdi (a0 : (Option Addr)) : Ref Tryz.prog 12 [.pointer a0] (ZaW a0) ZaW.out := by
 refine J.Fn Tryz.func12 ?_
 unfold ZaW
 refine SJ.sr 1 <| J.a 0 Ty48 fun b1 => J.z 0 <| SJ.seq <| SJ.seq <| J.R 17 Zdz <| J.n 1 fun p2 => J.l 1 Ty29 fun x3 => J.j 2 10 .bool ?_ ?_ fun y8 => ?_
 ·exact J.n 1 fun p4 => J.l 1 Ty3 fun x5 => J.n 1 fun p6 => J.l 1 Ty40 fun x7 => J.e 3
 ·exact J.e 11
 refine J.z 0 <| J.f ?_ ?_
 ·exact SJ.rg 6 <| J.n 2 fun p24 => J.l 1 Ty3 fun x25 => J.C 0 F14 (Zbt _ _ _) fun r26 => J.z 0 <| J.q <| ZaW.K1_ok a0 b1
 exact SJ.skip <| J.q <| ZaW.K1_ok a0 b1

/-! ### slices.Index[[]string,string]: function 27 -/
noncomputable def Zau.B : Code := bod Tryz.f27
noncomputable def Zau.cx : Fx := ⟨Tryz.prog, 27, Tryz.f27, none⟩
noncomputable def Zau.out (r_ : Int) : Value := .int .i64 r_
noncomputable def Zau.F1 (a0 : Sl) (a1 : ByteArray) : LF Int Int := ⟨[.inBlock 0, .code (c2 (c2 Zau.B))], c1 (c2 (c1 (c2 Zau.B))), fun s_ => [(0, Sl.v a0), (1, .string a1), (7, .int .i64 (a0.len : Int)), (8, .int .i64 s_)], fun s_ => [], (rt Zau.out)⟩
noncomputable def Zau.L1 (a0 : Sl) (a1 : ByteArray) (s1 : Int) : M (LS Int Int) :=
 if s1 < (a0.len : Int) then
  idx a0.a a0.len s1 1 >>= fun p6 =>
  ld cS p6 >>= fun x7 =>
  if a1.toList = x7.toList then
   pure (LS.done s1)
  else
   pure (LS.next (IntKind.wrap .i64 (s1 + 1)))
 else
  pure (LS.done (-1))
theorem Zau.L1_ok (a0 : Sl) (a1 : ByteArray) : LJ Zau.cx (Zau.F1 a0 a1) (fun s_ => Zau.L1 a0 a1 s_) := by
 rintro s1
 show SJ _ _ _ _ (Zau.L1 a0 a1 s1) _
 unfold Zau.L1
 refine SJ.sr 1 <| J.z 1 <| SJ.seq <| J.f ?_ ?_
 ·refine SJ.skip <| SJ.seq <| SJ.block (id := 1) <| SJ.sr 2 <| J.z 2 <| SJ.sr 6 <| J.i 3 fun p6 => J.l 0 Ty9 fun x7 => J.z 1 <| J.f ?_ ?_
  ·exact SJ.sr 2 <| J.z 2 <| J.r
  exact SJ.skip <| SJ.inBlock <| SJ.rg 2 <| J.z 2 <| J.o rfl
 exact SJ.exit (id := 0) (by rfl) <| SJ.sr 1 <| J.z 1 <| J.r
noncomputable def Zau (a0 : Sl) (a1 : ByteArray) : M Int :=
 Zci (fun s_ : Int => Zau.L1 a0 a1 s_) 0
theorem Zdf (a0 : Sl) (a1 : ByteArray) : Ref Tryz.prog 27 [Sl.v a0, .string a1] (Zau a0 a1) Zau.out := by
 refine J.Fn Tryz.func27 ?_
 unfold Zau
 exact SJ.sr 1 <| J.z 1 <| SJ.seq <| SJ.sr 3 <| J.z 3 <| SJ.block (id := 0) <| J.L (Zau.L1_ok a0 a1)

/-! ### (*weir/rules.reader).take: function 28 -/
noncomputable def Zbw.out (r_ : Bool) : Value := .bool r_
noncomputable def Zbw (a0 : (Option Addr)) (a1 : ByteArray) : M Bool :=
 draw >>= fun _ =>
 nilck a0 >>= fun p1 =>
 ld (cI .i64) (Addr.add p1 19) >>= fun x2 =>
 (if x2 ≠ 0 then
   pure true
  else
   nilck a0 >>= fun p3 =>
   ld (cI .i64) (Addr.add p3 1) >>= fun x4 =>
   nilck a0 >>= fun p5 =>
   ld cL p5 >>= fun x6 =>
   pure (x4 == (x6.len : Int))) >>= fun y7 =>
 (if y7 = true then
   pure true
  else
   nilck a0 >>= fun p8 =>
   ld cL p8 >>= fun x9 =>
   nilck a0 >>= fun p10 =>
   ld (cI .i64) (Addr.add p10 1) >>= fun x11 =>
   idx x9.a x9.len x11 2 >>= fun p12 =>
   ld cS p12 >>= fun x13 =>
   pure (!(x13.toList == a1.toList))) >>= fun y14 =>
 if y14 = true then
  pure false
 else
  nilck a0 >>= fun p15 =>
  ld (cI .i64) (Addr.add p15 1) >>= fun x16 =>
  nilck a0 >>= fun p17 =>
  st (cI .i64) (Addr.add p17 1) (IntKind.wrap .i64 (x16 + 1)) >>= fun _ =>
  pure true
theorem Zcz (a0 : (Option Addr)) (a1 : ByteArray) : Ref Tryz.prog 28 [.pointer a0, .string a1] (Zbw a0 a1) Zbw.out := by
 refine J.Fn Tryz.func28 ?_
 unfold Zbw
 refine SJ.sr 1 <| J.z 1 <| SJ.seq <| SJ.seq <| J.R 32 Zdz <| J.n 1 fun p1 => J.l 1 Ty29 fun x2 => J.j 2 10 .bool ?_ ?_ fun y7 => ?_
 ·exact J.e 11
 ·exact J.n 1 fun p3 => J.l 1 Ty3 fun x4 => J.n 1 fun p5 => J.l 1 Ty40 fun x6 => J.e 3
 refine J.j 1 13 .bool ?_ ?_ fun y14 => ?_
 ·exact J.e 14
 ·exact J.n 1 fun p8 => J.l 1 Ty40 fun x9 => J.n 1 fun p10 => J.l 1 Ty3 fun x11 => J.i 0 fun p12 => J.l 1 Ty9 fun x13 => J.e 3
 refine J.z 0 <| J.f ?_ ?_
 ·exact SJ.sr 1 <| J.z 1 <| J.r
 exact SJ.skip <| SJ.sr 8 <| J.n 1 fun p15 => J.l 1 Ty3 fun x16 => J.n 1 fun p17 => J.w 1 Ty3 <| J.z 0 <| SJ.sr 1 <| J.z 1 <| J.r

/-! ### (*weir/rules.reader).item: function 50 -/
noncomputable def Zcc.out (r_ : ZaK) : Value := ZbB.val r_
noncomputable def Zcc (a0 : (Option Addr)) : M ZaK :=
 slot 48 >>= fun b1 =>
 ZaW a0 >>= fun r2 =>
 slot 48 >>= fun b3 =>
 if r2.s.toList = str0.toList then
  Za7 a0 160 r2.at_ >>= fun r5 =>
  pure r2
 else
  pure r2
theorem Zdj (a0 : (Option Addr)) : Ref Tryz.prog 50 [.pointer a0] (Zcc a0) Zcc.out := by
 refine J.Fn Tryz.func50 ?_
 unfold Zcc
 refine SJ.sr 1 <| J.a 0 Ty48 fun b1 => J.z 0 <| SJ.sr 4 <| J.C 1 F12 (Zdi _) fun r2 => J.a 0 Ty48 fun b3 => J.s 0 0 rfl Ty48 (Upd.w r2) <| J.z 0 <| SJ.seq <| SJ.sr 3 <| J.k 1 0 rfl Ty9 (Zbz _) <| J.z 1 <| J.f ?_ ?_
 ·exact SJ.rg 4 <| J.k 2 0 rfl Ty3 (Zb1 _) <| J.C 0 F14 (Zbt _ _ _) fun r5 => J.z 0 <| SJ.sr 2 <| J.k 0 0 rfl Ty48 (At.whole _) <| J.s 0 1 rfl Ty48 (Upd.w r2) <| J.z 0 <| J.rc (.c 1 rfl Ty48 .n)
 exact SJ.skip <| SJ.sr 2 <| J.k 0 0 rfl Ty48 (At.whole _) <| J.s 0 1 rfl Ty48 (Upd.w r2) <| J.z 0 <| J.rc (.c 1 rfl Ty48 .n)

/-! ### weir/rules.within: function 48 -/
noncomputable def Zca.out (r_ : Bool) : Value := .bool r_
noncomputable def Zca (a0 : Int) (a1 : Int) (a2 : Int) : M Bool :=
 (if a0 ≥ a1 then
   pure (decide (a0 ≤ a2))
  else
   pure false) >>= fun y1 =>
 pure y1
theorem ZcA (a0 : Int) (a1 : Int) (a2 : Int) : Ref Tryz.prog 48 [.int .i64 a0, .int .i64 a1, .int .i64 a2] (Zca a0 a1 a2) Zca.out := by
 refine J.Fn Tryz.func48 ?_
 unfold Zca
 refine SJ.sr 1 <| J.z 1 <| SJ.sr 9 <| J.j 4 3 .bool ?_ ?_ fun y1 => ?_
 ·exact J.e 4
 ·exact J.e 4
 exact J.z 1 <| J.r

/-! ### weir/rules.number: function 51 -/
noncomputable def Zbr.B : Code := bod Tryz.f51
noncomputable def Zbr.cx : Fx := ⟨Tryz.prog, 51, Tryz.f51, none⟩
noncomputable def Zbr.out (r_ : (Int × Bool)) : Value := .tuple #[.int .i64 r_.1, .bool r_.2]
noncomputable def Zbr.F1 (a0 : ByteArray) (a1 : Int) (a2 : Int) : LF (Int × Int) (Int × Bool) := ⟨[.inBlock 0, .code (c2 (c2 (c2 (c2 Zbr.B))))], c1 (c2 (c1 (c2 (c2 (c2 Zbr.B))))), fun s_ => [(0, .string a0), (1, .int .i64 a1), (2, .int .i64 a2), (8, .int .i64 s_.1), (28, .int .i64 (a0.size : Int)), (29, .int .i64 s_.2)], fun s_ => [], (rt Zbr.out)⟩
noncomputable def Zbr.L1 (a0 : ByteArray) (a1 : Int) (a2 : Int) (s6 : Int) (s7 : Int) : M (LS (Int × Int) (Int × Bool)) :=
 if s7 < (a0.size : Int) then
  chk ((0 : Int) ≤ s7 ∧ s7 < (a0.size : Int)) >>= fun _ =>
  (if (sb a0 s7) < 48 then
    pure true
   else
    chk ((0 : Int) ≤ s7 ∧ s7 < (a0.size : Int)) >>= fun _ =>
    pure (decide ((sb a0 s7) > 57))) >>= fun y22 =>
  if y22 = true then
   pure (LS.done (0, false))
  else
   chk ((0 : Int) ≤ s7 ∧ s7 < (a0.size : Int)) >>= fun _ =>
   pure (LS.next (IntKind.wrap .i64 ((IntKind.wrap .i64 (10 * s6)) + (IntKind.wrap .i64 (IntKind.wrap .u8 ((sb a0 s7) - 48)))), IntKind.wrap .i64 (s7 + 1)))
 else
  Zca s6 a1 a2 >>= fun r26 =>
  pure (LS.done (s6, r26))
theorem Zbr.L1_ok (a0 : ByteArray) (a1 : Int) (a2 : Int) : LJ Zbr.cx (Zbr.F1 a0 a1 a2) (fun s_ => Zbr.L1 a0 a1 a2 s_.1 s_.2) := by
 rintro ⟨s6, s7⟩
 show SJ _ _ _ _ (Zbr.L1 a0 a1 a2 s6 s7) _
 unfold Zbr.L1
 refine SJ.sr 1 <| J.z 1 <| SJ.seq <| J.f ?_ ?_
 ·refine SJ.skip <| SJ.seq <| SJ.block (id := 1) <| SJ.sr 2 <| J.z 2 <| SJ.seq <| SJ.sr 10 <| J.t 2 fun hb18 hb19 => J.j 2 4 .bool ?_ ?_ fun y22 => ?_
  ·exact J.e 5
  ·exact J.t 2 fun hb20 hb21 => J.e 2
  refine J.z 0 <| J.f ?_ ?_
  ·exact SJ.sr 2 <| J.z 2 <| J.r
  exact SJ.skip <| SJ.rg 9 <| J.t 4 fun hb23 hb24 => J.z 4 <| SJ.inBlock <| SJ.rg 2 <| J.z 2 <| J.o rfl
 exact SJ.exit (id := 0) (by rfl) <| SJ.sr 7 <| J.C 4 F48 (ZcA _ _ _) fun r26 => J.z 2 <| J.r
noncomputable def Zbr (a0 : ByteArray) (a1 : Int) (a2 : Int) : M (Int × Bool) :=
 (if a0.toList = ByteArray.empty.toList then
   pure true
  else
   pure (decide ((a0.size : Int) > 9))) >>= fun y1 =>
 (if y1 = true then
   pure true
  else
   chk ((0 : Int) ≤ 0 ∧ 0 < (a0.size : Int)) >>= fun _ =>
   (if (sb a0 0) = 48 then
     pure (decide ((a0.size : Int) > 1))
    else
     pure false) >>= fun y4 =>
   pure y4) >>= fun y5 =>
 if y5 = true then
  pure (0, false)
 else
  Zci (fun s_ : (Int × Int) => Zbr.L1 a0 a1 a2 s_.1 s_.2) (0, 0)
theorem ZeW (a0 : ByteArray) (a1 : Int) (a2 : Int) : Ref Tryz.prog 51 [.string a0, .int .i64 a1, .int .i64 a2] (Zbr a0 a1 a2) Zbr.out := by
 refine J.Fn Tryz.func51 ?_
 unfold Zbr
 refine SJ.sr 2 <| J.z 2 <| SJ.seq <| SJ.sr 17 <| J.j 3 3 .bool ?_ ?_ fun y1 => ?_
 ·exact J.e 4
 ·exact J.e 4
 refine J.g 1 <| OJ.join (b := y1) [8, 9, 10, 11, 12, 13, 14, 15, 16] [] [0, 1, 2, 26] (fun y5 => [(0, .string a0), (1, .int .i64 a1), (2, .int .i64 a2), (26, .bool y5)]) [] [] (t := 17) Iff.rfl (fun hp_ => ?_) (fun hp_ => ?_) (fun _ _ _ _ _ _ h_ => h_) fun y5 => ?_
 ·exact J.g 9 <| OJ.nil ⟨(Cov.mem Cov.nil), rfl, _, rfl, by kernel_rfl⟩
 ·refine J.t 1 fun hb2 hb3 => J.g 2 <| OJ.join (b := ((sb a0 0) == 48)) [12, 13, 14, 15] [16] [0, 1, 2, 17, 25] (fun y4 => [(0, .string a0), (1, .int .i64 a1), (2, .int .i64 a2), (17, .bool false), (25, .bool y4)]) [] [] (t := 21) beq_iff_eq (fun hp_ => ?_) (fun hp_ => ?_) (fun _ _ _ _ _ hq_ h_ => ⟨fun e_ he_ => (hq_ e_ he_).elim (fun h => h_.1 e_ h) (fun h => nomatch h), h_.2⟩) fun y4 => ?_
  ·exact J.g 4 <| OJ.nil ⟨(Cov.mem Cov.nil), rfl, _, rfl, by kernel_rfl⟩
  ·exact J.g 4 <| OJ.nil ⟨(Cov.mem Cov.nil), rfl, _, rfl, by kernel_rfl⟩
  exact J.g 1 <| OJ.nil ⟨(Cov.mem Cov.nil), rfl, _, rfl, by kernel_rfl⟩
 refine J.z 0 <| J.f ?_ ?_
 ·exact SJ.sr 2 <| J.z 2 <| J.r
 exact SJ.skip <| SJ.sr 1 <| J.z 1 <| SJ.seq <| SJ.sr 3 <| J.z 3 <| SJ.block (id := 0) <| J.L (Zbr.L1_ok a0 a1 a2)

/-! ### (*weir/rules.reader).number: function 29 -/
noncomputable def Zb7.out (r_ : Int) : Value := .int .i64 r_
noncomputable def Zb7 (a0 : (Option Addr)) (a1 : Int) (a2 : Int) : M Int :=
 Zcc a0 >>= fun r1 =>
 slot 48 >>= fun b2 =>
 Zbr r1.s a1 a2 >>= fun r3 =>
 nilck a0 >>= fun p4 =>
 ld (cI .i64) (Addr.add p4 19) >>= fun x5 =>
 (if x5 = 0 then
   pure (!r3.2)
  else
   pure false) >>= fun y6 =>
 if y6 = true then
  Za7 a0 162 r1.at_ >>= fun r8 =>
  pure r3.1
 else
  pure r3.1
theorem Zdy (a0 : (Option Addr)) (a1 : Int) (a2 : Int) : Ref Tryz.prog 29 [.pointer a0, .int .i64 a1, .int .i64 a2] (Zb7 a0 a1 a2) Zb7.out := by
 refine J.Fn Tryz.func29 ?_
 unfold Zb7
 refine SJ.sr 1 <| J.z 1 <| SJ.sr 4 <| J.C 1 F50 (Zdj _) fun r1 => J.a 0 Ty48 fun b2 => J.s 0 0 rfl Ty48 (Upd.w r1) <| J.z 0 <| SJ.sr 10 <| J.k 1 0 rfl Ty9 (Zbz _) <| J.C 2 F51 (ZeW _ _ _) fun r3 => J.z 5 <| SJ.seq <| SJ.sr 9 <| J.n 1 fun p4 => J.l 1 Ty29 fun x5 => J.j 2 2 .bool ?_ ?_ fun y6 => ?_
 ·exact J.e 3
 ·exact J.e 3
 refine J.z 0 <| J.f ?_ ?_
 ·exact SJ.rg 4 <| J.k 2 0 rfl Ty3 (Zb1 _) <| J.C 0 F14 (Zbt _ _ _) fun r8 => J.z 0 <| SJ.sr 2 <| J.z 2 <| J.r
 exact SJ.skip <| SJ.sr 2 <| J.z 2 <| J.r

/-! ### weir/rules.protoOf: function 52 -/
noncomputable def ZdF.out (r_ : (Int × Bool)) : Value := .tuple #[.int .i64 r_.1, .bool r_.2]
noncomputable def ZdF (a0 : ByteArray) : M (Int × Bool) :=
 if a0.toList = str1.toList then
  pure (6, true)
 else
  if a0.toList = str2.toList then
   pure (17, true)
  else
   if a0.toList = str3.toList then
    pure (1, true)
   else
    if a0.toList = str4.toList then
     pure (58, true)
    else
     pure (0, false)
theorem Zg8 (a0 : ByteArray) : Ref Tryz.prog 52 [.string a0] (ZdF a0) ZdF.out := by
 refine J.Fn Tryz.func52 ?_
 unfold ZdF
 refine SJ.sr 2 <| J.z 2 <| SJ.seq <| SJ.sr 1 <| J.z 1 <| SJ.block (id := 0) <| SJ.sr 2 <| J.z 2 <| J.f ?_ ?_
 ·exact SJ.sr 2 <| J.z 2 <| J.r
 refine SJ.sr 2 <| J.z 2 <| J.f ?_ ?_
 ·exact SJ.sr 2 <| J.z 2 <| J.r
 refine SJ.sr 2 <| J.z 2 <| J.f ?_ ?_
 ·exact SJ.sr 2 <| J.z 2 <| J.r
 refine SJ.sr 2 <| J.z 2 <| J.f ?_ ?_
 ·exact SJ.sr 2 <| J.z 2 <| J.r
 exact SJ.skip <| SJ.inBlock <| SJ.sr 2 <| J.z 2 <| J.r

/-! ### weir/rules.begins: function 30 -/
noncomputable def ZdH.out (r_ : Bool) : Value := .bool r_
noncomputable def ZdH (a0 : ZaK) : M Bool :=
 slot 48 >>= fun b1 =>
 ZdF a0.s >>= fun r2 =>
 (if r2.2 = true then
   pure true
  else
   pure (a0.s.toList == str5.toList)) >>= fun y3 =>
 pure y3
theorem Zhp (a0 : ZaK) : Ref Tryz.prog 30 [ZbB.val a0] (ZdH a0) ZdH.out := by
 refine J.Fn Tryz.func30 ?_
 unfold ZdH
 refine SJ.sr 2 <| J.b 0 ZbB a0 fun b1 => J.z 1 <| SJ.sr 8 <| J.k 1 0 rfl Ty9 (Zbz _) <| J.C 0 F52 (Zg8 _) fun r2 => J.z 5 <| SJ.sr 7 <| J.j 2 3 .bool ?_ ?_ fun y3 => ?_
 ·exact J.e 4
 ·exact J.k 1 0 rfl Ty9 (Zbz _) <| J.e 2
 exact J.z 1 <| J.r

/-! ### (*weir/rules.reader).proto: function 31 -/
noncomputable def Zcl.out (r_ : Unit) : Value := .tuple #[]
noncomputable def Zcl (a0 : (Option Addr)) (a1 : ZaK) : M Unit :=
 slot 48 >>= fun b1 =>
 nilck a0 >>= fun p2 =>
 ld (cI .i64) (Addr.add (Addr.add p2 3) 2) >>= fun x3 =>
 if x3 = 1 then
  Za7 a0 165 a1.at_ >>= fun r5 =>
  pure ()
 else
  ZdF a1.s >>= fun r6 =>
  if ¬ (r6.2 = true) then
   Zb7 a0 1 255 >>= fun r8 =>
   nilck a0 >>= fun p9 =>
   st (cI .i64) (Addr.add (Addr.add p9 3) 3) r8 >>= fun _ =>
   pure ()
  else
   nilck a0 >>= fun p10 =>
   st (cI .i64) (Addr.add (Addr.add p10 3) 3) r6.1 >>= fun _ =>
   pure ()
theorem Zfx (a0 : (Option Addr)) (a1 : ZaK) : Ref Tryz.prog 31 [.pointer a0, ZbB.val a1] (Zcl a0 a1) Zcl.out := by
 refine J.Fn Tryz.func31 ?_
 unfold Zcl
 refine SJ.sr 1 <| J.b 0 ZbB a1 fun b1 => J.z 0 <| SJ.seq <| SJ.sr 6 <| J.n 1 fun p2 => J.l 2 Ty3 fun x3 => J.z 1 <| J.f ?_ ?_
 ·exact SJ.sr 4 <| J.k 2 0 rfl Ty3 (Zb1 _) <| J.C 0 F14 (Zbt _ _ _) fun r5 => J.z 0 <| J.r
 refine SJ.skip <| SJ.sr 8 <| J.k 1 0 rfl Ty9 (Zbz _) <| J.C 0 F52 (Zg8 _) fun r6 => J.z 5 <| SJ.seq <| SJ.sr 2 <| J.z 2 <| J.f ?_ ?_
 ·exact SJ.rg 3 <| J.C 1 F29 (Zdy _ _ _) fun r8 => J.z 1 <| SJ.rg 6 <| J.n 2 fun p9 => J.w 2 Ty3 <| J.z 0 <| SJ.end_ rfl (Res.run (ys := []) .nil rfl)
 exact SJ.skip <| SJ.rg 6 <| J.n 2 fun p10 => J.w 2 Ty3 <| J.z 0 <| SJ.end_ rfl (Res.run (ys := []) .nil rfl)

/-! ### (*weir/rules.reader).head: function 11 -/
noncomputable def ZaC.B : Code := bod Tryz.f11
noncomputable def ZaC.cx : Fx := ⟨Tryz.prog, 11, Tryz.f11, none⟩
noncomputable def ZaC.out (r_ : Unit) : Value := .tuple #[]
noncomputable def ZaC.K1 (a0 : (Option Addr)) : M Unit :=
 ZaW a0 >>= fun r18 =>
 nilck a0 >>= fun p19 =>
 ld (cI .i64) (Addr.add p19 19) >>= fun x20 =>
 (if x20 ≠ 0 then
   pure true
  else
   pure (r18.s.toList == str7.toList)) >>= fun y21 =>
 if y21 = true then
  pure ()
 else
  ld cL ⟨1, 0, none⟩ >>= fun x22 =>
  Zau x22 r18.s >>= fun r23 =>
  nilck a0 >>= fun p24 =>
  st (cI .i64) (Addr.add (Addr.add p24 3) 2) (IntKind.wrap .i64 (r23 + 1)) >>= fun _ =>
  nilck a0 >>= fun p25 =>
  ld (cI .i64) (Addr.add (Addr.add p25 3) 2) >>= fun x26 =>
  (if x26 = 0 then
    ZdH r18 >>= fun r27 =>
    pure r27
   else
    pure false) >>= fun y28 =>
  if y28 = true then
   Zcl a0 r18 >>= fun r75 =>
   pure ()
  else
   nilck a0 >>= fun p76 =>
   ld (cI .i64) (Addr.add (Addr.add p76 3) 2) >>= fun x77 =>
   if x77 = 0 then
    Za7 a0 160 r18.at_ >>= fun r99 =>
    pure ()
   else
    draw >>= fun _ =>
    nilck a0 >>= fun p100 =>
    ld (cI .i64) (Addr.add (Addr.add p100 3) 2) >>= fun x101 =>
    (if x101 > 0 then
      nilck a0 >>= fun p102 =>
      ld (cI .i64) (Addr.add p102 1) >>= fun x103 =>
      nilck a0 >>= fun p104 =>
      ld cL p104 >>= fun x105 =>
      pure (decide (x103 < (x105.len : Int)))
     else
      pure false) >>= fun y106 =>
    (if y106 = true then
      nilck a0 >>= fun p107 =>
      ld cL p107 >>= fun x108 =>
      nilck a0 >>= fun p109 =>
      ld (cI .i64) (Addr.add p109 1) >>= fun x110 =>
      idx x108.a x108.len x110 2 >>= fun p111 =>
      ld ZbB p111 >>= fun x112 =>
      ZdH x112 >>= fun r113 =>
      pure r113
     else
      pure false) >>= fun y114 =>
    if y114 = true then
     ZaW a0 >>= fun r117 =>
     Zcl a0 r117 >>= fun r118 =>
     pure ()
    else
     pure ()
theorem ZaC.K1_ok (a0 : (Option Addr)) (r1 : ZaK) (b2 : Nat) :
  SJ ZaC.cx [.code (c2 (c2 (c2 (c2 ZaC.B))))] [(0, .pointer a0), (2, .pointer (some (pt b2 0)))] [(b2, ZbB.enc r1)] (ZaC.K1 a0) (rt ZaC.out) := by
 unfold ZaC.K1
 refine SJ.sr 3 <| J.C 1 F12 (Zdi _) fun r18 => J.s 0 0 rfl Ty48 (Upd.w r18) <| J.z 0 <| SJ.seq <| SJ.sr 10 <| J.n 1 fun p19 => J.l 1 Ty29 fun x20 => J.j 2 3 .bool ?_ ?_ fun y21 => ?_
 ·exact J.e 4
 ·exact J.k 1 0 rfl Ty9 (Zbz _) <| J.e 2
 refine J.z 0 <| J.f ?_ ?_
 ·exact J.r
 refine SJ.skip <| SJ.sr 10 <| J.l 1 Ty22 fun x22 => J.k 1 0 rfl Ty9 (Zbz _) <| J.C 0 F27 (Zdf _ _) fun r23 => J.n 1 fun p24 => J.w 2 Ty3 <| J.z 0 <| SJ.block (id := 0) <| SJ.sr 11 <| J.n 1 fun p25 => J.l 2 Ty3 fun x26 => J.j 2 2 .bool ?_ ?_ fun y28 => ?_
 ·exact J.k 0 0 rfl Ty48 (At.whole _) <| J.C 0 F30 (Zhp _) fun r27 => J.e 1
 ·exact J.e 3
 refine J.z 1 <| J.f ?_ ?_
 ·exact SJ.rg 3 <| J.k 1 0 rfl Ty48 (At.whole _) <| J.C 0 F31 (Zfx _ _) fun r75 => J.z 0 <| SJ.inBlock <| SJ.end_ rfl (Res.run (ys := []) .nil rfl)
 refine SJ.sr 7 <| J.n 1 fun p76 => J.l 2 Ty3 fun x77 => J.z 2 <| J.f ?_ ?_
 ·exact SJ.rg 4 <| J.k 2 0 rfl Ty3 (Zb1 _) <| J.C 0 F14 (Zbt _ _ _) fun r99 => J.z 0 <| SJ.inBlock <| SJ.end_ rfl (Res.run (ys := []) .nil rfl)
 refine SJ.seq <| J.R 32 Zdz <| J.n 1 fun p100 => J.l 2 Ty3 fun x101 => J.j 2 10 .bool ?_ ?_ fun y106 => ?_
 ·exact J.n 1 fun p102 => J.l 1 Ty3 fun x103 => J.n 1 fun p104 => J.l 1 Ty40 fun x105 => J.e 3
 ·exact J.e 11
 refine J.j 1 11 .bool ?_ ?_ fun y114 => ?_
 ·exact J.n 1 fun p107 => J.l 1 Ty40 fun x108 => J.n 1 fun p109 => J.l 1 Ty3 fun x110 => J.i 0 fun p111 => J.l 0 Ty48 fun x112 => J.C 0 F30 (Zhp _) fun r113 => J.e 1
 ·exact J.e 12
 refine J.z 1 <| J.f ?_ ?_
 ·exact SJ.rg 4 <| J.C 2 F12 (Zdi _) fun r117 => J.C 0 F31 (Zfx _ _) fun r118 => J.z 0 <| SJ.inBlock <| SJ.end_ rfl (Res.run (ys := []) .nil rfl)
 exact SJ.skip <| SJ.inBlock <| SJ.end_ rfl (Res.run (ys := []) .nil rfl)
noncomputable def ZaC.K2 (a0 : (Option Addr)) : M Unit :=
 nilck a0 >>= fun p12 =>
 ld (cI .i64) (Addr.add p12 3) >>= fun x13 =>
 (if x13 = 1 then
   Zbw a0 str6 >>= fun r14 =>
   pure r14
  else
   pure false) >>= fun y15 =>
 if y15 = true then
  Zb7 a0 0 7 >>= fun r123 =>
  nilck a0 >>= fun p124 =>
  st (cI .i64) (Addr.add (Addr.add p124 3) 1) r123 >>= fun _ =>
  ZaC.K1 a0
 else
  ZaC.K1 a0
theorem ZaC.K2_ok (a0 : (Option Addr)) (r1 : ZaK) (b2 : Nat) :
  SJ ZaC.cx [.code (c2 (c2 (c2 ZaC.B)))] [(0, .pointer a0), (2, .pointer (some (pt b2 0)))] [(b2, ZbB.enc r1)] (ZaC.K2 a0) (rt ZaC.out) := by
 unfold ZaC.K2
 refine SJ.seq <| SJ.sr 10 <| J.n 1 fun p12 => J.l 2 Ty3 fun x13 => J.j 2 2 .bool ?_ ?_ fun y15 => ?_
 ·exact J.C 1 F28 (Zcz _ _) fun r14 => J.e 1
 ·exact J.e 3
 refine J.z 0 <| J.f ?_ ?_
 ·exact SJ.rg 7 <| J.C 2 F29 (Zdy _ _ _) fun r123 => J.n 0 fun p124 => J.w 2 Ty3 <| J.z 0 <| J.q <| ZaC.K1_ok a0 r1 b2
 exact SJ.skip <| J.q <| ZaC.K1_ok a0 r1 b2
noncomputable def ZaC (a0 : (Option Addr)) : M Unit :=
 ZaW a0 >>= fun r1 =>
 slot 48 >>= fun b2 =>
 ld cL ⟨0, 0, none⟩ >>= fun x3 =>
 Zau x3 r1.s >>= fun r4 =>
 nilck a0 >>= fun p5 =>
 st (cI .i64) (Addr.add p5 3) (IntKind.wrap .i64 (r4 + 1)) >>= fun _ =>
 nilck a0 >>= fun p6 =>
 ld (cI .i64) (Addr.add p6 19) >>= fun x7 =>
 (if x7 = 0 then
   nilck a0 >>= fun p8 =>
   ld (cI .i64) (Addr.add p8 3) >>= fun x9 =>
   pure (x9 == 0)
  else
   pure false) >>= fun y10 =>
 if y10 = true then
  Za7 a0 160 r1.at_ >>= fun r126 =>
  ZaC.K2 a0
 else
  ZaC.K2 a0
theorem Zh1 (a0 : (Option Addr)) : Ref Tryz.prog 11 [.pointer a0] (ZaC a0) ZaC.out := by
 refine J.Fn Tryz.func11 ?_
 unfold ZaC
 refine SJ.sr 4 <| J.C 1 F12 (Zdi _) fun r1 => J.a 0 Ty48 fun b2 => J.s 0 0 rfl Ty48 (Upd.w r1) <| J.z 0 <| SJ.sr 10 <| J.l 1 Ty22 fun x3 => J.k 1 0 rfl Ty9 (Zbz _) <| J.C 0 F27 (Zdf _ _) fun r4 => J.n 1 fun p5 => J.w 2 Ty3 <| J.z 0 <| SJ.seq <| SJ.sr 13 <| J.n 1 fun p6 => J.l 1 Ty29 fun x7 => J.j 2 6 .bool ?_ ?_ fun y10 => ?_
 ·exact J.n 1 fun p8 => J.l 2 Ty3 fun x9 => J.e 2
 ·exact J.e 7
 refine J.z 0 <| J.f ?_ ?_
 ·exact SJ.rg 4 <| J.k 2 0 rfl Ty3 (Zb1 _) <| J.C 0 F14 (Zbt _ _ _) fun r126 => J.z 0 <| J.q <| ZaC.K2_ok a0 r1 b2
 exact SJ.skip <| J.q <| ZaC.K2_ok a0 r1 b2

/-! ### weir/rules.typed: function 13 -/
noncomputable def Zd8.out (r_ : Bool) : Value := .bool r_
noncomputable def Zd8 (a0 : Int) : M Bool :=
 (if a0 = 1 then
   pure true
  else
   pure (a0 == 58)) >>= fun y1 =>
 pure y1
theorem Zh7 (a0 : Int) : Ref Tryz.prog 13 [.int .i64 a0] (Zd8 a0) Zd8.out := by
 refine J.Fn Tryz.func13 ?_
 unfold Zd8
 refine SJ.sr 1 <| J.z 1 <| SJ.sr 7 <| J.j 3 2 .bool ?_ ?_ fun y1 => ?_
 ·exact J.e 3
 ·exact J.e 3
 exact J.z 1 <| J.r

/-! ### internal/stringslite.HasPrefix: function 85 -/
noncomputable def Zce.out (r_ : Bool) : Value := .bool r_
noncomputable def Zce (a0 : ByteArray) (a1 : ByteArray) : M Bool :=
 (if (a0.size : Int) ≥ (a1.size : Int) then
   chk (0 ≤ (0 : Int) ∧ (0 : Int) ≤ (a1.size : Int) ∧ (a1.size : Int) ≤ (a0.size : Int)) >>= fun _ =>
   pure ((ByteArray.extract a0 (Int.toNat 0) (Int.toNat (a1.size : Int))).toList == a1.toList)
  else
   pure false) >>= fun y1 =>
 pure y1
theorem ZeL (a0 : ByteArray) (a1 : ByteArray) : Ref Tryz.prog 85 [.string a0, .string a1] (Zce a0 a1) Zce.out := by
 refine J.Fn Tryz.func85 ?_
 unfold Zce
 refine SJ.sr 1 <| J.z 1 <| SJ.sr 14 <| J.j 6 6 .bool ?_ ?_ fun y1 => ?_
 ·exact J.ct 3 <| J.e 3
 ·exact J.e 7
 exact J.z 1 <| J.r

/-! ### internal/stringslite.CutPrefix: function 68 -/
noncomputable def ZcJ.out (r_ : (ByteArray × Bool)) : Value := .tuple #[.string r_.1, .bool r_.2]
noncomputable def ZcJ (a0 : ByteArray) (a1 : ByteArray) : M (ByteArray × Bool) :=
 Zce a0 a1 >>= fun r1 =>
 if ¬ (r1 = true) then
  pure (a0, false)
 else
  chk (0 ≤ ((a1.size : Int) : Int) ∧ ((a1.size : Int) : Int) ≤ (a0.size : Int) ∧ (a0.size : Int) ≤ (a0.size : Int)) >>= fun _ =>
  pure ((ByteArray.extract a0 (Int.toNat (a1.size : Int)) (Int.toNat (a0.size : Int))), true)
theorem ZgA (a0 : ByteArray) (a1 : ByteArray) : Ref Tryz.prog 68 [.string a0, .string a1] (ZcJ a0 a1) ZcJ.out := by
 refine J.Fn Tryz.func68 ?_
 unfold ZcJ
 refine SJ.sr 2 <| J.z 2 <| SJ.seq <| SJ.sr 4 <| J.C 2 F85 (ZeL _ _) fun r1 => J.z 1 <| J.f ?_ ?_
 ·exact SJ.sr 3 <| J.z 3 <| J.r
 exact SJ.skip <| SJ.sr 6 <| J.ct 3 <| J.z 2 <| J.r

/-! ### strings.CutPrefix: function 53 -/
noncomputable def Zco.out (r_ : (ByteArray × Bool)) : Value := .tuple #[.string r_.1, .bool r_.2]
noncomputable def Zco (a0 : ByteArray) (a1 : ByteArray) : M (ByteArray × Bool) :=
 ZcJ a0 a1 >>= fun r1 =>
 pure (r1.1, r1.2)
theorem ZfG (a0 : ByteArray) (a1 : ByteArray) : Ref Tryz.prog 53 [.string a0, .string a1] (Zco a0 a1) Zco.out := by
 refine J.Fn Tryz.func53 ?_
 unfold Zco
 exact SJ.sr 2 <| J.z 2 <| SJ.sr 7 <| J.C 2 F68 (ZgA _ _) fun r1 => J.z 4 <| J.r

/-! ### (*weir/rules.reader).port: function 32 -/
noncomputable def ZcX.out (r_ : Int) : Value := .int .i64 r_
noncomputable def ZcX (a0 : (Option Addr)) : M Int :=
 Zcc a0 >>= fun r1 =>
 slot 48 >>= fun b2 =>
 Zco r1.s str8 >>= fun r3 =>
 Zbr r3.1 0 7 >>= fun r4 =>
 nilck a0 >>= fun p5 =>
 ld (cI .i64) (Addr.add p5 19) >>= fun x6 =>
 (if x6 = 0 then
   (if ¬ (r3.2 = true) then
     pure true
    else
     pure (!r4.2)) >>= fun y7 =>
   pure y7
  else
   pure false) >>= fun y8 =>
 if y8 = true then
  Za7 a0 162 r1.at_ >>= fun r10 =>
  pure r4.1
 else
  pure r4.1
theorem Zh0 (a0 : (Option Addr)) : Ref Tryz.prog 32 [.pointer a0] (ZcX a0) ZcX.out := by
 refine J.Fn Tryz.func32 ?_
 unfold ZcX
 refine SJ.sr 1 <| J.z 1 <| SJ.sr 4 <| J.C 1 F50 (Zdj _) fun r1 => J.a 0 Ty48 fun b2 => J.s 0 0 rfl Ty48 (Upd.w r1) <| J.z 0 <| SJ.sr 8 <| J.k 1 0 rfl Ty9 (Zbz _) <| J.C 0 F53 (ZfG _ _) fun r3 => J.z 5 <| SJ.sr 7 <| J.C 1 F51 (ZeW _ _ _) fun r4 => J.z 5 <| SJ.seq <| SJ.sr 13 <| J.n 1 fun p5 => J.l 1 Ty29 fun x6 => J.g 2 <| OJ.join (b := (x6 == 0)) [6, 7, 8, 9, 10, 11, 12] [] [0, 3, 6, 33] (fun y8 => [(0, .pointer a0), (3, .pointer (some (pt b2 0))), (6, .int .i64 r4.1), (33, .bool y8)]) [] [] (t := 26) beq_iff_eq (fun hp_ => ?_) (fun hp_ => ?_) (fun _ _ _ _ _ _ h_ => h_) fun y8 => ?_
 ·refine J.g 3 <| OJ.join (b := (!r3.2)) [9, 10, 11] [12] [0, 3, 6, 26, 32] (fun y7 => [(0, .pointer a0), (3, .pointer (some (pt b2 0))), (6, .int .i64 r4.1), (26, .bool true), (32, .bool y7)]) [] [] (t := 29) (Zmv Iff.rfl) (fun hp_ => ?_) (fun hp_ => ?_) (fun _ _ _ _ _ hq_ h_ => ⟨fun e_ he_ => (hq_ e_ he_).elim (fun h => h_.1 e_ h) (fun h => nomatch h), h_.2⟩) fun y7 => ?_
  ·exact J.g 3 <| OJ.nil ⟨(Cov.mem Cov.nil), rfl, _, rfl, by kernel_rfl⟩
  ·exact J.g 3 <| OJ.nil ⟨(Cov.mem Cov.nil), rfl, _, rfl, by kernel_rfl⟩
  exact J.g 1 <| OJ.nil ⟨(Cov.mem Cov.nil), rfl, _, rfl, by kernel_rfl⟩
 ·exact J.g 7 <| OJ.nil ⟨(Cov.mem Cov.nil), rfl, _, rfl, by kernel_rfl⟩
 refine J.z 0 <| J.f ?_ ?_
 ·exact SJ.rg 4 <| J.k 2 0 rfl Ty3 (Zb1 _) <| J.C 0 F14 (Zbt _ _ _) fun r10 => J.z 0 <| SJ.sr 2 <| J.z 2 <| J.r
 exact SJ.skip <| SJ.sr 2 <| J.z 2 <| J.r

/-! ### internal/stringslite.IndexByte: function 127 -/
noncomputable def ZcH.out (r_ : Int) : Value := .int .i64 r_
noncomputable def ZcH (a0 : ByteArray) (a1 : Int) : M Int :=
 idxB a0 a1 >>= fun r1 =>
 pure r1
theorem Zgz (a0 : ByteArray) (a1 : Int) : Ref Tryz.prog 127 [.string a0, .int .u8 a1] (ZcH a0 a1) ZcH.out := by
 refine J.Fn Tryz.func127 ?_
 unfold ZcH
 exact SJ.sr 1 <| J.z 1 <| SJ.sr 4 <| J.g 2 <| OJ.ext (d := 7) (g := 143) (ats := #[9, 5]) (args := [.tmp 5, .tmp 6]) (out := fun r => .int .i64 r) (owed := []) Tryz.func143 Zr2 fun r1 => OW.nil <| J.z 1 <| J.r

/-! ### internal/stringslite.Index: function 107 -/
noncomputable def ZcI.out (r_ : Int) : Value := .int .i64 r_
noncomputable def ZcI (a0 : ByteArray) (a1 : ByteArray) : M Int :=
 (if (a1.size : Int) = 0 then
   pure true
  else
   pure (a1.toList == a0.toList)) >>= fun y1 =>
 if y1 = true then
  pure 0
 else
  if (a1.size : Int) = 1 then
   chk ((0 : Int) ≤ 0 ∧ 0 < (a1.size : Int)) >>= fun _ =>
   ZcH a0 (sb a1 0) >>= fun r14 =>
   pure r14
  else
   fail
theorem ZfF (a0 : ByteArray) (a1 : ByteArray) : Ref Tryz.prog 107 [.string a0, .string a1] (ZcI a0 a1) ZcI.out := by
 refine J.Fn Tryz.func107 ?_
 unfold ZcI
 refine SJ.sr 1 <| J.z 1 <| SJ.sr 3 <| J.z 3 <| SJ.seq <| SJ.block (id := 0) <| SJ.sr 8 <| J.j 3 3 .bool ?_ ?_ fun y1 => ?_
 ·exact J.e 4
 ·exact J.e 4
 refine J.z 1 <| J.f ?_ ?_
 ·exact SJ.sr 1 <| J.z 1 <| J.r
 refine SJ.sr 3 <| J.z 3 <| J.f ?_ ?_
 ·exact SJ.sr 5 <| J.t 2 fun hb12 hb13 => J.C 0 F127 (Zgz _ _) fun r14 => J.z 1 <| J.r
 exact SJ.fail

/-! ### internal/stringslite.Cut: function 89 -/
noncomputable def Zdr.out (r_ : (ByteArray × ByteArray × Bool)) : Value := .tuple #[.string r_.1, .string r_.2.1, .bool r_.2.2]
noncomputable def Zdr (a0 : ByteArray) (a1 : ByteArray) : M (ByteArray × ByteArray × Bool) :=
 ZcI a0 a1 >>= fun r1 =>
 if r1 ≥ 0 then
  draw >>= fun _ =>
  chk (0 ≤ (0 : Int) ∧ (0 : Int) ≤ r1 ∧ r1 ≤ (a0.size : Int)) >>= fun _ =>
  chk (0 ≤ ((IntKind.wrap .i64 (r1 + (a1.size : Int))) : Int) ∧ ((IntKind.wrap .i64 (r1 + (a1.size : Int))) : Int) ≤ (a0.size : Int) ∧ (a0.size : Int) ≤ (a0.size : Int)) >>= fun _ =>
  pure ((ByteArray.extract a0 (Int.toNat 0) (Int.toNat r1)), (ByteArray.extract a0 (Int.toNat (IntKind.wrap .i64 (r1 + (a1.size : Int)))) (Int.toNat (a0.size : Int))), true)
 else
  pure (a0, ByteArray.empty, false)
theorem ZiJ (a0 : ByteArray) (a1 : ByteArray) : Ref Tryz.prog 89 [.string a0, .string a1] (Zdr a0 a1) Zdr.out := by
 refine J.Fn Tryz.func89 ?_
 unfold Zdr
 refine SJ.sr 3 <| J.z 3 <| SJ.seq <| SJ.sr 4 <| J.C 2 F107 (ZfF _ _) fun r1 => J.z 1 <| SJ.sr 2 <| J.z 2 <| J.f ?_ ?_
 ·exact SJ.seq <| J.R 12 Zdz <| J.ct 2 <| J.ct 5 <| J.z 3 <| J.r
 exact SJ.skip <| SJ.sr 4 <| J.z 4 <| J.r

/-! ### strings.Cut: function 71 -/
noncomputable def Zds.out (r_ : (ByteArray × ByteArray × Bool)) : Value := .tuple #[.string r_.1, .string r_.2.1, .bool r_.2.2]
noncomputable def Zds (a0 : ByteArray) (a1 : ByteArray) : M (ByteArray × ByteArray × Bool) :=
 Zdr a0 a1 >>= fun r1 =>
 pure (r1.1, r1.2.1, r1.2.2)
theorem Zh6 (a0 : ByteArray) (a1 : ByteArray) : Ref Tryz.prog 71 [.string a0, .string a1] (Zds a0 a1) Zds.out := by
 refine J.Fn Tryz.func71 ?_
 unfold Zds
 exact SJ.sr 3 <| J.z 3 <| SJ.sr 9 <| J.C 2 F89 (ZiJ _ _) fun r1 => J.z 6 <| J.r

/-! ### strings.Index: function 124 -/
noncomputable def Zeu.out (r_ : Int) : Value := .int .i64 r_
noncomputable def Zeu (a0 : ByteArray) (a1 : ByteArray) : M Int :=
 ZcI a0 a1 >>= fun r1 =>
 pure r1
theorem ZjX (a0 : ByteArray) (a1 : ByteArray) : Ref Tryz.prog 124 [.string a0, .string a1] (Zeu a0 a1) Zeu.out := by
 refine J.Fn Tryz.func124 ?_
 unfold Zeu
 exact SJ.sr 1 <| J.z 1 <| SJ.sr 4 <| J.C 2 F107 (ZfF _ _) fun r1 => J.z 1 <| J.r

/-! ### strings.Contains: function 101 -/
noncomputable def Zde.out (r_ : Bool) : Value := .bool r_
noncomputable def Zde (a0 : ByteArray) (a1 : ByteArray) : M Bool :=
 Zeu a0 a1 >>= fun r1 =>
 pure (decide (r1 ≥ 0))
theorem Zig (a0 : ByteArray) (a1 : ByteArray) : Ref Tryz.prog 101 [.string a0, .string a1] (Zde a0 a1) Zde.out := by
 refine J.Fn Tryz.func101 ?_
 unfold Zde
 exact SJ.sr 1 <| J.z 1 <| SJ.sr 5 <| J.C 2 F124 (ZjX _ _) fun r1 => J.z 2 <| J.r

/-! ### weir/addr.missing: function 106 -/
noncomputable def ZdL.out (r_ : (Option Addr)) : Value := .pointer r_
noncomputable def ZdL (a0 : ByteArray) (a1 : Int) : M (Option Addr) :=
 if a1 = (a0.size : Int) then
  newv 143 ZbM (⟨42, a1⟩ : Zb8) >>= fun b2 =>
  pure (some (pt b2 0))
 else
  newv 143 ZbM (⟨41, a1⟩ : Zb8) >>= fun b3 =>
  pure (some (pt b3 0))
theorem ZfZ (a0 : ByteArray) (a1 : Int) : Ref Tryz.prog 106 [.string a0, .int .i64 a1] (ZdL a0 a1) ZdL.out := by
 refine J.Fn Tryz.func106 ?_
 unfold ZdL
 refine SJ.sr 1 <| J.z 1 <| SJ.seq <| SJ.sr 4 <| J.z 4 <| J.f ?_ ?_
 ·exact SJ.sr 4 <| J.u 1 Zi6 (.f 0 (ZbP _ 42) (.f 1 (ZbQ _ a1) .nil)) <| J.B 0 fun b2 => J.z 1 <| J.r
 exact SJ.skip <| SJ.sr 4 <| J.u 1 Zi6 (.f 0 (ZbP _ 41) (.f 1 (ZbQ _ a1) .nil)) <| J.B 0 fun b3 => J.z 1 <| J.r

/-! ### weir/addr.digit: function 105 -/
noncomputable def ZeP.out (r_ : Bool) : Value := .bool r_
noncomputable def ZeP (a0 : Int) : M Bool :=
 (if a0 ≥ 48 then
   pure (decide (a0 ≤ 57))
  else
   pure false) >>= fun y1 =>
 pure y1
theorem Zi5 (a0 : Int) : Ref Tryz.prog 105 [.int .u8 a0] (ZeP a0) ZeP.out := by
 refine J.Fn Tryz.func105 ?_
 unfold ZeP
 refine SJ.sr 1 <| J.z 1 <| SJ.sr 7 <| J.j 3 2 .bool ?_ ?_ fun y1 => ?_
 ·exact J.e 3
 ·exact J.e 3
 exact J.z 1 <| J.r

/-! ### weir/addr.number: function 87 -/
noncomputable def Za2.B : Code := bod Tryz.f87
noncomputable def Za2.cx : Fx := ⟨Tryz.prog, 87, Tryz.f87, none⟩
noncomputable def Za2.out (r_ : (Int × Int × (Option Addr))) : Value := .tuple #[.int .i64 r_.1, .int .i64 r_.2.1, .pointer r_.2.2]
noncomputable def Za2.F1 (a0 : ByteArray) (a1 : Int) (a2 : Int) (a3 : Int) (s1 : Int) : LF (Int × Int) (Int × Int × (Option Addr)) := ⟨[.inBlock 2, .code (c2 (c2 (c2 (c2 (c2 (c2 (c2 Za2.B)))))))], c1 (c2 (c1 (c2 (c2 (c2 (c2 (c2 (c2 Za2.B)))))))), fun s_ => [(0, .string a0), (1, .int .i64 a1), (2, .int .i64 a2), (3, .int .i64 a3), (11, .int .i64 s1), (12, .int .i64 s_.1), (13, .int .i64 s_.2)], fun s_ => [], (rt Za2.out)⟩
noncomputable def Za2.L1 (a0 : ByteArray) (a1 : Int) (a2 : Int) (a3 : Int) (s1 : Int) (s15 : Int) (s16 : Int) : M (LS (Int × Int) (Int × Int × (Option Addr))) :=
 if s16 < s1 then
  chk ((0 : Int) ≤ s16 ∧ s16 < (a0.size : Int)) >>= fun _ =>
  pure (LS.next (IntKind.wrap .i64 ((IntKind.wrap .i64 (10 * s15)) + (IntKind.wrap .i64 (IntKind.wrap .u8 ((sb a0 s16) - 48)))), IntKind.wrap .i64 (s16 + 1)))
 else
  if s15 > a2 then
   newv 143 ZbM (⟨a3, a1⟩ : Zb8) >>= fun b26 =>
   pure (LS.done (0, 0, (some (pt b26 0))))
  else
   pure (LS.done (s15, s1, none))
theorem Za2.L1_ok (a0 : ByteArray) (a1 : Int) (a2 : Int) (a3 : Int) (s1 : Int) : LJ Za2.cx (Za2.F1 a0 a1 a2 a3 s1) (fun s_ => Za2.L1 a0 a1 a2 a3 s1 s_.1 s_.2) := by
 rintro ⟨s15, s16⟩
 show SJ _ _ _ _ (Za2.L1 a0 a1 a2 a3 s1 s15 s16) _
 unfold Za2.L1
 refine SJ.seq <| SJ.sr 3 <| J.z 3 <| J.f ?_ ?_
 ·exact SJ.skip <| SJ.seq <| SJ.block (id := 3) <| SJ.rg 9 <| J.t 4 fun hb23 hb24 => J.z 4 <| SJ.inBlock <| SJ.rg 3 <| J.z 3 <| J.o rfl
 refine SJ.exit (id := 2) (by rfl) <| SJ.seq <| SJ.sr 3 <| J.z 3 <| J.f ?_ ?_
 ·exact SJ.sr 7 <| J.u 2 Zi6 (.f 0 (ZbP _ a3) (.f 1 (ZbQ _ a1) .nil)) <| J.B 0 fun b26 => J.z 3 <| J.r
 exact SJ.skip <| SJ.sr 5 <| J.z 5 <| J.r
noncomputable def Za2.K1 (a0 : ByteArray) (a1 : Int) (a2 : Int) (a3 : Int) (s1 : Int) : M (Int × Int × (Option Addr)) :=
 if s1 = a1 then
  ZdL a0 a1 >>= fun r8 =>
  pure (0, 0, r8)
 else
  (if (IntKind.wrap .i64 (s1 - a1)) > 3 then
    pure true
   else
    (if (IntKind.wrap .i64 (s1 - a1)) > 1 then
      chk ((0 : Int) ≤ a1 ∧ a1 < (a0.size : Int)) >>= fun _ =>
      pure ((sb a0 a1) == 48)
     else
      pure false) >>= fun y11 =>
    pure y11) >>= fun y12 =>
  if y12 = true then
   newv 143 ZbM (⟨a3, a1⟩ : Zb8) >>= fun b14 =>
   pure (0, 0, (some (pt b14 0)))
  else
   Zci (fun s_ : (Int × Int) => Za2.L1 a0 a1 a2 a3 s1 s_.1 s_.2) (0, a1)
theorem Za2.K1_ok (a0 : ByteArray) (a1 : Int) (a2 : Int) (a3 : Int) (s1 : Int) :
  SJ Za2.cx [.code (c2 (c2 (c2 Za2.B)))] [(0, .string a0), (1, .int .i64 a1), (2, .int .i64 a2), (3, .int .i64 a3), (11, .int .i64 s1)] [] (Za2.K1 a0 a1 a2 a3 s1) (rt Za2.out) := by
 unfold Za2.K1
 refine SJ.seq <| SJ.sr 3 <| J.z 3 <| J.f ?_ ?_
 ·exact SJ.sr 6 <| J.C 2 F106 (ZfZ _ _) fun r8 => J.z 3 <| J.r
 refine SJ.skip <| SJ.seq <| SJ.sr 16 <| J.g 5 <| OJ.join (b := decide ((IntKind.wrap .i64 (s1 - a1)) > 3)) [5, 6, 7, 8, 9, 10, 11, 12, 13, 14, 15] [] [0, 1, 2, 3, 11, 48] (fun y12 => [(0, .string a0), (1, .int .i64 a1), (2, .int .i64 a2), (3, .int .i64 a3), (11, .int .i64 s1), (48, .bool y12)]) [] [] (t := 37) decide_eq_true_iff (fun hp_ => ?_) (fun hp_ => ?_) (fun _ _ _ _ _ _ h_ => h_) fun y12 => ?_
 ·exact J.g 11 <| OJ.nil ⟨(Cov.mem Cov.nil), rfl, _, rfl, by kernel_rfl⟩
 ·refine J.g 5 <| OJ.join (b := decide ((IntKind.wrap .i64 (s1 - a1)) > 1)) [10, 11, 12, 13, 14] [15] [0, 1, 2, 3, 11, 37, 47] (fun y11 => [(0, .string a0), (1, .int .i64 a1), (2, .int .i64 a2), (3, .int .i64 a3), (11, .int .i64 s1), (37, .bool false), (47, .bool y11)]) [] [] (t := 42) decide_eq_true_iff (fun hp_ => ?_) (fun hp_ => ?_) (fun _ _ _ _ _ hq_ h_ => ⟨fun e_ he_ => (hq_ e_ he_).elim (fun h => h_.1 e_ h) (fun h => nomatch h), h_.2⟩) fun y11 => ?_
  ·exact J.t 2 fun hb9 hb10 => J.g 2 <| OJ.nil ⟨(Cov.mem Cov.nil), rfl, _, rfl, by kernel_rfl⟩
  ·exact J.g 5 <| OJ.nil ⟨(Cov.mem Cov.nil), rfl, _, rfl, by kernel_rfl⟩
  exact J.g 1 <| OJ.nil ⟨(Cov.mem Cov.nil), rfl, _, rfl, by kernel_rfl⟩
 refine J.z 0 <| J.f ?_ ?_
 ·exact SJ.sr 7 <| J.u 2 Zi6 (.f 0 (ZbP _ a3) (.f 1 (ZbQ _ a1) .nil)) <| J.B 0 fun b14 => J.z 3 <| J.r
 exact SJ.skip <| SJ.sr 1 <| J.z 1 <| SJ.seq <| SJ.sr 2 <| J.z 2 <| SJ.block (id := 2) <| J.L (Za2.L1_ok a0 a1 a2 a3 s1)
noncomputable def Za2.F2 (a0 : ByteArray) (a1 : Int) (a2 : Int) (a3 : Int) : LF Int (Int × Int × (Option Addr)) := ⟨[.inBlock 0, .code (c2 (c2 (c2 Za2.B)))], c1 (c1 (c2 (c2 Za2.B))), fun s_ => [(0, .string a0), (1, .int .i64 a1), (2, .int .i64 a2), (3, .int .i64 a3), (11, .int .i64 s_)], fun s_ => [], (rt Za2.out)⟩
noncomputable def Za2.L2 (a0 : ByteArray) (a1 : Int) (a2 : Int) (a3 : Int) (s1 : Int) : M (LS Int (Int × Int × (Option Addr))) :=
 (if s1 < (a0.size : Int) then
   chk ((0 : Int) ≤ s1 ∧ s1 < (a0.size : Int)) >>= fun _ =>
   ZeP (sb a0 s1) >>= fun r33 =>
   pure r33
  else
   pure false) >>= fun y34 =>
 if y34 = true then
  pure (LS.next (IntKind.wrap .i64 (s1 + 1)))
 else
  (Za2.K1 a0 a1 a2 a3 s1) >>= fun b => pure (LS.done b)
theorem Za2.L2_ok (a0 : ByteArray) (a1 : Int) (a2 : Int) (a3 : Int) : LJ Za2.cx (Za2.F2 a0 a1 a2 a3) (fun s_ => Za2.L2 a0 a1 a2 a3 s_) := by
 rintro s1
 show SJ _ _ _ _ (Za2.L2 a0 a1 a2 a3 s1) _
 unfold Za2.L2
 refine SJ.seq <| SJ.sr 10 <| J.j 5 4 .bool ?_ ?_ fun y34 => ?_
 ·exact J.t 2 fun hb31 hb32 => J.C 0 F105 (Zi5 _) fun r33 => J.e 1
 ·exact J.e 5
 refine J.z 0 <| J.f ?_ ?_
 ·exact SJ.skip <| SJ.block (id := 1) <| SJ.rg 3 <| J.z 3 <| SJ.inBlock <| J.o rfl
 exact SJ.exit (id := 0) (by rfl) <| J.q <| SJ.done <| Za2.K1_ok a0 a1 a2 a3 s1
noncomputable def Za2 (a0 : ByteArray) (a1 : Int) (a2 : Int) (a3 : Int) : M (Int × Int × (Option Addr)) :=
 Zci (fun s_ : Int => Za2.L2 a0 a1 a2 a3 s_) a1
theorem Zib (a0 : ByteArray) (a1 : Int) (a2 : Int) (a3 : Int) : Ref Tryz.prog 87 [.string a0, .int .i64 a1, .int .i64 a2, .int .i64 a3] (Za2 a0 a1 a2 a3) Za2.out := by
 refine J.Fn Tryz.func87 ?_
 unfold Za2
 exact SJ.sr 3 <| J.z 3 <| SJ.sr 2 <| J.z 2 <| SJ.seq <| SJ.block (id := 0) <| J.L (Za2.L2_ok a0 a1 a2 a3)

/-! ### weir/addr.four: function 102 -/
noncomputable def Zbh.B : Code := bod Tryz.f102
noncomputable def Zbh.cx : Fx := ⟨Tryz.prog, 102, Tryz.f102, none⟩
noncomputable def Zbh.out (r_ : ((Vec Int 4) × (Option Addr))) : Value := .tuple #[((cI .u8).arr 4).val r_.1, .pointer r_.2]
noncomputable def Zbh.K1 (a0 : ByteArray) (s3 : Int) (s5 : (Vec Int 4)) : M ((Vec Int 4) × (Option Addr)) :=
 if s3 < (a0.size : Int) then
  newv 143 ZbM (⟨41, s3⟩ : Zb8) >>= fun b27 =>
  pure (s5, (some (pt b27 0)))
 else
  pure (s5, none)
theorem Zbh.K1_ok (a0 : ByteArray) (b1 : Nat) (b2 : Nat) (s3 : Int) (s5 : (Vec Int 4)) (s6 : (Vec Int 4)) :
  SJ Zbh.cx [.code (c2 (c2 (c2 Zbh.B)))] [(0, .string a0), (1, .int .i64 s3), (4, .pointer (some (pt b1 0))), (6, .pointer (some (pt b2 0)))] [(b2, ((cI .u8).arr 4).enc s5), (b1, ((cI .u8).arr 4).enc s6)] (Zbh.K1 a0 s3 s5) (rt Zbh.out) := by
 unfold Zbh.K1
 refine SJ.seq <| SJ.sr 4 <| J.z 4 <| J.f ?_ ?_
 ·exact SJ.sr 6 <| J.k 0 0 rfl Zg6 (At.whole _) <| J.u 1 Zi6 (.f 0 (ZbP _ 41) (.f 1 (ZbQ _ s3) .nil)) <| J.B 0 fun b27 => J.s 0 1 rfl Zg6 (Upd.w s5) <| J.z 1 <| J.rc (.c 1 rfl Zg6 .n)
 exact SJ.skip <| SJ.sr 3 <| J.k 0 0 rfl Zg6 (At.whole _) <| J.s 0 1 rfl Zg6 (Upd.w s5) <| J.z 1 <| J.rc (.c 1 rfl Zg6 .n)
noncomputable def Zbh.F1 (a0 : ByteArray) (b1 : Nat) (b2 : Nat) : LF (Int × Int × (Vec Int 4) × (Vec Int 4)) ((Vec Int 4) × (Option Addr)) := ⟨[.inBlock 0, .code (c2 (c2 (c2 Zbh.B)))], c1 (c2 (c1 (c2 (c2 Zbh.B)))), fun s_ => [(0, .string a0), (1, .int .i64 s_.1), (4, .pointer (some (pt b1 0))), (6, .pointer (some (pt b2 0))), (11, .int .i64 s_.2.1)], fun s_ => [(b2, ((cI .u8).arr 4).enc s_.2.2.1), (b1, ((cI .u8).arr 4).enc s_.2.2.2)], (rt Zbh.out)⟩
noncomputable def Zbh.K2 (a0 : ByteArray) (s4 : Int) (s5 : (Vec Int 4)) (s6 : (Vec Int 4)) (j35 : Int) : M (LS (Int × Int × (Vec Int 4) × (Vec Int 4)) ((Vec Int 4) × (Option Addr))) :=
 Za2 a0 j35 255 43 >>= fun r36 =>
 if ¬ (r36.2.2 = none) then
  pure (LS.done (s5, r36.2.2))
 else
  chk ((0 : Int) ≤ s4 ∧ s4 < (4 : Nat)) >>= fun _ =>
  pure (LS.next (r36.2.1, IntKind.wrap .i64 (s4 + 1), (Vec.s s5 s4 (IntKind.wrap .u8 r36.1)), s6))
theorem Zbh.K2_ok (a0 : ByteArray) (b1 : Nat) (b2 : Nat) (s4 : Int) (s5 : (Vec Int 4)) (s6 : (Vec Int 4)) (j35 : Int) :
  SJ Zbh.cx [.code (c2 (c2 (c1 (c1 (c2 (c2 (c1 (c1 (c2 (c1 (c2 (c2 Zbh.B)))))))))))), .inBlock 1, .code (c2 (c2 (c2 (c1 (c1 (c2 (c1 (c2 (c2 Zbh.B))))))))), .inLoop (c1 (c1 (c2 (c1 (c2 (c2 Zbh.B)))))), .inBlock 0, .code (c2 (c2 (c2 Zbh.B)))] [(0, .string a0), (1, .int .i64 j35), (4, .pointer (some (pt b1 0))), (6, .pointer (some (pt b2 0))), (11, .int .i64 s4), (7, .int .i64 s4)] [(b2, ((cI .u8).arr 4).enc s5), (b1, ((cI .u8).arr 4).enc s6)] (Zbh.K2 a0 s4 s5 s6 j35) (Zbh.F1 a0 b1 b2).f := by
 unfold Zbh.K2
 refine SJ.sr 10 <| J.C 2 F87 (Zib _ _ _ _) fun r36 => J.z 7 <| SJ.seq <| SJ.sr 2 <| J.z 2 <| J.f ?_ ?_
 ·exact SJ.sr 4 <| J.k 0 0 rfl Zg6 (At.whole _) <| J.s 1 1 rfl Zg6 (Upd.w s5) <| J.z 1 <| J.rc (.c 1 rfl Zg6 .n)
 exact SJ.skip <| SJ.sr 5 <| J.y 3 fun hb37 hb38 => J.s (u := (IntKind.wrap .u8 r36.1)) 0 0 rfl Ty5 (Upd.zero (Upd.arr hb37 hb38)) <| J.z 0 <| SJ.rg 2 <| J.z 2 <| SJ.inBlock <| SJ.rg 2 <| J.z 2 <| J.o rfl
noncomputable def Zbh.L1 (a0 : ByteArray) (s3 : Int) (s4 : Int) (s5 : (Vec Int 4)) (s6 : (Vec Int 4)) : M (LS (Int × Int × (Vec Int 4) × (Vec Int 4)) ((Vec Int 4) × (Option Addr))) :=
 if s4 < 4 then
  if s4 > 0 then
   (if s3 = (a0.size : Int) then
     pure true
    else
     chk ((0 : Int) ≤ s3 ∧ s3 < (a0.size : Int)) >>= fun _ =>
     pure ((sb a0 s3) != 46)) >>= fun y42 =>
   if y42 = true then
    draw >>= fun _ =>
    ZdL a0 s3 >>= fun r44 =>
    pure (LS.done (s5, r44))
   else
    Zbh.K2 a0 s4 s5 s6 (IntKind.wrap .i64 (s3 + 1))
  else
   Zbh.K2 a0 s4 s5 s6 s3
 else
  (Zbh.K1 a0 s3 s5) >>= fun b => pure (LS.done b)
theorem Zbh.L1_ok (a0 : ByteArray) (b1 : Nat) (b2 : Nat) : LJ Zbh.cx (Zbh.F1 a0 b1 b2) (fun s_ => Zbh.L1 a0 s_.1 s_.2.1 s_.2.2.1 s_.2.2.2) := by
 rintro ⟨s3, s4, s5, s6⟩
 show SJ _ _ _ _ (Zbh.L1 a0 s3 s4 s5 s6) _
 unfold Zbh.L1
 refine SJ.sr 1 <| J.z 1 <| SJ.seq <| J.f ?_ ?_
 ·refine SJ.skip <| SJ.seq <| SJ.block (id := 1) <| SJ.sr 2 <| J.z 2 <| SJ.seq <| SJ.sr 2 <| J.z 2 <| J.f ?_ ?_
  ·refine SJ.seq <| SJ.sr 10 <| J.j 5 4 .bool ?_ ?_ fun y42 => ?_
   ·exact J.e 5
   ·exact J.t 2 fun hb40 hb41 => J.e 2
   refine J.z 0 <| J.f ?_ ?_
   ·exact SJ.seq <| J.R 6 Zdz <| J.k 0 0 rfl Zg6 (At.whole _) <| J.g 2 <| OJ.call (d := 29) (g := 106) (ats := #[9, 3]) (args := [.tmp 27, .tmp 28]) (owed := [⟨0, 160, (pt b2 0), ((cI .u8).arr 4).val s5⟩]) F106 (ZfZ a0 s3) fun r44 => OW.known (j := 0) (q := s5) Zg6 rfl (At.whole _) <| OW.nil <| J.s 0 1 rfl Zg6 (Upd.w s5) <| J.z 1 <| J.rc (.c 1 rfl Zg6 .n)
   exact SJ.skip <| SJ.rg 3 <| J.z 3 <| J.q <| Zbh.K2_ok a0 b1 b2 s4 s5 s6 (IntKind.wrap .i64 (s3 + 1))
  exact SJ.skip <| J.q <| Zbh.K2_ok a0 b1 b2 s4 s5 s6 s3
 exact SJ.exit (id := 0) (by rfl) <| J.q <| SJ.done <| Zbh.K1_ok a0 b1 b2 s3 s5 s6
noncomputable def Zbh (a0 : ByteArray) (a1 : Int) : M ((Vec Int 4) × (Option Addr)) :=
 slot 160 >>= fun b1 =>
 slot 160 >>= fun b2 =>
 Zci (fun s_ : (Int × Int × (Vec Int 4) × (Vec Int 4)) => Zbh.L1 a0 s_.1 s_.2.1 s_.2.2.1 s_.2.2.2) (a1, 0, (Vec.rep 4 0), (Vec.rep 4 0))
theorem ZjV (a0 : ByteArray) (a1 : Int) : Ref Tryz.prog 102 [.string a0, .int .i64 a1] (Zbh a0 a1) Zbh.out := by
 refine J.Fn Tryz.func102 ?_
 unfold Zbh
 exact SJ.sr 2 <| J.a 0 Zg6 fun b1 => J.z 1 <| SJ.sr 1 <| J.a 0 Zg6 fun b2 => J.z 0 <| SJ.seq <| SJ.sr 1 <| J.z 1 <| SJ.block (id := 0) <| J.L (Zbh.L1_ok a0 b1 b2)

/-! ### strings.HasPrefix: function 140 -/
noncomputable def ZcW.out (r_ : Bool) : Value := .bool r_
noncomputable def ZcW (a0 : ByteArray) (a1 : ByteArray) : M Bool :=
 Zce a0 a1 >>= fun r1 =>
 pure r1
theorem ZhY (a0 : ByteArray) (a1 : ByteArray) : Ref Tryz.prog 140 [.string a0, .string a1] (ZcW a0 a1) ZcW.out := by
 refine J.Fn Tryz.func140 ?_
 unfold ZcW
 exact SJ.sr 1 <| J.z 1 <| SJ.sr 4 <| J.C 2 F85 (ZeL _ _) fun r1 => J.z 1 <| J.r

/-! ### (*weir/addr.six).double: function 125 -/
noncomputable def Zc9.out (r_ : (Bool × (Option Addr))) : Value := .tuple #[.bool r_.1, .pointer r_.2]
noncomputable def Zc9 (a0 : (Option Addr)) : M (Bool × (Option Addr)) :=
 draw >>= fun _ =>
 nilck a0 >>= fun p1 =>
 ld cS p1 >>= fun x2 =>
 nilck a0 >>= fun p3 =>
 ld (cI .i64) (Addr.add p3 1) >>= fun x4 =>
 chk (0 ≤ (x4 : Int) ∧ (x4 : Int) ≤ (x2.size : Int) ∧ (x2.size : Int) ≤ (x2.size : Int)) >>= fun _ =>
 ZcW (ByteArray.extract x2 (Int.toNat x4) (Int.toNat (x2.size : Int))) str9 >>= fun r5 =>
 if ¬ (r5 = true) then
  pure (false, none)
 else
  nilck a0 >>= fun p6 =>
  ld (cI .i64) (Addr.add p6 3) >>= fun x7 =>
  (if x7 ≥ 0 then
    pure true
   else
    nilck a0 >>= fun p8 =>
    ld cL (Addr.add p8 2) >>= fun x9 =>
    pure ((x9.len : Int) == 8)) >>= fun y10 =>
  if y10 = true then
   draw >>= fun _ =>
   nilck a0 >>= fun p14 =>
   ld (cI .i64) (Addr.add p14 1) >>= fun x15 =>
   newv 143 ZbM (⟨44, x15⟩ : Zb8) >>= fun b16 =>
   pure (false, (some (pt b16 0)))
  else
   nilck a0 >>= fun p17 =>
   ld cL (Addr.add p17 2) >>= fun x18 =>
   nilck a0 >>= fun p19 =>
   st (cI .i64) (Addr.add p19 3) (x18.len : Int) >>= fun _ =>
   nilck a0 >>= fun p20 =>
   ld (cI .i64) (Addr.add p20 1) >>= fun x21 =>
   nilck a0 >>= fun p22 =>
   st (cI .i64) (Addr.add p22 1) (IntKind.wrap .i64 (x21 + 2)) >>= fun _ =>
   pure (true, none)
theorem Zgh (a0 : (Option Addr)) : Ref Tryz.prog 125 [.pointer a0] (Zc9 a0) Zc9.out := by
 refine J.Fn Tryz.func125 ?_
 unfold Zc9
 refine SJ.sr 2 <| J.z 2 <| SJ.seq <| SJ.seq <| J.R 11 Zdz <| J.n 1 fun p1 => J.l 1 Ty9 fun x2 => J.n 1 fun p3 => J.l 1 Ty3 fun x4 => J.ct 0 <| J.C 0 F140 (ZhY _ _) fun r5 => J.z 1 <| J.f ?_ ?_
 ·exact SJ.sr 2 <| J.z 2 <| J.r
 refine SJ.skip <| SJ.seq <| SJ.sr 13 <| J.n 1 fun p6 => J.l 1 Ty3 fun x7 => J.j 2 6 .bool ?_ ?_ fun y10 => ?_
 ·exact J.e 7
 ·exact J.n 1 fun p8 => J.l 1 Zfo fun x9 => J.e 3
 refine J.z 0 <| J.f ?_ ?_
 ·exact SJ.seq <| J.R 8 Zdz <| J.n 1 fun p14 => J.l 1 Ty3 fun x15 => J.u 0 Zi6 (.f 0 (ZbP _ 44) (.f 1 (ZbQ _ x15) .nil)) <| J.B 0 fun b16 => J.z 2 <| J.r
 exact SJ.skip <| SJ.sr 9 <| J.n 2 fun p17 => J.l 1 Zfo fun x18 => J.n 1 fun p19 => J.w 1 Ty3 <| J.z 0 <| SJ.sr 8 <| J.n 1 fun p20 => J.l 1 Ty3 fun x21 => J.n 1 fun p22 => J.w 1 Ty3 <| J.z 0 <| SJ.sr 2 <| J.z 2 <| J.r

/-! ### weir/addr.hexa: function 141 -/
noncomputable def ZfA.out (r_ : Int) : Value := .int .i64 r_
noncomputable def ZfA (a0 : Int) : M Int :=
 ZeP a0 >>= fun r1 =>
 if r1 = true then
  pure (IntKind.wrap .i64 (IntKind.wrap .u8 (a0 - 48)))
 else
  (if a0 ≥ 97 then
    pure (decide (a0 ≤ 102))
   else
    pure false) >>= fun y8 =>
  if y8 = true then
   pure (IntKind.wrap .i64 ((IntKind.wrap .i64 (IntKind.wrap .u8 (a0 - 97))) + 10))
  else
   (if a0 ≥ 65 then
     pure (decide (a0 ≤ 70))
    else
     pure false) >>= fun y11 =>
   if y11 = true then
    pure (IntKind.wrap .i64 ((IntKind.wrap .i64 (IntKind.wrap .u8 (a0 - 65))) + 10))
   else
    pure (-1)
theorem ZjU (a0 : Int) : Ref Tryz.prog 141 [.int .u8 a0] (ZfA a0) ZfA.out := by
 refine J.Fn Tryz.func141 ?_
 unfold ZfA
 refine SJ.sr 1 <| J.z 1 <| SJ.seq <| SJ.block (id := 0) <| SJ.sr 3 <| J.C 1 F105 (Zi5 _) fun r1 => J.z 1 <| J.f ?_ ?_
 ·exact SJ.sr 4 <| J.z 4 <| J.r
 refine SJ.sr 7 <| J.j 3 2 .bool ?_ ?_ fun y8 => ?_
 ·exact J.e 3
 ·exact J.e 3
 refine J.z 1 <| J.f ?_ ?_
 ·exact SJ.sr 5 <| J.z 5 <| J.r
 refine SJ.sr 7 <| J.j 3 2 .bool ?_ ?_ fun y11 => ?_
 ·exact J.e 3
 ·exact J.e 3
 refine J.z 1 <| J.f ?_ ?_
 ·exact SJ.sr 5 <| J.z 5 <| J.r
 exact SJ.skip <| SJ.inBlock <| SJ.sr 1 <| J.z 1 <| J.r

/-! ### (*weir/addr.six).room: function 142 -/
noncomputable def ZdK.out (r_ : Int) : Value := .int .i64 r_
noncomputable def ZdK (a0 : (Option Addr)) : M Int :=
 nilck a0 >>= fun p1 =>
 ld (cI .i64) (Addr.add p1 3) >>= fun x2 =>
 if x2 ≥ 0 then
  nilck a0 >>= fun p5 =>
  ld cL (Addr.add p5 2) >>= fun x6 =>
  pure (IntKind.wrap .i64 (7 - (x6.len : Int)))
 else
  nilck a0 >>= fun p7 =>
  ld cL (Addr.add p7 2) >>= fun x8 =>
  pure (IntKind.wrap .i64 (8 - (x8.len : Int)))
theorem Zhb (a0 : (Option Addr)) : Ref Tryz.prog 142 [.pointer a0] (ZdK a0) ZdK.out := by
 refine J.Fn Tryz.func142 ?_
 unfold ZdK
 refine SJ.sr 1 <| J.z 1 <| SJ.seq <| SJ.sr 5 <| J.n 1 fun p1 => J.l 1 Ty3 fun x2 => J.z 1 <| J.f ?_ ?_
 ·exact SJ.sr 7 <| J.n 1 fun p5 => J.l 1 Zfo fun x6 => J.z 3 <| J.r
 exact SJ.skip <| SJ.sr 7 <| J.n 1 fun p7 => J.l 1 Zfo fun x8 => J.z 3 <| J.r

/-! ### (*weir/addr.six).group: function 126 -/
noncomputable def Za6.B : Code := bod Tryz.f126
noncomputable def Za6.cx : Fx := ⟨Tryz.prog, 126, Tryz.f126, none⟩
noncomputable def Za6.out (r_ : (Bool × (Option Addr))) : Value := .tuple #[.bool r_.1, .pointer r_.2]
noncomputable def Za6.K1 (a0 : (Option Addr)) (x2 : Int) (s3 : Int) (s4 : Int) : M (Bool × (Option Addr)) :=
 if s4 = x2 then
  nilck a0 >>= fun p22 =>
  ld cS p22 >>= fun x23 =>
  ZdL x23 x2 >>= fun r24 =>
  pure (false, r24)
 else
  nilck a0 >>= fun p25 =>
  ld cS p25 >>= fun x26 =>
  (if s4 < (x26.size : Int) then
    nilck a0 >>= fun p27 =>
    ld cS p27 >>= fun x28 =>
    chk ((0 : Int) ≤ s4 ∧ s4 < (x28.size : Int)) >>= fun _ =>
    pure ((sb x28 s4) == 46)
   else
    pure false) >>= fun y31 =>
  (if y31 = true then
    nilck a0 >>= fun p32 =>
    ld cL (Addr.add p32 2) >>= fun x33 =>
    (if (x33.len : Int) > 0 then
      pure true
     else
      nilck a0 >>= fun p34 =>
      ld (cI .i64) (Addr.add p34 3) >>= fun x35 =>
      pure (decide (x35 ≥ 0))) >>= fun y36 =>
    pure y36
   else
    pure false) >>= fun y37 =>
  if y37 = true then
   ZdK a0 >>= fun r51 =>
   if r51 < 2 then
    newv 143 ZbM (⟨44, x2⟩ : Zb8) >>= fun b53 =>
    pure (false, (some (pt b53 0)))
   else
    nilck a0 >>= fun p54 =>
    ld cS p54 >>= fun x55 =>
    Zbh x55 x2 >>= fun r56 =>
    slot 160 >>= fun b57 =>
    draw >>= fun _ =>
    nilck a0 >>= fun p58 =>
    ld cL (Addr.add p58 2) >>= fun x59 =>
    slot 3 >>= fun b60 =>
    same cL (Addr.add p58 2) x59 >>= fun _ =>
    appl (cI .i64) 3 8 0 x59 [bor .i64 (IntKind.wrap .i64 ((IntKind.wrap .i64 (Vec.g r56.1 0 0)) * 2 ^ 8)) (IntKind.wrap .i64 (Vec.g r56.1 1 0)), bor .i64 (IntKind.wrap .i64 ((IntKind.wrap .i64 (Vec.g r56.1 2 0)) * 2 ^ 8)) (IntKind.wrap .i64 (Vec.g r56.1 3 0))] >>= fun r61 =>
    nilck a0 >>= fun p62 =>
    st cL (Addr.add p62 2) r61 >>= fun _ =>
    pure (true, r56.2)
  else
   ZdK a0 >>= fun r64 =>
   if r64 < 1 then
    newv 143 ZbM (⟨44, x2⟩ : Zb8) >>= fun b66 =>
    pure (false, (some (pt b66 0)))
   else
    if (IntKind.wrap .i64 (s4 - x2)) > 4 then
     newv 143 ZbM (⟨43, x2⟩ : Zb8) >>= fun b68 =>
     pure (false, (some (pt b68 0)))
    else
     nilck a0 >>= fun p69 =>
     ld cL (Addr.add p69 2) >>= fun x70 =>
     slot 3 >>= fun b71 =>
     appl (cI .i64) 3 8 0 x70 [s3] >>= fun r72 =>
     nilck a0 >>= fun p73 =>
     st cL (Addr.add p73 2) r72 >>= fun _ =>
     nilck a0 >>= fun p74 =>
     st (cI .i64) (Addr.add p74 1) s4 >>= fun _ =>
     pure (false, none)
theorem Za6.K1_ok (a0 : (Option Addr)) (x2 : Int) (s3 : Int) (s4 : Int) :
  SJ Za6.cx [.code (c2 (c2 (c2 (c2 Za6.B))))] [(0, .pointer a0), (4, .int .i64 x2), (5, .int .i64 s3), (6, .int .i64 s4)] [] (Za6.K1 a0 x2 s3 s4) (rt Za6.out) := by
 unfold Za6.K1
 refine SJ.seq <| SJ.sr 3 <| J.z 3 <| J.f ?_ ?_
 ·exact SJ.sr 8 <| J.n 1 fun p22 => J.l 1 Ty9 fun x23 => J.C 1 F106 (ZfZ _ _) fun r24 => J.z 2 <| J.r
 refine SJ.skip <| SJ.seq <| SJ.sr 31 <| J.n 2 fun p25 => J.l 1 Ty9 fun x26 => J.j 3 7 .bool ?_ ?_ fun y31 => ?_
 ·exact J.n 1 fun p27 => J.l 1 Ty9 fun x28 => J.t 1 fun hb29 hb30 => J.e 2
 ·exact J.e 8
 refine J.g 1 <| OJ.join (b := y31) [17, 18, 19, 20, 21, 22, 23, 24, 25, 26, 27, 28, 29, 30] [] [0, 4, 5, 6, 83] (fun y37 => [(0, .pointer a0), (4, .int .i64 x2), (5, .int .i64 s3), (6, .int .i64 s4), (83, .bool y37)]) [] [] (t := 69) Iff.rfl (fun hp_ => ?_) (fun hp_ => ?_) (fun _ _ _ _ _ _ h_ => h_) fun y37 => ?_
 ·refine J.n 1 fun p32 => J.l 1 Zfo fun x33 => J.g 3 <| OJ.join (b := decide ((x33.len : Int) > 0)) [24, 25, 26, 27, 28, 29] [30] [0, 4, 5, 6, 69, 82] (fun y36 => [(0, .pointer a0), (4, .int .i64 x2), (5, .int .i64 s3), (6, .int .i64 s4), (69, .bool true), (82, .bool y36)]) [] [] (t := 76) decide_eq_true_iff (fun hp_ => ?_) (fun hp_ => ?_) (fun _ _ _ _ _ hq_ h_ => ⟨fun e_ he_ => (hq_ e_ he_).elim (fun h => h_.1 e_ h) (fun h => nomatch h), h_.2⟩) fun y36 => ?_
  ·exact J.g 6 <| OJ.nil ⟨(Cov.mem Cov.nil), rfl, _, rfl, by kernel_rfl⟩
  ·exact J.n 1 fun p34 => J.l 1 Ty3 fun x35 => J.g 2 <| OJ.nil ⟨(Cov.mem Cov.nil), rfl, _, rfl, by kernel_rfl⟩
  exact J.g 1 <| OJ.nil ⟨(Cov.mem Cov.nil), rfl, _, rfl, by kernel_rfl⟩
 ·exact J.g 14 <| OJ.nil ⟨(Cov.mem Cov.nil), rfl, _, rfl, by kernel_rfl⟩
 refine J.z 0 <| J.f ?_ ?_
 ·refine SJ.seq <| SJ.sr 3 <| J.C 1 F142 (Zhb _) fun r51 => J.z 1 <| J.f ?_ ?_
  ·exact SJ.sr 5 <| J.u 1 Zi6 (.f 0 (ZbP _ 44) (.f 1 (ZbQ _ x2) .nil)) <| J.B 0 fun b53 => J.z 2 <| J.r
  exact SJ.skip <| SJ.sr 12 <| J.n 1 fun p54 => J.l 1 Ty9 fun x55 => J.C 1 F102 (ZjV _ _) fun r56 => J.a 3 Zg6 fun b57 => J.s 0 0 rfl Zg6 (Upd.w r56.1) <| J.z 1 <| SJ.seq <| J.R 26 Zdz <| J.n 2 fun p58 => J.l 1 Zfo fun x59 => J.k 1 0 rfl Ty5 (At.zero (At.arr (z := 0) (i := 0) (n := 4) (by decide) (by decide))) <| J.k 3 0 rfl Ty5 (At.zero (At.arr (z := 0) (i := 1) (n := 4) (by decide) (by decide))) <| J.k 3 0 rfl Ty5 (At.zero (At.arr (z := 0) (i := 2) (n := 4) (by decide) (by decide))) <| J.k 3 0 rfl Ty5 (At.zero (At.arr (z := 0) (i := 3) (n := 4) (by decide) (by decide))) <| J.g 2 <| OJ.rowSlot (d := 120) (t := 157) (parts := [(0, .tmp 111), (1, .tmp 119)]) (ps := [(0, (cI .i64).val (bor .i64 (IntKind.wrap .i64 ((IntKind.wrap .i64 (Vec.g r56.1 0 0)) * 2 ^ 8)) (IntKind.wrap .i64 (Vec.g r56.1 1 0)))), (1, (cI .i64).val (bor .i64 (IntKind.wrap .i64 ((IntKind.wrap .i64 (Vec.g r56.1 2 0)) * 2 ^ 8)) (IntKind.wrap .i64 (Vec.g r56.1 3 0))))]) (cd := (cI .i64)) (⟨[bor .i64 (IntKind.wrap .i64 ((IntKind.wrap .i64 (Vec.g r56.1 0 0)) * 2 ^ 8)) (IntKind.wrap .i64 (Vec.g r56.1 1 0)), bor .i64 (IntKind.wrap .i64 ((IntKind.wrap .i64 (Vec.g r56.1 2 0)) * 2 ^ 8)) (IntKind.wrap .i64 (Vec.g r56.1 3 0))], rfl⟩ : Vec Int 2) (owed := [⟨4, 157, (Addr.add p58 2), cL.val x59⟩]) Ty3 (Zcf.cons (cd := (cI .i64)) (q := (bor .i64 (IntKind.wrap .i64 ((IntKind.wrap .i64 (Vec.g r56.1 0 0)) * 2 ^ 8)) (IntKind.wrap .i64 (Vec.g r56.1 1 0)))) (o := 0) rfl (Upd.arr (i := 0) (by decide) (by decide)) (Zcf.cons (cd := (cI .i64)) (q := (bor .i64 (IntKind.wrap .i64 ((IntKind.wrap .i64 (Vec.g r56.1 2 0)) * 2 ^ 8)) (IntKind.wrap .i64 (Vec.g r56.1 3 0)))) (o := 1) rfl (Upd.arr (i := 1) (by decide) (by decide)) Zcf.nil)) fun b60 => OW.same Zfo <| OW.nil <| J.p 0 0 rfl Ty3 fun r61 => J.n 0 fun p62 => J.w 1 Zfo <| J.z 0 <| SJ.sr 3 <| J.z 3 <| J.r
 refine SJ.skip <| SJ.seq <| SJ.sr 3 <| J.C 1 F142 (Zhb _) fun r64 => J.z 1 <| J.f ?_ ?_
 ·exact SJ.sr 5 <| J.u 1 Zi6 (.f 0 (ZbP _ 44) (.f 1 (ZbQ _ x2) .nil)) <| J.B 0 fun b66 => J.z 2 <| J.r
 refine SJ.skip <| SJ.seq <| SJ.sr 4 <| J.z 4 <| J.f ?_ ?_
 ·exact SJ.sr 5 <| J.u 1 Zi6 (.f 0 (ZbP _ 43) (.f 1 (ZbQ _ x2) .nil)) <| J.B 0 fun b68 => J.z 2 <| J.r
 exact SJ.skip <| SJ.sr 11 <| J.n 2 fun p69 => J.l 1 Zfo fun x70 => J.S 1 [s3] Ty3 fun b71 => J.p 0 0 rfl Ty3 fun r72 => J.n 0 fun p73 => J.w 1 Zfo <| J.z 0 <| SJ.sr 5 <| J.n 2 fun p74 => J.w 1 Ty3 <| J.z 0 <| SJ.sr 2 <| J.z 2 <| J.r
noncomputable def Za6.F1 (a0 : (Option Addr)) (x2 : Int) : LF (Int × Int) (Bool × (Option Addr)) := ⟨[.inBlock 0, .code (c2 (c2 (c2 (c2 Za6.B))))], c1 (c1 (c2 (c2 (c2 Za6.B)))), fun s_ => [(0, .pointer a0), (4, .int .i64 x2), (5, .int .i64 s_.1), (6, .int .i64 s_.2)], fun s_ => [], (rt Za6.out)⟩
noncomputable def Za6.L1 (a0 : (Option Addr)) (x2 : Int) (s3 : Int) (s4 : Int) : M (LS (Int × Int) (Bool × (Option Addr))) :=
 nilck a0 >>= fun p79 =>
 ld cS p79 >>= fun x80 =>
 (if s4 < (x80.size : Int) then
   nilck a0 >>= fun p81 =>
   ld cS p81 >>= fun x82 =>
   chk ((0 : Int) ≤ s4 ∧ s4 < (x82.size : Int)) >>= fun _ =>
   ZfA (sb x82 s4) >>= fun r85 =>
   pure (decide (r85 ≥ 0))
  else
   pure false) >>= fun y86 =>
 if y86 = true then
  nilck a0 >>= fun p87 =>
  ld cS p87 >>= fun x88 =>
  chk ((0 : Int) ≤ s4 ∧ s4 < (x88.size : Int)) >>= fun _ =>
  ZfA (sb x88 s4) >>= fun r91 =>
  pure (LS.next (bor .i64 (band .i64 (IntKind.wrap .i64 (s3 * 2 ^ 4)) 1048575) r91, IntKind.wrap .i64 (s4 + 1)))
 else
  (Za6.K1 a0 x2 s3 s4) >>= fun b => pure (LS.done b)
theorem Za6.L1_ok (a0 : (Option Addr)) (x2 : Int) : LJ Za6.cx (Za6.F1 a0 x2) (fun s_ => Za6.L1 a0 x2 s_.1 s_.2) := by
 rintro ⟨s3, s4⟩
 show SJ _ _ _ _ (Za6.L1 a0 x2 s3 s4) _
 unfold Za6.L1
 refine SJ.seq <| SJ.sr 17 <| J.n 2 fun p79 => J.l 1 Ty9 fun x80 => J.j 3 8 .bool ?_ ?_ fun y86 => ?_
 ·exact J.n 1 fun p81 => J.l 1 Ty9 fun x82 => J.t 1 fun hb83 hb84 => J.C 0 F141 (ZjU _) fun r85 => J.e 2
 ·exact J.e 9
 refine J.z 0 <| J.f ?_ ?_
 ·exact SJ.skip <| SJ.block (id := 1) <| SJ.sr 12 <| J.n 4 fun p87 => J.l 1 Ty9 fun x88 => J.t 1 fun hb89 hb90 => J.C 0 F141 (ZjU _) fun r91 => J.z 2 <| SJ.rg 3 <| J.z 3 <| SJ.inBlock <| J.o rfl
 exact SJ.exit (id := 0) (by rfl) <| J.q <| SJ.done <| Za6.K1_ok a0 x2 s3 s4
noncomputable def Za6 (a0 : (Option Addr)) : M (Bool × (Option Addr)) :=
 nilck a0 >>= fun p1 =>
 ld (cI .i64) (Addr.add p1 1) >>= fun x2 =>
 Zci (fun s_ : (Int × Int) => Za6.L1 a0 x2 s_.1 s_.2) (0, x2)
theorem Zjv (a0 : (Option Addr)) : Ref Tryz.prog 126 [.pointer a0] (Za6 a0) Za6.out := by
 refine J.Fn Tryz.func126 ?_
 unfold Za6
 exact SJ.sr 2 <| J.z 2 <| SJ.sr 6 <| J.n 1 fun p1 => J.l 1 Ty3 fun x2 => J.z 2 <| SJ.sr 2 <| J.z 2 <| SJ.seq <| SJ.block (id := 0) <| J.L (Za6.L1_ok a0 x2)

/-! ### (*weir/addr.six).read: function 103 -/
noncomputable def ZbE.B : Code := bod Tryz.f103
noncomputable def ZbE.cx : Fx := ⟨Tryz.prog, 103, Tryz.f103, none⟩
noncomputable def ZbE.out (r_ : (Option Addr)) : Value := .pointer r_
noncomputable def ZbE.F1 (a0 : (Option Addr)) : LF Bool (Option Addr) := ⟨[.inBlock 0], c1 (c2 (c2 (c2 ZbE.B))), fun s_ => [(0, .pointer a0), (5, .bool s_)], fun s_ => [], (rt ZbE.out)⟩
noncomputable def ZbE.L1 (a0 : (Option Addr)) (s4 : Bool) : M (LS Bool (Option Addr)) :=
 draw >>= fun _ =>
 nilck a0 >>= fun p5 =>
 ld (cI .i64) (Addr.add p5 1) >>= fun x6 =>
 nilck a0 >>= fun p7 =>
 ld cS p7 >>= fun x8 =>
 (if x6 = (x8.size : Int) then
   pure s4
  else
   pure false) >>= fun y9 =>
 if y9 = true then
  pure (LS.done none)
 else
  Za6 a0 >>= fun r10 =>
  if ¬ (r10.2 = none) then
   pure (LS.done r10.2)
  else
   draw >>= fun _ =>
   (if r10.1 = true then
     pure true
    else
     nilck a0 >>= fun p11 =>
     ld (cI .i64) (Addr.add p11 1) >>= fun x12 =>
     nilck a0 >>= fun p13 =>
     ld cS p13 >>= fun x14 =>
     pure (x12 == (x14.size : Int))) >>= fun y15 =>
   if y15 = true then
    nilck a0 >>= fun p28 =>
    ld (cI .i64) (Addr.add p28 3) >>= fun x29 =>
    (if x29 < 0 then
      nilck a0 >>= fun p30 =>
      ld cL (Addr.add p30 2) >>= fun x31 =>
      pure ((x31.len : Int) != 8)
     else
      pure false) >>= fun y32 =>
    if y32 = true then
     nilck a0 >>= fun p36 =>
     ld cS p36 >>= fun x37 =>
     newv 143 ZbM (⟨42, (x37.size : Int)⟩ : Zb8) >>= fun b38 =>
     pure (LS.done (some (pt b38 0)))
    else
     pure (LS.done none)
   else
    Zc9 a0 >>= fun r40 =>
    if ¬ (r40.2 = none) then
     pure (LS.done r40.2)
    else
     if ¬ (r40.1 = true) then
      draw >>= fun _ =>
      nilck a0 >>= fun p57 =>
      ld cS p57 >>= fun x58 =>
      nilck a0 >>= fun p59 =>
      ld (cI .i64) (Addr.add p59 1) >>= fun x60 =>
      chk ((0 : Int) ≤ x60 ∧ x60 < (x58.size : Int)) >>= fun _ =>
      if (sb x58 x60) ≠ 58 then
       nilck a0 >>= fun p66 =>
       ld (cI .i64) (Addr.add p66 1) >>= fun x67 =>
       newv 143 ZbM (⟨41, x67⟩ : Zb8) >>= fun b68 =>
       pure (LS.done (some (pt b68 0)))
      else
       nilck a0 >>= fun p69 =>
       ld (cI .i64) (Addr.add p69 1) >>= fun x70 =>
       nilck a0 >>= fun p71 =>
       st (cI .i64) (Addr.add p71 1) (IntKind.wrap .i64 (x70 + 1)) >>= fun _ =>
       pure (LS.next r40.1)
     else
      pure (LS.next r40.1)
theorem ZbE.L1_ok (a0 : (Option Addr)) : LJ ZbE.cx (ZbE.F1 a0) (fun s_ => ZbE.L1 a0 s_) := by
 rintro s4
 show SJ _ _ _ _ (ZbE.L1 a0 s4) _
 unfold ZbE.L1
 refine SJ.block (id := 1) <| SJ.seq <| SJ.seq <| J.R 13 Zdz <| J.n 1 fun p5 => J.l 1 Ty3 fun x6 => J.n 1 fun p7 => J.l 1 Ty9 fun x8 => J.j 3 1 .bool ?_ ?_ fun y9 => ?_
 ·exact J.e 2
 ·exact J.e 2
 refine J.z 0 <| J.f ?_ ?_
 ·exact SJ.sr 1 <| J.z 1 <| J.r
 refine SJ.skip <| SJ.sr 7 <| J.C 1 F126 (Zjv _) fun r10 => J.z 5 <| SJ.seq <| SJ.sr 2 <| J.z 2 <| J.f ?_ ?_
 ·exact SJ.sr 2 <| J.z 2 <| J.r
 refine SJ.skip <| SJ.seq <| SJ.seq <| J.R 13 Zdz <| J.j 2 10 .bool ?_ ?_ fun y15 => ?_
 ·exact J.e 11
 ·exact J.n 1 fun p11 => J.l 1 Ty3 fun x12 => J.n 1 fun p13 => J.l 1 Ty9 fun x14 => J.e 3
 refine J.z 0 <| J.f ?_ ?_
 ·refine SJ.seq <| SJ.sr 13 <| J.n 1 fun p28 => J.l 1 Ty3 fun x29 => J.j 2 6 .bool ?_ ?_ fun y32 => ?_
  ·exact J.n 1 fun p30 => J.l 1 Zfo fun x31 => J.e 3
  ·exact J.e 7
  refine J.z 0 <| J.f ?_ ?_
  ·exact SJ.sr 8 <| J.n 1 fun p36 => J.l 1 Ty9 fun x37 => J.u 1 Zi6 (.f 0 (ZbP _ 42) (.f 1 (ZbQ _ (x37.size : Int)) .nil)) <| J.B 0 fun b38 => J.z 1 <| J.r
  exact SJ.skip <| SJ.sr 1 <| J.z 1 <| J.r
 refine SJ.skip <| SJ.sr 7 <| J.C 1 F125 (Zgh _) fun r40 => J.z 5 <| SJ.seq <| SJ.sr 2 <| J.z 2 <| J.f ?_ ?_
 ·exact SJ.sr 2 <| J.z 2 <| J.r
 refine SJ.skip <| SJ.sr 2 <| J.z 2 <| J.f ?_ ?_
 ·refine SJ.seq <| SJ.seq <| J.R 10 Zdz <| J.n 1 fun p57 => J.l 1 Ty9 fun x58 => J.n 1 fun p59 => J.l 1 Ty3 fun x60 => J.t 0 fun hb61 hb62 => J.z 1 <| J.f ?_ ?_
  ·exact SJ.sr 7 <| J.n 1 fun p66 => J.l 1 Ty3 fun x67 => J.u 0 Zi6 (.f 0 (ZbP _ 41) (.f 1 (ZbQ _ x67) .nil)) <| J.B 0 fun b68 => J.z 1 <| J.r
  exact SJ.skip <| SJ.rg 8 <| J.n 1 fun p69 => J.l 1 Ty3 fun x70 => J.n 1 fun p71 => J.w 1 Ty3 <| J.z 0 <| SJ.inBlock <| J.o rfl
 exact SJ.skip <| SJ.inBlock <| J.o rfl
noncomputable def ZbE (a0 : (Option Addr)) : M (Option Addr) :=
 Zc9 a0 >>= fun r1 =>
 if ¬ (r1.2 = none) then
  pure r1.2
 else
  nilck a0 >>= fun p2 =>
  ld (cI .i64) (Addr.add p2 3) >>= fun x3 =>
  Zci (fun s_ : Bool => ZbE.L1 a0 s_) (decide (x3 ≥ 0))
theorem Zj5 (a0 : (Option Addr)) : Ref Tryz.prog 103 [.pointer a0] (ZbE a0) ZbE.out := by
 refine J.Fn Tryz.func103 ?_
 unfold ZbE
 refine SJ.sr 1 <| J.z 1 <| SJ.seq <| SJ.sr 7 <| J.C 1 F125 (Zgh _) fun r1 => J.z 5 <| SJ.sr 2 <| J.z 2 <| J.f ?_ ?_
 ·exact SJ.sr 2 <| J.z 2 <| J.r
 exact SJ.skip <| SJ.sr 6 <| J.n 1 fun p2 => J.l 1 Ty3 fun x3 => J.z 2 <| SJ.block (id := 0) <| J.L (ZbE.L1_ok a0)

/-! ### (*weir/addr.six).bytes: function 104 -/
noncomputable def ZaO.B : Code := bod Tryz.f104
noncomputable def ZaO.cx : Fx := ⟨Tryz.prog, 104, Tryz.f104, none⟩
noncomputable def ZaO.out (r_ : (Vec Int 16)) : Value := ((cI .u8).arr 16).val r_
noncomputable def ZaO.F1 (a0 : (Option Addr)) (b1 : Nat) (b2 : Nat) (x4 : Sl) : LF (Int × (Vec Int 16)) (Vec Int 16) := ⟨[.inBlock 0, .code (c2 (c2 (c2 ZaO.B)))], c1 (c2 (c1 (c2 (c2 ZaO.B)))), fun s_ => [(0, .pointer a0), (2, .pointer (some (pt b1 0))), (3, .pointer (some (pt b2 0))), (9, Sl.v x4), (10, .int .i64 (x4.len : Int)), (11, .int .i64 s_.1)], fun s_ => [(b2, ((cI .u8).arr 16).enc s_.2), (b1, ((cI .u8).arr 16).enc (Vec.rep 16 0))], (rt ZaO.out)⟩
noncomputable def ZaO.K1 (s5 : Int) (s6 : (Vec Int 16)) (x26 : Int) (j34 : Int) : M (LS (Int × (Vec Int 16)) (Vec Int 16)) :=
 chk ((0 : Int) ≤ (IntKind.wrap .i64 (2 * j34)) ∧ (IntKind.wrap .i64 (2 * j34)) < (16 : Nat)) >>= fun _ =>
 chk ((0 : Int) ≤ (IntKind.wrap .i64 ((IntKind.wrap .i64 (2 * j34)) + 1)) ∧ (IntKind.wrap .i64 ((IntKind.wrap .i64 (2 * j34)) + 1)) < (16 : Nat)) >>= fun _ =>
 pure (LS.next (IntKind.wrap .i64 (s5 + 1), (Vec.s (Vec.s s6 (IntKind.wrap .i64 (2 * j34)) (IntKind.wrap .u8 (Int.fdiv x26 (2 ^ 8)))) (IntKind.wrap .i64 ((IntKind.wrap .i64 (2 * j34)) + 1)) (IntKind.wrap .u8 x26))))
theorem ZaO.K1_ok (a0 : (Option Addr)) (b1 : Nat) (b2 : Nat) (x4 : Sl) (s5 : Int) (s6 : (Vec Int 16)) (x26 : Int) (j34 : Int) :
  SJ ZaO.cx [.code (c2 (c2 (c1 (c1 (c2 (c2 (c1 (c1 (c2 (c1 (c2 (c2 ZaO.B)))))))))))), .inBlock 1, .code (c2 (c2 (c2 (c1 (c1 (c2 (c1 (c2 (c2 ZaO.B))))))))), .inLoop (c1 (c1 (c2 (c1 (c2 (c2 ZaO.B)))))), .inBlock 0, .code (c2 (c2 (c2 ZaO.B)))] [(0, .pointer a0), (2, .pointer (some (pt b1 0))), (3, .pointer (some (pt b2 0))), (9, Sl.v x4), (10, .int .i64 (x4.len : Int)), (11, .int .i64 s5), (4, .int .i64 j34), (5, .int .i64 x26)] [(b2, ((cI .u8).arr 16).enc s6), (b1, ((cI .u8).arr 16).enc (Vec.rep 16 0))] (ZaO.K1 s5 s6 x26 j34) (ZaO.F1 a0 b1 b2 x4).f := by
 unfold ZaO.K1
 exact SJ.rg 14 <| J.y 10 fun hb35 hb36 => J.s (u := (IntKind.wrap .u8 (Int.fdiv x26 (2 ^ 8)))) 0 0 rfl Ty5 (Upd.zero (Upd.arr hb35 hb36)) <| J.y 0 fun hb37 hb38 => J.s (u := (IntKind.wrap .u8 x26)) 0 0 rfl Ty5 (Upd.zero (Upd.arr hb37 hb38)) <| J.z 0 <| SJ.inBlock <| SJ.rg 2 <| J.z 2 <| J.o rfl
noncomputable def ZaO.L1 (a0 : (Option Addr)) (x4 : Sl) (s5 : Int) (s6 : (Vec Int 16)) : M (LS (Int × (Vec Int 16)) (Vec Int 16)) :=
 if s5 < (x4.len : Int) then
  idx x4.a x4.len s5 1 >>= fun p25 =>
  ld (cI .i64) p25 >>= fun x26 =>
  nilck a0 >>= fun p27 =>
  ld (cI .i64) (Addr.add p27 3) >>= fun x28 =>
  (if x28 ≥ 0 then
    nilck a0 >>= fun p29 =>
    ld (cI .i64) (Addr.add p29 3) >>= fun x30 =>
    pure (decide (s5 ≥ x30))
   else
    pure false) >>= fun y31 =>
  if y31 = true then
   nilck a0 >>= fun p39 =>
   ld cL (Addr.add p39 2) >>= fun x40 =>
   ZaO.K1 s5 s6 x26 (IntKind.wrap .i64 (s5 + (IntKind.wrap .i64 (8 - (x40.len : Int)))))
  else
   ZaO.K1 s5 s6 x26 s5
 else
  pure (LS.done s6)
theorem ZaO.L1_ok (a0 : (Option Addr)) (b1 : Nat) (b2 : Nat) (x4 : Sl) : LJ ZaO.cx (ZaO.F1 a0 b1 b2 x4) (fun s_ => ZaO.L1 a0 x4 s_.1 s_.2) := by
 rintro ⟨s5, s6⟩
 show SJ _ _ _ _ (ZaO.L1 a0 x4 s5 s6) _
 unfold ZaO.L1
 refine SJ.sr 1 <| J.z 1 <| SJ.seq <| J.f ?_ ?_
 ·refine SJ.skip <| SJ.seq <| SJ.block (id := 1) <| SJ.sr 5 <| J.i 1 fun p25 => J.l 0 Ty3 fun x26 => J.z 2 <| SJ.seq <| SJ.sr 13 <| J.n 1 fun p27 => J.l 1 Ty3 fun x28 => J.j 2 6 .bool ?_ ?_ fun y31 => ?_
  ·exact J.n 2 fun p29 => J.l 1 Ty3 fun x30 => J.e 2
  ·exact J.e 7
  refine J.z 0 <| J.f ?_ ?_
  ·exact SJ.rg 9 <| J.n 2 fun p39 => J.l 1 Zfo fun x40 => J.z 4 <| J.q <| ZaO.K1_ok a0 b1 b2 x4 s5 s6 x26 (IntKind.wrap .i64 (s5 + (IntKind.wrap .i64 (8 - (x40.len : Int)))))
  exact SJ.skip <| J.q <| ZaO.K1_ok a0 b1 b2 x4 s5 s6 x26 s5
 exact SJ.exit (id := 0) (by rfl) <| SJ.sr 2 <| J.k 0 0 rfl Ty65 (At.whole _) <| J.s 0 1 rfl Ty65 (Upd.w s6) <| J.z 0 <| J.rc (.c 1 rfl Ty65 .n)
noncomputable def ZaO (a0 : (Option Addr)) : M (Vec Int 16) :=
 slot 65 >>= fun b1 =>
 slot 65 >>= fun b2 =>
 nilck a0 >>= fun p3 =>
 ld cL (Addr.add p3 2) >>= fun x4 =>
 Zci (fun s_ : (Int × (Vec Int 16)) => ZaO.L1 a0 x4 s_.1 s_.2) (0, (Vec.rep 16 0))
theorem Zjw (a0 : (Option Addr)) : Ref Tryz.prog 104 [.pointer a0] (ZaO a0) ZaO.out := by
 refine J.Fn Tryz.func104 ?_
 unfold ZaO
 exact SJ.sr 1 <| J.a 0 Ty65 fun b1 => J.z 0 <| SJ.sr 1 <| J.a 0 Ty65 fun b2 => J.z 0 <| SJ.seq <| SJ.sr 6 <| J.n 1 fun p3 => J.l 1 Zfo fun x4 => J.z 2 <| SJ.block (id := 0) <| J.L (ZaO.L1_ok a0 b1 b2 x4)

/-! ### weir/addr.parse: function 86 -/
noncomputable def ZeO.out (r_ : (Zbs × (Option Addr))) : Value := .tuple #[ZbW.val r_.1, .pointer r_.2]
noncomputable def ZeO (a0 : ByteArray) : M (Zbs × (Option Addr)) :=
 slot 67 >>= fun b1 =>
 if (a0.size : Int) > 45 then
  newv 143 ZbM (⟨2, 45⟩ : Zb8) >>= fun b3 =>
  pure (ZcL, (some (pt b3 0)))
 else
  Zde a0 ZuH >>= fun r4 =>
  if ¬ (r4 = true) then
   Zbh a0 0 >>= fun r8 =>
   slot 160 >>= fun b9 =>
   if ¬ (r8.2 = none) then
    pure (ZcL, r8.2)
   else
    pure ((⟨4, (⟨[(Vec.g r8.1 0 0), (Vec.g r8.1 1 0), (Vec.g r8.1 2 0), (Vec.g r8.1 3 0), 0, 0, 0, 0, 0, 0, 0, 0, 0, 0, 0, 0], rfl⟩ : (Vec Int 16))⟩ : Zbs), none)
  else
   newv 165 ZcY (⟨a0, ZhL.at_, ZhL.groups, (-1)⟩ : ZdS) >>= fun b11 =>
   ZbE (some (pt b11 0)) >>= fun r12 =>
   if ¬ (r12 = none) then
    pure (ZcL, r12)
   else
    ZaO (some (pt b11 0)) >>= fun r13 =>
    pure ((⟨6, r13⟩ : Zbs), none)
theorem Zi4 (a0 : ByteArray) : Ref Tryz.prog 86 [.string a0] (ZeO a0) ZeO.out := by
 refine J.Fn Tryz.func86 ?_
 unfold ZeO
 refine SJ.sr 2 <| J.a 0 Ty67 fun b1 => J.z 1 <| SJ.seq <| SJ.sr 3 <| J.z 3 <| J.f ?_ ?_
 ·exact SJ.sr 5 <| J.u 0 Ty67 .nil <| J.u 0 Zi6 (.f 0 (ZbP _ 2) (.f 1 (ZbQ _ 45) .nil)) <| J.B 0 fun b3 => J.s 0 0 rfl Ty67 (Upd.w ZcL) <| J.z 1 <| J.rc (.c 0 rfl Ty67 .n)
 refine SJ.skip <| SJ.seq <| SJ.sr 3 <| J.C 1 F101 (Zig _ _) fun r4 => J.z 1 <| J.f ?_ ?_
 ·refine SJ.sr 8 <| J.C 1 F102 (ZjV _ _) fun r8 => J.a 3 Zg6 fun b9 => J.s 0 0 rfl Zg6 (Upd.w r8.1) <| J.z 1 <| SJ.seq <| SJ.sr 2 <| J.z 2 <| J.f ?_ ?_
  ·exact SJ.sr 4 <| J.u 0 Ty67 .nil <| J.s 1 1 rfl Ty67 (Upd.w ZcL) <| J.z 1 <| J.rc (.c 1 rfl Ty67 .n)
  exact SJ.skip <| SJ.sr 12 <| J.k 1 0 rfl Ty5 (At.zero (At.arr (z := 0) (i := 0) (n := 4) (by decide) (by decide))) <| J.k 1 0 rfl Ty5 (At.zero (At.arr (z := 0) (i := 1) (n := 4) (by decide) (by decide))) <| J.k 1 0 rfl Ty5 (At.zero (At.arr (z := 0) (i := 2) (n := 4) (by decide) (by decide))) <| J.k 1 0 rfl Ty5 (At.zero (At.arr (z := 0) (i := 3) (n := 4) (by decide) (by decide))) <| OJ.build (d := 34) (T := 65) (parts := [(0, .tmp 27), (1, .tmp 29), (2, .tmp 31), (3, .tmp 33)]) (ps := [(0, (cI .u8).val (Vec.g r8.1 0 0)), (1, (cI .u8).val (Vec.g r8.1 1 0)), (2, (cI .u8).val (Vec.g r8.1 2 0)), (3, (cI .u8).val (Vec.g r8.1 3 0))]) (cd := ((cI .u8).arr 16)) (z0 := (Vec.rep 16 0)) (⟨[(Vec.g r8.1 0 0), (Vec.g r8.1 1 0), (Vec.g r8.1 2 0), (Vec.g r8.1 3 0), 0, 0, 0, 0, 0, 0, 0, 0, 0, 0, 0, 0], rfl⟩ : (Vec Int 16)) Ty65 rfl (Zcf.cons (cd := (cI .u8)) (q := (Vec.g r8.1 0 0)) (o := 0) (by kernel_rfl) (Upd.arr (i := 0) (by decide) (by decide)) (Zcf.cons (cd := (cI .u8)) (q := (Vec.g r8.1 1 0)) (o := 1) (by kernel_rfl) (Upd.arr (i := 1) (by decide) (by decide)) (Zcf.cons (cd := (cI .u8)) (q := (Vec.g r8.1 2 0)) (o := 2) (by kernel_rfl) (Upd.arr (i := 2) (by decide) (by decide)) (Zcf.cons (cd := (cI .u8)) (q := (Vec.g r8.1 3 0)) (o := 3) (by kernel_rfl) (Upd.arr (i := 3) (by decide) (by decide)) Zcf.nil)))) <| J.u 0 Ty67 (.f 0 (Zf0 _ 4) (.f 1 (Zf1 _ (⟨[(Vec.g r8.1 0 0), (Vec.g r8.1 1 0), (Vec.g r8.1 2 0), (Vec.g r8.1 3 0), 0, 0, 0, 0, 0, 0, 0, 0, 0, 0, 0, 0], rfl⟩ : (Vec Int 16))) .nil)) <| J.s 0 1 rfl Ty67 (Upd.w (⟨4, (⟨[(Vec.g r8.1 0 0), (Vec.g r8.1 1 0), (Vec.g r8.1 2 0), (Vec.g r8.1 3 0), 0, 0, 0, 0, 0, 0, 0, 0, 0, 0, 0, 0], rfl⟩ : (Vec Int 16))⟩ : Zbs)) <| J.z 1 <| J.rc (.c 1 rfl Ty67 .n)
 refine SJ.skip <| SJ.sr 4 <| J.u 1 ZuR (.f 0 (Zmy _ a0) (.f 3 (ZhJ _ (-1)) .nil)) <| J.B 0 fun b11 => J.z 1 <| SJ.seq <| SJ.sr 3 <| J.C 1 F103 (Zj5 _) fun r12 => J.z 1 <| SJ.sr 2 <| J.z 2 <| J.f ?_ ?_
 ·exact SJ.sr 4 <| J.u 0 Ty67 .nil <| J.s 1 0 rfl Ty67 (Upd.w ZcL) <| J.z 1 <| J.rc (.c 0 rfl Ty67 .n)
 exact SJ.skip <| SJ.sr 5 <| J.C 1 F104 (Zjw _) fun r13 => J.u 0 Ty67 (.f 0 (Zf0 _ 6) (.f 1 (Zf1 _ r13) .nil)) <| J.s 0 0 rfl Ty67 (Upd.w (⟨6, r13⟩ : Zbs)) <| J.z 1 <| J.rc (.c 0 rfl Ty67 .n)

/-! ### weir/addr.size: function 88 -/
noncomputable def Ze3.out (r_ : Int) : Value := .int .i64 r_
noncomputable def Ze3 (a0 : Zbs) : M Int :=
 newv 67 ZbW a0 >>= fun b1 =>
 ld (cI .i64) (pt b1 0) >>= fun x2 =>
 if x2 = 6 then
  pure 128
 else
  ld (cI .i64) (pt b1 0) >>= fun x3 =>
  (if x3 ≠ 4 then
    pure true
   else
    cut 1 ⟨some (Addr.add (pt b1 0) 1), 16, 16⟩ (some 4) none none >>= fun r4 =>
    (chk (12 ≤ r4.len) >>= fun _ => nilck r4.a) >>= fun p5 =>
    ld ((cI .u8).arr 12) p5 >>= fun x6 =>
    pure (!eqv x6 (⟨[0, 0, 0, 0, 0, 0, 0, 0, 0, 0, 0, 0], rfl⟩ : (Vec Int 12)))) >>= fun y7 =>
  if y7 = true then
   pure 0
  else
   pure 32
theorem ZhF (a0 : Zbs) : Ref Tryz.prog 88 [ZbW.val a0] (Ze3 a0) Ze3.out := by
 refine J.Fn Tryz.func88 ?_
 unfold Ze3
 refine SJ.sr 2 <| J.B 0 fun b1 => J.z 1 <| SJ.seq <| SJ.sr 3 <| J.l 1 Ty3 fun x2 => J.z 1 <| J.f ?_ ?_
 ·exact SJ.sr 1 <| J.z 1 <| J.r
 refine SJ.skip <| SJ.seq <| SJ.sr 11 <| J.l 1 Ty3 fun x3 => J.j 2 6 .bool ?_ ?_ fun y7 => ?_
 ·exact J.e 7
 ·exact J.ca 1 fun r4 => OJ.toArr (d := 12) (t := 152) (E := 5) (y := .tmp 11) (s := r4) fun p5 => J.l 0 Zuw fun x6 => J.u 0 Zuw .nil <| OJ.neq (d := 15) (T := 152) (yT := 152) (y := .tmp 13) (z := .tmp 14) (cd := ((cI .u8).arr 12)) (p := x6) (q := (⟨[0, 0, 0, 0, 0, 0, 0, 0, 0, 0, 0, 0], rfl⟩ : (Vec Int 12))) rfl ZuV <| J.e 1
 refine J.z 0 <| J.f ?_ ?_
 ·exact SJ.sr 1 <| J.z 1 <| J.r
 exact SJ.skip <| SJ.sr 1 <| J.z 1 <| J.r

/-! ### weir/addr.masked: function 100 -/
noncomputable def ZbX.B : Code := bod Tryz.f100
noncomputable def ZbX.cx : Fx := ⟨Tryz.prog, 100, Tryz.f100, none⟩
noncomputable def ZbX.out (r_ : (Vec Int 16)) : Value := ((cI .u8).arr 16).val r_
noncomputable def ZbX.F1 (a0 : (Vec Int 16)) (a1 : Int) (b1 : Nat) (b2 : Nat) (b3 : Nat) : LF (Int × (Vec Int 16)) (Vec Int 16) := ⟨[.inBlock 0, .code (c2 (c2 (c2 ZbX.B)))], c1 (c2 (c1 (c2 (c2 ZbX.B)))), fun s_ => [(1, .int .i64 a1), (2, .pointer (some (pt b1 0))), (4, .pointer (some (pt b2 0))), (5, .pointer (some (pt b3 0))), (8, .int .i64 s_.1)], fun s_ => [(b3, ((cI .u8).arr 16).enc s_.2), (b2, ((cI .u8).arr 16).enc (Vec.rep 16 0)), (b1, ((cI .u8).arr 16).enc a0)], (rt ZbX.out)⟩
noncomputable def ZbX.L1 (a0 : (Vec Int 16)) (a1 : Int) (s4 : Int) (s5 : (Vec Int 16)) : M (LS (Int × (Vec Int 16)) (Vec Int 16)) :=
 if s4 < 16 then
  chk ((0 : Int) ≤ s4 ∧ s4 < (16 : Nat)) >>= fun _ =>
  chk (0 ≤ (IntKind.wrap .u64 (if (if 0 < (IntKind.wrap .i64 (a1 - (IntKind.wrap .i64 (8 * s4)))) then (IntKind.wrap .i64 (a1 - (IntKind.wrap .i64 (8 * s4)))) else 0) < 8 then (if 0 < (IntKind.wrap .i64 (a1 - (IntKind.wrap .i64 (8 * s4)))) then (IntKind.wrap .i64 (a1 - (IntKind.wrap .i64 (8 * s4)))) else 0) else 8))) >>= fun _ =>
  chk ((0 : Int) ≤ s4 ∧ s4 < (16 : Nat)) >>= fun _ =>
  pure (LS.next (IntKind.wrap .i64 (s4 + 1), (Vec.s s5 s4 (band .u8 (Vec.g a0 s4 0) (IntKind.wrap .u8 (Int.fdiv 65280 (2 ^ min (Int.toNat (IntKind.wrap .u64 (if (if 0 < (IntKind.wrap .i64 (a1 - (IntKind.wrap .i64 (8 * s4)))) then (IntKind.wrap .i64 (a1 - (IntKind.wrap .i64 (8 * s4)))) else 0) < 8 then (if 0 < (IntKind.wrap .i64 (a1 - (IntKind.wrap .i64 (8 * s4)))) then (IntKind.wrap .i64 (a1 - (IntKind.wrap .i64 (8 * s4)))) else 0) else 8))) 64)))))))
 else
  pure (LS.done s5)
theorem ZbX.L1_ok (a0 : (Vec Int 16)) (a1 : Int) (b1 : Nat) (b2 : Nat) (b3 : Nat) : LJ ZbX.cx (ZbX.F1 a0 a1 b1 b2 b3) (fun s_ => ZbX.L1 a0 a1 s_.1 s_.2) := by
 rintro ⟨s4, s5⟩
 show SJ _ _ _ _ (ZbX.L1 a0 a1 s4 s5) _
 unfold ZbX.L1
 refine SJ.sr 1 <| J.z 1 <| SJ.seq <| J.f ?_ ?_
 ·exact SJ.skip <| SJ.seq <| SJ.block (id := 1) <| SJ.sr 2 <| J.z 2 <| SJ.sr 7 <| J.g 4 <| OJ.max (d := 15) (t := 3) (u := 3) (so := .const (.int .i64 0)) (xo := .tmp 14) (k := .i64) (p := 0) (q := (IntKind.wrap .i64 (a1 - (IntKind.wrap .i64 (8 * s4))))) <| OJ.min (d := 16) (t := 3) (u := 3) (so := .const (.int .i64 8)) (xo := .tmp 15) (k := .i64) (p := 8) (q := (if 0 < (IntKind.wrap .i64 (a1 - (IntKind.wrap .i64 (8 * s4)))) then (IntKind.wrap .i64 (a1 - (IntKind.wrap .i64 (8 * s4)))) else 0)) <| J.z 1 <| SJ.rg 11 <| J.y 2 fun hb12 hb13 => J.k 0 2 rfl Ty5 (At.zero (At.arr (z := 0) hb12 hb13)) <| J.g 2 <| OJ.shr (d := 23) (T := 3) (yT := 100) (y := .const (.int .i64 65280)) (z := .tmp 22) (k := .i64) (yk := .u64) (p := 65280) (q := (IntKind.wrap .u64 (if (if 0 < (IntKind.wrap .i64 (a1 - (IntKind.wrap .i64 (8 * s4)))) then (IntKind.wrap .i64 (a1 - (IntKind.wrap .i64 (8 * s4)))) else 0) < 8 then (if 0 < (IntKind.wrap .i64 (a1 - (IntKind.wrap .i64 (8 * s4)))) then (IntKind.wrap .i64 (a1 - (IntKind.wrap .i64 (8 * s4)))) else 0) else 8))) fun hq16 => J.y 2 fun hb14 hb15 => J.s (u := (band .u8 (Vec.g a0 s4 0) (IntKind.wrap .u8 (Int.fdiv 65280 (2 ^ min (Int.toNat (IntKind.wrap .u64 (if (if 0 < (IntKind.wrap .i64 (a1 - (IntKind.wrap .i64 (8 * s4)))) then (IntKind.wrap .i64 (a1 - (IntKind.wrap .i64 (8 * s4)))) else 0) < 8 then (if 0 < (IntKind.wrap .i64 (a1 - (IntKind.wrap .i64 (8 * s4)))) then (IntKind.wrap .i64 (a1 - (IntKind.wrap .i64 (8 * s4)))) else 0) else 8))) 64))))) 0 0 rfl Ty5 (Upd.zero (Upd.arr hb14 hb15)) <| J.z 0 <| SJ.inBlock <| SJ.rg 2 <| J.z 2 <| J.o rfl
 exact SJ.exit (id := 0) (by rfl) <| SJ.sr 2 <| J.k 0 0 rfl Ty65 (At.whole _) <| J.s 0 1 rfl Ty65 (Upd.w s5) <| J.z 0 <| J.rc (.c 1 rfl Ty65 .n)
noncomputable def ZbX (a0 : (Vec Int 16)) (a1 : Int) : M (Vec Int 16) :=
 slot 65 >>= fun b1 =>
 slot 65 >>= fun b2 =>
 slot 65 >>= fun b3 =>
 Zci (fun s_ : (Int × (Vec Int 16)) => ZbX.L1 a0 a1 s_.1 s_.2) (0, (Vec.rep 16 0))
theorem Zlj (a0 : (Vec Int 16)) (a1 : Int) : Ref Tryz.prog 100 [((cI .u8).arr 16).val a0, .int .i64 a1] (ZbX a0 a1) ZbX.out := by
 refine J.Fn Tryz.func100 ?_
 unfold ZbX
 exact SJ.sr 2 <| J.b 0 ((cI .u8).arr 16) a0 fun b1 => J.a 0 Ty65 fun b2 => J.z 0 <| SJ.sr 1 <| J.a 0 Ty65 fun b3 => J.z 0 <| SJ.seq <| SJ.sr 1 <| J.z 1 <| SJ.block (id := 0) <| J.L (ZbX.L1_ok a0 a1 b1 b2 b3)

/-! ### weir/addr.ValidPrefix: function 84 -/
noncomputable def ZcC.out (r_ : Int) : Value := .int .i64 r_
noncomputable def ZcC (a0 : Zac) : M Int :=
 slot 69 >>= fun b1 =>
 Ze3 a0.IP >>= fun r2 =>
 if r2 = 0 then
  pure 40
 else
  (if a0.Len < 0 then
    pure true
   else
    pure (decide (a0.Len > r2))) >>= fun y9 =>
  if y9 = true then
   pure 45
  else
   draw >>= fun _ =>
   ZbX a0.IP.A a0.Len >>= fun r12 =>
   if ¬ (r12 = a0.IP.A) then
    pure 46
   else
    pure 0
theorem ZeH (a0 : Zac) : Ref Tryz.prog 84 [ZaI.val a0] (ZcC a0) ZcC.out := by
 refine J.Fn Tryz.func84 ?_
 unfold ZcC
 refine SJ.sr 2 <| J.b 0 ZaI a0 fun b1 => J.z 1 <| SJ.seq <| SJ.sr 4 <| J.k 1 0 rfl Ty67 (Zb6 _) <| J.C 0 F88 (ZhF _) fun r2 => J.z 1 <| SJ.block (id := 0) <| SJ.sr 3 <| J.z 3 <| J.f ?_ ?_
 ·exact SJ.sr 1 <| J.z 1 <| J.r
 refine SJ.sr 10 <| J.k 1 0 rfl Ty3 (Zb2 _) <| J.j 2 4 .bool ?_ ?_ fun y9 => ?_
 ·exact J.e 5
 ·exact J.k 1 0 rfl Ty3 (Zb2 _) <| J.e 3
 refine J.z 1 <| J.f ?_ ?_
 ·exact SJ.sr 1 <| J.z 1 <| J.r
 refine SJ.seq <| J.D [0, 1, 2, 3, 4, 6, 7, 8, 5, 9, 10] Zdz <| J.k 2 0 rfl Ty65 (At.trans (Zb6 _) (ZdP _)) <| J.k 1 0 rfl Ty3 (Zb2 _) <| J.k 2 0 rfl Ty65 (At.trans (Zb6 _) (ZdP _)) <| OJ.call (d := 26) (g := 100) (ats := #[65, 3]) (args := [.tmp 23, .tmp 25]) (owed := [⟨8, 65, (pt b1 1), ((cI .u8).arr 16).val a0.IP.A⟩]) F100 (Zlj a0.IP.A a0.Len) fun r12 => OW.known (j := 0) (q := a0.IP.A) Ty65 rfl (At.trans (Zb6 a0) (ZdP a0.IP)) <| OW.nil <| OJ.neq (d := 30) (T := 65) (yT := 65) (y := .tmp 26) (z := .tmp 29) (cd := ((cI .u8).arr 16)) (p := r12) (q := a0.IP.A) rfl Eq65 <| J.z 1 <| J.f ?_ ?_
 ·exact SJ.sr 1 <| J.z 1 <| J.r
 exact SJ.skip <| SJ.inBlock <| SJ.sr 1 <| J.z 1 <| J.r

/-! ### weir/addr.ParsePrefix: function 69 -/
noncomputable def Zaq.B : Code := bod Tryz.f69
noncomputable def Zaq.cx : Fx := ⟨Tryz.prog, 69, Tryz.f69, none⟩
noncomputable def Zaq.out (r_ : (Zac × Int × Int)) : Value := .tuple #[ZaI.val r_.1, .int .i64 r_.2.1, .int .i64 r_.2.2]
noncomputable def Zaq.K1 (r3 : (Zbs × (Option Addr))) (j8 : Int) (j17 : (Option Addr)) : M (Zac × Int × Int) :=
 if ¬ (j17 = none) then
  draw >>= fun _ =>
  nilck j17 >>= fun p22 =>
  ld (cI .i64) p22 >>= fun x23 =>
  nilck j17 >>= fun p24 =>
  ld (cI .i64) (Addr.add p24 1) >>= fun x25 =>
  same (cI .i64) (Addr.add p24 1) x25 >>= fun _ =>
  same (cI .i64) p22 x23 >>= fun _ =>
  pure (ZaU, x23, x25)
 else
  pure ((⟨r3.1, j8⟩ : Zac), 0, 0)
theorem Zaq.K1_ok (b1 : Nat) (r3 : (Zbs × (Option Addr))) (j8 : Int) (b13 : Nat) (j17 : (Option Addr)) :
  SJ Zaq.cx [.code (c2 (c2 (c2 (c2 (c2 (c2 (c2 (c2 (c2 (c2 Zaq.B))))))))))] [(2, .pointer (some (pt b1 0))), (9, .pointer j17), (12, .pointer (some (pt b13 0)))] [(b13, ZaI.enc (⟨r3.1, j8⟩ : Zac)), (b1, ZaI.enc ZaU)] (Zaq.K1 r3 j8 j17) (rt Zaq.out) := by
 unfold Zaq.K1
 refine SJ.seq <| SJ.sr 2 <| J.z 2 <| J.f ?_ ?_
 ·exact SJ.seq <| J.R 12 Zdz <| J.u 0 Ty69 .nil <| J.n 1 fun p22 => J.l 1 Ty29 fun x23 => J.n 1 fun p24 => J.l 1 Ty3 fun x25 => OJ.kst (y := .tmp 2) (z := .tmp 71) (cd := ZaI) (u := ZaU) (j := 1) (b := b1) (o := 0) (ZaI.enc ZaU) (owed := [⟨8, 3, (Addr.add p24 1), (cI .i64).val x25⟩, ⟨4, 29, p22, (cI .i64).val x23⟩]) Ty69 rfl (Upd.whole ((Cod.len _ _).trans (Cod.len _ _).symm)) rfl <| OW.same Ty3 <| OW.same Ty29 <| OW.nil <| J.z 2 <| J.rc (.c 1 rfl Ty69 .n)
 exact SJ.skip <| SJ.sr 4 <| J.k 0 0 rfl Ty69 (At.whole _) <| J.s 0 1 rfl Ty69 (Upd.w (⟨r3.1, j8⟩ : Zac)) <| J.z 2 <| J.rc (.c 1 rfl Ty69 .n)
noncomputable def Zaq.K2 (r3 : (Zbs × (Option Addr))) (j8 : Int) (j12 : (Option Addr)) : M (Zac × Int × Int) :=
 slot 69 >>= fun b13 =>
 (if j12 = none then
   ZcC (⟨r3.1, j8⟩ : Zac) >>= fun r14 =>
   pure (r14 != 0)
  else
   pure false) >>= fun y15 =>
 if y15 = true then
  newv 143 ZbM (⟨46, 0⟩ : Zb8) >>= fun b27 =>
  Zaq.K1 r3 j8 (some (pt b27 0))
 else
  Zaq.K1 r3 j8 j12
theorem Zaq.K2_ok (b1 : Nat) (r3 : (Zbs × (Option Addr))) (b4 : Nat) (j8 : Int) (j12 : (Option Addr)) :
  SJ Zaq.cx [.code (c2 (c2 (c2 (c2 (c2 (c2 (c2 (c2 Zaq.B))))))))] [(2, .pointer (some (pt b1 0))), (8, .pointer (some (pt b4 0))), (9, .pointer j12), (10, .int .i64 j8)] [(b4, ZbW.enc r3.1), (b1, ZaI.enc ZaU)] (Zaq.K2 r3 j8 j12) (rt Zaq.out) := by
 unfold Zaq.K2
 refine SJ.sr 5 <| J.k 0 0 rfl Ty67 (At.whole _) <| J.u 1 Ty69 (.f 0 (ZdC _ r3.1) (.f 1 (Zcq _ j8) .nil)) <| J.a 0 Ty69 fun b13 => J.s 0 0 rfl Ty69 (Upd.w (⟨r3.1, j8⟩ : Zac)) <| J.z 0 <| SJ.seq <| SJ.sr 7 <| J.j 3 3 .bool ?_ ?_ fun y15 => ?_
 ·exact J.k 0 0 rfl Ty69 (At.whole _) <| J.C 0 F84 (ZeH _) fun r14 => J.e 2
 ·exact J.e 4
 refine J.z 0 <| J.f ?_ ?_
 ·exact SJ.rg 3 <| J.u 0 Zi6 (.f 0 (ZbP _ 46) (.f 1 (ZbQ _ 0) .nil)) <| J.B 0 fun b27 => J.z 1 <| SJ.forget (List.Sublist.cons_cons _ (List.Sublist.cons _ (List.Sublist.cons_cons _ List.Sublist.slnil))) <| J.q <| Zaq.K1_ok b1 r3 j8 b13 (some (pt b27 0))
 exact SJ.skip <| SJ.forget (List.Sublist.cons_cons _ (List.Sublist.cons _ (List.Sublist.cons_cons _ List.Sublist.slnil))) <| J.q <| Zaq.K1_ok b1 r3 j8 b13 j12
noncomputable def Zaq.K3 (a0 : ByteArray) (r3 : (Zbs × (Option Addr))) (j7 : (Option Addr)) (j8 : Int) (j9 : Int) : M (Zac × Int × Int) :=
 (if j7 = none then
   pure (decide (j9 < (a0.size : Int)))
  else
   pure false) >>= fun y10 =>
 if y10 = true then
  newv 143 ZbM (⟨41, j9⟩ : Zb8) >>= fun b29 =>
  Zaq.K2 r3 j8 (some (pt b29 0))
 else
  Zaq.K2 r3 j8 j7
theorem Zaq.K3_ok (a0 : ByteArray) (b1 : Nat) (r3 : (Zbs × (Option Addr))) (b4 : Nat) (j7 : (Option Addr)) (j8 : Int) (j9 : Int) :
  SJ Zaq.cx [.code (c2 (c2 (c2 (c2 (c2 (c2 (c2 Zaq.B)))))))] [(0, .string a0), (2, .pointer (some (pt b1 0))), (8, .pointer (some (pt b4 0))), (9, .pointer j7), (10, .int .i64 j8), (11, .int .i64 j9)] [(b4, ZbW.enc r3.1), (b1, ZaI.enc ZaU)] (Zaq.K3 a0 r3 j7 j8 j9) (rt Zaq.out) := by
 unfold Zaq.K3
 refine SJ.seq <| SJ.sr 8 <| J.j 3 4 .bool ?_ ?_ fun y10 => ?_
 ·exact J.e 5
 ·exact J.e 5
 refine J.z 0 <| J.f ?_ ?_
 ·exact SJ.rg 4 <| J.u 1 Zi6 (.f 0 (ZbP _ 41) (.f 1 (ZbQ _ j9) .nil)) <| J.B 0 fun b29 => J.z 1 <| J.q <| Zaq.K2_ok b1 r3 b4 j8 (some (pt b29 0))
 exact SJ.skip <| J.q <| Zaq.K2_ok b1 r3 b4 j8 j7
noncomputable def Zaq (a0 : ByteArray) : M (Zac × Int × Int) :=
 slot 69 >>= fun b1 =>
 if (a0.size : Int) > 49 then
  pure (ZaU, 2, 49)
 else
  Zds a0 Zpe >>= fun r2 =>
  if ¬ (r2.2.2 = true) then
   pure (ZaU, 42, (a0.size : Int))
  else
   ZeO r2.1 >>= fun r3 =>
   slot 67 >>= fun b4 =>
   if r3.2 = none then
    Ze3 r3.1 >>= fun r31 =>
    Za2 a0 (IntKind.wrap .i64 ((r2.1.size : Int) + 1)) r31 45 >>= fun r32 =>
    Zaq.K3 a0 r3 r32.2.2 r32.1 r32.2.1
   else
    Zaq.K3 a0 r3 r3.2 0 0
theorem Zit (a0 : ByteArray) : Ref Tryz.prog 69 [.string a0] (Zaq a0) Zaq.out := by
 refine J.Fn Tryz.func69 ?_
 unfold Zaq
 refine SJ.sr 3 <| J.a 0 Ty69 fun b1 => J.z 2 <| SJ.seq <| SJ.sr 3 <| J.z 3 <| J.f ?_ ?_
 ·exact SJ.sr 4 <| J.u 0 Ty69 .nil <| J.s 0 0 rfl Ty69 (Upd.w ZaU) <| J.z 2 <| J.rc (.c 0 rfl Ty69 .n)
 refine SJ.skip <| SJ.sr 9 <| J.C 1 F71 (Zh6 _ _) fun r2 => J.z 7 <| SJ.seq <| SJ.sr 2 <| J.z 2 <| J.f ?_ ?_
 ·exact SJ.sr 6 <| J.u 0 Ty69 .nil <| J.s 2 0 rfl Ty69 (Upd.w ZaU) <| J.z 2 <| J.rc (.c 0 rfl Ty69 .n)
 refine SJ.skip <| SJ.sr 8 <| J.C 1 F86 (Zi4 _) fun r3 => J.a 3 Ty67 fun b4 => J.s 0 0 rfl Ty67 (Upd.w r3.1) <| J.z 1 <| SJ.sr 2 <| J.z 2 <| SJ.seq <| SJ.sr 2 <| J.z 2 <| J.f ?_ ?_
 ·exact SJ.rg 14 <| J.k 4 0 rfl Ty67 (At.whole _) <| J.C 0 F88 (ZhF _) fun r31 => J.C 0 F87 (Zib _ _ _ _) fun r32 => J.z 7 <| J.q <| Zaq.K3_ok a0 b1 r3 b4 r32.2.2 r32.1 r32.2.1
 exact SJ.skip <| J.q <| Zaq.K3_ok a0 b1 r3 b4 r3.2 0 0

/-! ### weir/addr.ParseIP: function 70 -/
noncomputable def Zd4.out (r_ : (Zbs × Int × Int)) : Value := .tuple #[ZbW.val r_.1, .int .i64 r_.2.1, .int .i64 r_.2.2]
noncomputable def Zd4 (a0 : ByteArray) : M (Zbs × Int × Int) :=
 slot 67 >>= fun b1 =>
 ZeO a0 >>= fun r2 =>
 slot 67 >>= fun b3 =>
 if ¬ (r2.2 = none) then
  draw >>= fun _ =>
  nilck r2.2 >>= fun p8 =>
  ld (cI .i64) p8 >>= fun x9 =>
  nilck r2.2 >>= fun p10 =>
  ld (cI .i64) (Addr.add p10 1) >>= fun x11 =>
  same (cI .i64) (Addr.add p10 1) x11 >>= fun _ =>
  same (cI .i64) p8 x9 >>= fun _ =>
  pure (ZcL, x9, x11)
 else
  pure (r2.1, 0, 0)
theorem Zk7 (a0 : ByteArray) : Ref Tryz.prog 70 [.string a0] (Zd4 a0) Zd4.out := by
 refine J.Fn Tryz.func70 ?_
 unfold Zd4
 refine SJ.sr 3 <| J.a 0 Ty67 fun b1 => J.z 2 <| SJ.sr 8 <| J.C 1 F86 (Zi4 _) fun r2 => J.a 3 Ty67 fun b3 => J.s 0 0 rfl Ty67 (Upd.w r2.1) <| J.z 1 <| SJ.seq <| SJ.sr 2 <| J.z 2 <| J.f ?_ ?_
 ·exact SJ.seq <| J.R 12 Zdz <| J.u 0 Ty67 .nil <| J.n 1 fun p8 => J.l 1 Ty29 fun x9 => J.n 1 fun p10 => J.l 1 Ty3 fun x11 => OJ.kst (y := .tmp 2) (z := .tmp 14) (cd := ZbW) (u := ZcL) (j := 1) (b := b1) (o := 0) (ZbW.enc ZcL) (owed := [⟨8, 3, (Addr.add p10 1), (cI .i64).val x11⟩, ⟨4, 29, p8, (cI .i64).val x9⟩]) Ty67 rfl (Upd.whole ((Cod.len _ _).trans (Cod.len _ _).symm)) rfl <| OW.same Ty3 <| OW.same Ty29 <| OW.nil <| J.z 2 <| J.rc (.c 1 rfl Ty67 .n)
 exact SJ.skip <| SJ.sr 4 <| J.k 0 0 rfl Ty67 (At.whole _) <| J.s 0 1 rfl Ty67 (Upd.w r2.1) <| J.z 2 <| J.rc (.c 1 rfl Ty67 .n)

/-! ### weir/rules.version: function 83 -/
noncomputable def Zev.out (r_ : Int) : Value := .int .i64 r_
noncomputable def Zev (a0 : Int) : M Int :=
 if a0 = 1 then
  if a0 = 1 then
   pure 4
  else
   if a0 = 3 then
    pure 6
   else
    pure 0
 else
  if a0 = 2 then
   pure 4
  else
   if a0 = 3 then
    pure 6
   else
    pure 0
theorem Zj1 (a0 : Int) : Ref Tryz.prog 83 [.int .i64 a0] (Zev a0) Zev.out := by
 refine J.Fn Tryz.func83 ?_
 unfold Zev
 refine SJ.sr 1 <| J.z 1 <| SJ.seq <| SJ.sr 1 <| J.z 1 <| SJ.block (id := 0) <| SJ.seq <| SJ.sr 2 <| J.z 2 <| J.f ?_ ?_
 ·refine SJ.skip <| J.f ?_ ?_
  ·exact SJ.sr 1 <| J.z 1 <| J.r
  refine SJ.sr 2 <| J.z 2 <| J.f ?_ ?_
  ·exact SJ.sr 1 <| J.z 1 <| J.r
  exact SJ.skip <| SJ.inBlock <| SJ.sr 1 <| J.z 1 <| J.r
 refine SJ.rg 2 <| J.z 2 <| J.f ?_ ?_
 ·exact SJ.sr 1 <| J.z 1 <| J.r
 refine SJ.sr 2 <| J.z 2 <| J.f ?_ ?_
 ·exact SJ.sr 1 <| J.z 1 <| J.r
 exact SJ.skip <| SJ.inBlock <| SJ.sr 1 <| J.z 1 <| J.r

/-! ### weir/rules.netFits: function 67 -/
noncomputable def ZdG.out (r_ : Bool) : Value := .bool r_
noncomputable def ZdG (a0 : Zac) (a1 : Int) : M Bool :=
 slot 69 >>= fun b1 =>
 Zev a1 >>= fun r2 =>
 ZcC a0 >>= fun r3 =>
 (if r3 = 0 then
   (if r2 = 0 then
     pure true
    else
     pure (a0.IP.V == r2)) >>= fun y4 =>
   pure y4
  else
   pure false) >>= fun y5 =>
 pure y5
theorem Zg9 (a0 : Zac) (a1 : Int) : Ref Tryz.prog 67 [ZaI.val a0, .int .i64 a1] (ZdG a0 a1) ZdG.out := by
 refine J.Fn Tryz.func67 ?_
 unfold ZdG
 refine SJ.sr 2 <| J.b 0 ZaI a0 fun b1 => J.z 1 <| SJ.sr 3 <| J.C 1 F83 (Zj1 _) fun r2 => J.z 1 <| SJ.sr 15 <| J.k 0 0 rfl Ty69 (At.whole _) <| J.C 0 F84 (ZeH _) fun r3 => J.g 2 <| OJ.join (b := (r3 == 0)) [4, 5, 6, 7, 8, 9, 10, 11, 12, 13] [14] [21] (fun y5 => [(21, .bool y5)]) [] [] (t := 11) beq_iff_eq (fun hp_ => ?_) (fun hp_ => ?_) (fun _ _ _ _ _ _ h_ => h_) fun y5 => ?_
 ·refine J.g 3 <| OJ.join (b := (r2 == 0)) [7, 8, 9, 10, 11, 12] [13] [11, 20] (fun y4 => [(11, .bool true), (20, .bool y4)]) [] [] (t := 14) beq_iff_eq (fun hp_ => ?_) (fun hp_ => ?_) (fun _ _ _ _ _ hq_ h_ => ⟨fun e_ he_ => (hq_ e_ he_).elim (fun h => h_.1 e_ h) (fun h => nomatch h), h_.2⟩) fun y4 => ?_
  ·exact J.g 6 <| OJ.nil ⟨(Cov.mem Cov.nil), rfl, _, rfl, by kernel_rfl⟩
  ·exact J.k 2 0 rfl Ty3 (At.trans (Zb6 _) (ZcZ _)) <| J.g 3 <| OJ.nil ⟨(Cov.mem Cov.nil), rfl, _, rfl, by kernel_rfl⟩
  exact J.g 1 <| OJ.nil ⟨(Cov.mem Cov.nil), rfl, _, rfl, by kernel_rfl⟩
 ·exact J.g 10 <| OJ.nil ⟨(Cov.mem Cov.nil), rfl, _, rfl, by kernel_rfl⟩
 exact J.z 1 <| J.r

/-! ### (*weir/rules.reader).net: function 54 -/
noncomputable def ZaH.B : Code := bod Tryz.f54
noncomputable def ZaH.cx : Fx := ⟨Tryz.prog, 54, Tryz.f54, none⟩
noncomputable def ZaH.out (r_ : Zac) : Value := ZaI.val r_
noncomputable def ZaH.K1 (a0 : (Option Addr)) (a1 : Int) (r2 : ZaK) (j10 : Int) (j11 : Zac) : M Zac :=
 draw >>= fun _ =>
 nilck a0 >>= fun p12 =>
 ld (cI .i64) (Addr.add p12 19) >>= fun x13 =>
 (if x13 = 0 then
   (if j10 ≠ 0 then
     pure true
    else
     pure (a1 == 16)) >>= fun y14 =>
   (if y14 = true then
     pure true
    else
     nilck a0 >>= fun p15 =>
     ld (cI .i64) (Addr.add (Addr.add p15 3) 2) >>= fun x16 =>
     ZdG j11 x16 >>= fun r17 =>
     pure (!r17)) >>= fun y18 =>
   pure y18
  else
   pure false) >>= fun y19 =>
 if y19 = true then
  Za7 a0 163 r2.at_ >>= fun r21 =>
  pure j11
 else
  pure j11
theorem ZaH.K1_ok (a0 : (Option Addr)) (a1 : Int) (b1 : Nat) (r2 : ZaK) (b3 : Nat) (b5 : Nat) (j10 : Int) (j11 : Zac) :
  SJ ZaH.cx [.code (c2 (c2 (c2 (c2 ZaH.B))))] [(0, .pointer a0), (1, .int .i64 a1), (4, .pointer (some (pt b1 0))), (5, .pointer (some (pt b3 0))), (6, .pointer (some (pt b5 0))), (7, .int .i64 j10)] [(b5, ZaI.enc j11), (b3, ZbB.enc r2), (b1, ZaI.enc ZaU)] (ZaH.K1 a0 a1 r2 j10 j11) (rt ZaH.out) := by
 unfold ZaH.K1
 refine SJ.seq <| SJ.seq <| J.R 23 Zdz <| J.n 1 fun p12 => J.l 1 Ty29 fun x13 => J.g 2 <| OJ.join (b := (x13 == 0)) [6, 7, 8, 9, 10, 11, 12, 13, 14, 15, 16, 17, 18, 19, 20, 21, 22] [] [0, 4, 5, 6, 59] (fun y19 => [(0, .pointer a0), (4, .pointer (some (pt b1 0))), (5, .pointer (some (pt b3 0))), (6, .pointer (some (pt b5 0))), (59, .bool y19)]) [⟨3, 29, (Addr.add p12 19), (cI .i64).val x13⟩] [13, 18] (t := 42) beq_iff_eq (fun hp_ => ?_) (fun hp_ => ?_) (fun _ _ _ _ _ _ h_ => h_) fun y19 => ?_
 ·refine J.g 3 <| OJ.join (b := (j10 != 0)) [9, 10, 11] [12, 13, 14, 15, 16, 17, 18, 19, 20, 21, 22] [0, 4, 5, 6, 42, 48] (fun y14 => [(0, .pointer a0), (4, .pointer (some (pt b1 0))), (5, .pointer (some (pt b3 0))), (6, .pointer (some (pt b5 0))), (42, .bool true), (48, .bool y14)]) [⟨3, 29, (Addr.add p12 19), (cI .i64).val x13⟩] [] (t := 45) bne_iff_ne (fun hp_ => ?_) (fun hp_ => ?_) (fun _ _ _ _ _ hq_ h_ => ⟨fun e_ he_ => (hq_ e_ he_).elim (fun h => h_.1 e_ h) (fun h => nomatch h), h_.2⟩) fun y14 => ?_
  ·exact J.g 3 <| OJ.nil ⟨(Cov.mem (Cov.keep (List.mem_of_getElem? (i := 0) rfl) Cov.nil)), rfl, _, rfl, by kernel_rfl⟩
  ·exact J.g 3 <| OJ.nil ⟨(Cov.mem (Cov.keep (List.mem_of_getElem? (i := 0) rfl) Cov.nil)), rfl, _, rfl, by kernel_rfl⟩
  refine J.g 1 <| OJ.join (b := y14) [13, 14, 15, 16, 17, 18, 19, 20, 21] [22] [0, 4, 5, 6, 42, 58] (fun y18 => [(0, .pointer a0), (4, .pointer (some (pt b1 0))), (5, .pointer (some (pt b3 0))), (6, .pointer (some (pt b5 0))), (42, .bool true), (58, .bool y18)]) [⟨3, 29, (Addr.add p12 19), (cI .i64).val x13⟩] [13, 18] (t := 49) Iff.rfl (fun hp_ => ?_) (fun hp_ => ?_) (fun _ _ _ _ _ hq_ h_ => ⟨fun e_ he_ => by rcases hq_ e_ he_ with h | h; exact h_.1 e_ h; exact .inr ((by decide : ∀ i ∈ [13, 18], i ∈ [13, 18]) _ h), h_.2⟩) fun y18 => ?_
  ·exact J.g 9 <| OJ.nil ⟨(Cov.mem (Cov.keep (List.mem_of_getElem? (i := 0) rfl) Cov.nil)), rfl, _, rfl, by kernel_rfl⟩
  ·exact J.k 0 0 rfl Ty69 (At.whole _) <| J.n 1 fun p15 => J.l 2 Ty3 fun x16 => J.C 0 F67 (Zg9 _ _) fun r17 => J.g 2 <| OJ.nil ⟨(Cov.mem (Cov.drop (List.mem_of_getElem? (i := 1) rfl) (Cov.drop (List.mem_of_getElem? (i := 0) rfl) (Cov.keep (List.mem_of_getElem? (i := 0) rfl) Cov.nil)))), rfl, _, rfl, by kernel_rfl⟩
  exact J.g 1 <| OJ.nil ⟨(Cov.mem (Cov.keep (List.mem_of_getElem? (i := 0) rfl) Cov.nil)), rfl, _, rfl, by kernel_rfl⟩
 ·exact J.g 17 <| OJ.nil ⟨(Cov.mem (Cov.keep (List.mem_of_getElem? (i := 0) rfl) Cov.nil)), rfl, _, rfl, by kernel_rfl⟩
 refine J.z 0 <| J.f ?_ ?_
 ·exact SJ.rg 4 <| J.k 2 1 rfl Ty3 (Zb1 _) <| J.C 0 F14 (Zbt _ _ _) fun r21 => J.z 0 <| SJ.sr 2 <| J.k 0 0 rfl Ty69 (At.whole _) <| J.s 0 2 rfl Ty69 (Upd.w j11) <| J.z 0 <| J.rc (.c 2 rfl Ty69 .n)
 exact SJ.skip <| SJ.sr 2 <| J.k 0 0 rfl Ty69 (At.whole _) <| J.s 0 2 rfl Ty69 (Upd.w j11) <| J.z 0 <| J.rc (.c 2 rfl Ty69 .n)
noncomputable def ZaH.K2 (a0 : (Option Addr)) (a1 : Int) (r2 : ZaK) (r23 : (Zbs × Int × Int)) (j25 : Zac) : M Zac :=
 ZaH.K1 a0 a1 r2 r23.2.1 j25
theorem ZaH.K2_ok (a0 : (Option Addr)) (a1 : Int) (b1 : Nat) (r2 : ZaK) (b3 : Nat) (b5 : Nat) (r23 : (Zbs × Int × Int)) (j25 : Zac) :
  SJ ZaH.cx [.code (c2 (c2 (c2 (c2 ZaH.B))))] [(0, .pointer a0), (1, .int .i64 a1), (4, .pointer (some (pt b1 0))), (5, .pointer (some (pt b3 0))), (6, .pointer (some (pt b5 0))), (7, .int .i64 r23.2.1)] [(b5, ZaI.enc j25), (b3, ZbB.enc r2), (b1, ZaI.enc ZaU)] (ZaH.K2 a0 a1 r2 r23 j25) (rt ZaH.out) := by
 unfold ZaH.K2
 exact J.q <| ZaH.K1_ok a0 a1 b1 r2 b3 b5 r23.2.1 j25
noncomputable def ZaH (a0 : (Option Addr)) (a1 : Int) : M Zac :=
 slot 69 >>= fun b1 =>
 Zcc a0 >>= fun r2 =>
 slot 48 >>= fun b3 =>
 Zaq r2.s >>= fun r4 =>
 slot 69 >>= fun b5 =>
 if r4.2.1 ≠ 0 then
  Zd4 r2.s >>= fun r23 =>
  slot 67 >>= fun b24 =>
  if r23.1.V = 6 then
   ZaH.K2 a0 a1 r2 r23 (⟨r23.1, 128⟩ : Zac)
  else
   ZaH.K2 a0 a1 r2 r23 (⟨r23.1, 32⟩ : Zac)
 else
  ZaH.K1 a0 a1 r2 r4.2.1 r4.1
theorem Zik (a0 : (Option Addr)) (a1 : Int) : Ref Tryz.prog 54 [.pointer a0, .int .i64 a1] (ZaH a0 a1) ZaH.out := by
 refine J.Fn Tryz.func54 ?_
 unfold ZaH
 refine SJ.sr 1 <| J.a 0 Ty69 fun b1 => J.z 0 <| SJ.sr 4 <| J.C 1 F50 (Zdj _) fun r2 => J.a 0 Ty48 fun b3 => J.s 0 0 rfl Ty48 (Upd.w r2) <| J.z 0 <| SJ.sr 11 <| J.k 1 0 rfl Ty9 (Zbz _) <| J.C 0 F69 (Zit _) fun r4 => J.a 4 Ty69 fun b5 => J.s 0 0 rfl Ty69 (Upd.w r4.1) <| J.z 2 <| SJ.seq <| SJ.sr 2 <| J.z 2 <| J.f ?_ ?_
 ·refine SJ.sr 11 <| J.k 1 1 rfl Ty9 (Zbz _) <| J.C 0 F70 (Zk7 _) fun r23 => J.a 4 Ty67 fun b24 => J.s 0 0 rfl Ty67 (Upd.w r23.1) <| J.z 2 <| SJ.sr 5 <| J.k 0 0 rfl Ty67 (At.whole _) <| J.u 0 Ty69 (.f 0 (ZdC _ r23.1) (.f 1 (Zcq _ 32) .nil)) <| J.s 1 1 rfl Ty69 (Upd.w (⟨r23.1, 32⟩ : Zac)) <| J.z 1 <| SJ.sr 3 <| J.k 1 0 rfl Ty3 (ZcZ _) <| J.z 1 <| J.f ?_ ?_
  ·exact SJ.rg 2 <| J.s 1 1 rfl Ty3 (Zcq _ 128) <| J.z 0 <| SJ.forget (List.Sublist.cons _ (List.Sublist.cons_cons _ (List.Sublist.cons_cons _ (List.Sublist.cons_cons _ List.Sublist.slnil)))) <| J.q <| ZaH.K2_ok a0 a1 b1 r2 b3 b5 r23 (⟨r23.1, 128⟩ : Zac)
  exact SJ.skip <| SJ.forget (List.Sublist.cons _ (List.Sublist.cons_cons _ (List.Sublist.cons_cons _ (List.Sublist.cons_cons _ List.Sublist.slnil)))) <| J.q <| ZaH.K2_ok a0 a1 b1 r2 b3 b5 r23 (⟨r23.1, 32⟩ : Zac)
 exact SJ.skip <| J.q <| ZaH.K1_ok a0 a1 b1 r2 b3 b5 r4.2.1 r4.1

/-! ### weir/rules.ported: function 55 -/
noncomputable def Zd3.out (r_ : Bool) : Value := .bool r_
noncomputable def Zd3 (a0 : Int) : M Bool :=
 (if a0 = 6 then
   pure true
  else
   pure (a0 == 17)) >>= fun y1 =>
 pure y1
theorem Zho (a0 : Int) : Ref Tryz.prog 55 [.int .i64 a0] (Zd3 a0) Zd3.out := by
 refine J.Fn Tryz.func55 ?_
 unfold Zd3
 refine SJ.sr 1 <| J.z 1 <| SJ.sr 7 <| J.j 3 2 .bool ?_ ?_ fun y1 => ?_
 ·exact J.e 3
 ·exact J.e 3
 exact J.z 1 <| J.r

/-! ### (*weir/rules.reader).ports: function 56 -/
noncomputable def Za3.B : Code := bod Tryz.f56
noncomputable def Za3.cx : Fx := ⟨Tryz.prog, 56, Tryz.f56, none⟩
noncomputable def Za3.out (r_ : ZaD) : Value := Zbi.val r_
noncomputable def Za3.K1 (a0 : (Option Addr)) (a1 : Int) (r2 : ZaK) (r4 : (ByteArray × ByteArray × Bool)) (j5 : ByteArray) : M ZaD :=
 Zbr r4.1 0 65535 >>= fun r6 =>
 Zbr j5 0 65535 >>= fun r7 =>
 nilck a0 >>= fun p8 =>
 ld (cI .i64) (Addr.add p8 19) >>= fun x9 =>
 (if x9 = 0 then
   (if ¬ (r6.2 = true) then
     pure true
    else
     pure (!r7.2)) >>= fun y10 =>
   (if y10 = true then
     pure true
    else
     pure (decide (r6.1 > r7.1))) >>= fun y11 =>
   (if y11 = true then
     pure true
    else
     pure (a1 == 16)) >>= fun y12 =>
   pure y12
  else
   pure false) >>= fun y13 =>
 if y13 = true then
  Za7 a0 164 r2.at_ >>= fun r15 =>
  pure (⟨r6.1, r7.1⟩ : ZaD)
 else
  pure (⟨r6.1, r7.1⟩ : ZaD)
theorem Za3.K1_ok (a0 : (Option Addr)) (a1 : Int) (b1 : Nat) (r2 : ZaK) (b3 : Nat) (r4 : (ByteArray × ByteArray × Bool)) (j5 : ByteArray) :
  SJ Za3.cx [.code (c2 (c2 (c2 (c2 Za3.B))))] [(0, .pointer a0), (1, .int .i64 a1), (4, .pointer (some (pt b1 0))), (5, .pointer (some (pt b3 0))), (6, .string r4.1), (7, .string j5)] [(b3, ZbB.enc r2), (b1, Zbi.enc Zcv)] (Za3.K1 a0 a1 r2 r4 j5) (rt Za3.out) := by
 unfold Za3.K1
 refine SJ.sr 7 <| J.C 1 F51 (ZeW _ _ _) fun r6 => J.z 5 <| SJ.sr 7 <| J.C 1 F51 (ZeW _ _ _) fun r7 => J.z 5 <| SJ.seq <| SJ.sr 22 <| J.n 1 fun p8 => J.l 1 Ty29 fun x9 => J.g 2 <| OJ.join (b := (x9 == 0)) [6, 7, 8, 9, 10, 11, 12, 13, 14, 15, 16, 17, 18, 19, 20, 21] [] [0, 4, 5, 9, 11, 56] (fun y13 => [(0, .pointer a0), (4, .pointer (some (pt b1 0))), (5, .pointer (some (pt b3 0))), (9, .int .i64 r6.1), (11, .int .i64 r7.1), (56, .bool y13)]) [] [] (t := 40) beq_iff_eq (fun hp_ => ?_) (fun hp_ => ?_) (fun _ _ _ _ _ _ h_ => h_) fun y13 => ?_
 ·refine J.g 3 <| OJ.join (b := (!r6.2)) [9, 10, 11] [12, 13, 14, 15, 16, 17, 18, 19, 20, 21] [0, 1, 4, 5, 9, 11, 40, 46] (fun y10 => [(0, .pointer a0), (1, .int .i64 a1), (4, .pointer (some (pt b1 0))), (5, .pointer (some (pt b3 0))), (9, .int .i64 r6.1), (11, .int .i64 r7.1), (40, .bool true), (46, .bool y10)]) [] [] (t := 43) (Zmv Iff.rfl) (fun hp_ => ?_) (fun hp_ => ?_) (fun _ _ _ _ _ hq_ h_ => ⟨fun e_ he_ => (hq_ e_ he_).elim (fun h => h_.1 e_ h) (fun h => nomatch h), h_.2⟩) fun y10 => ?_
  ·exact J.g 3 <| OJ.nil ⟨(Cov.mem Cov.nil), rfl, _, rfl, by kernel_rfl⟩
  ·exact J.g 3 <| OJ.nil ⟨(Cov.mem Cov.nil), rfl, _, rfl, by kernel_rfl⟩
  refine J.g 1 <| OJ.join (b := y10) [13, 14, 15, 16] [17, 18, 19, 20, 21] [0, 1, 4, 5, 9, 11, 40, 51] (fun y11 => [(0, .pointer a0), (1, .int .i64 a1), (4, .pointer (some (pt b1 0))), (5, .pointer (some (pt b3 0))), (9, .int .i64 r6.1), (11, .int .i64 r7.1), (40, .bool true), (51, .bool y11)]) [] [] (t := 47) Iff.rfl (fun hp_ => ?_) (fun hp_ => ?_) (fun _ _ _ _ _ hq_ h_ => ⟨fun e_ he_ => (hq_ e_ he_).elim (fun h => h_.1 e_ h) (fun h => nomatch h), h_.2⟩) fun y11 => ?_
  ·exact J.g 4 <| OJ.nil ⟨(Cov.mem Cov.nil), rfl, _, rfl, by kernel_rfl⟩
  ·exact J.g 4 <| OJ.nil ⟨(Cov.mem Cov.nil), rfl, _, rfl, by kernel_rfl⟩
  refine J.g 1 <| OJ.join (b := y11) [18, 19, 20] [21] [0, 4, 5, 9, 11, 40, 55] (fun y12 => [(0, .pointer a0), (4, .pointer (some (pt b1 0))), (5, .pointer (some (pt b3 0))), (9, .int .i64 r6.1), (11, .int .i64 r7.1), (40, .bool true), (55, .bool y12)]) [] [] (t := 52) Iff.rfl (fun hp_ => ?_) (fun hp_ => ?_) (fun _ _ _ _ _ hq_ h_ => ⟨fun e_ he_ => (hq_ e_ he_).elim (fun h => h_.1 e_ h) (fun h => nomatch h), h_.2⟩) fun y12 => ?_
  ·exact J.g 3 <| OJ.nil ⟨(Cov.mem Cov.nil), rfl, _, rfl, by kernel_rfl⟩
  ·exact J.g 3 <| OJ.nil ⟨(Cov.mem Cov.nil), rfl, _, rfl, by kernel_rfl⟩
  exact J.g 1 <| OJ.nil ⟨(Cov.mem Cov.nil), rfl, _, rfl, by kernel_rfl⟩
 ·exact J.g 16 <| OJ.nil ⟨(Cov.mem Cov.nil), rfl, _, rfl, by kernel_rfl⟩
 refine J.z 0 <| J.f ?_ ?_
 ·exact SJ.rg 4 <| J.k 2 0 rfl Ty3 (Zb1 _) <| J.C 0 F14 (Zbt _ _ _) fun r15 => J.z 0 <| SJ.sr 4 <| J.u 2 Ty71 (.f 0 (Zdv _ r6.1) (.f 1 (Zeq _ r7.1) .nil)) <| J.s 0 1 rfl Ty71 (Upd.w (⟨r6.1, r7.1⟩ : ZaD)) <| J.z 0 <| J.rc (.c 1 rfl Ty71 .n)
 exact SJ.skip <| SJ.sr 4 <| J.u 2 Ty71 (.f 0 (Zdv _ r6.1) (.f 1 (Zeq _ r7.1) .nil)) <| J.s 0 1 rfl Ty71 (Upd.w (⟨r6.1, r7.1⟩ : ZaD)) <| J.z 0 <| J.rc (.c 1 rfl Ty71 .n)
noncomputable def Za3 (a0 : (Option Addr)) (a1 : Int) : M ZaD :=
 slot 71 >>= fun b1 =>
 Zcc a0 >>= fun r2 =>
 slot 48 >>= fun b3 =>
 Zds r2.s ZsW >>= fun r4 =>
 if ¬ (r4.2.2 = true) then
  Za3.K1 a0 a1 r2 r4 r4.1
 else
  Za3.K1 a0 a1 r2 r4 r4.2.1
theorem Zhm (a0 : (Option Addr)) (a1 : Int) : Ref Tryz.prog 56 [.pointer a0, .int .i64 a1] (Za3 a0 a1) Za3.out := by
 refine J.Fn Tryz.func56 ?_
 unfold Za3
 refine SJ.sr 1 <| J.a 0 Ty71 fun b1 => J.z 0 <| SJ.sr 4 <| J.C 1 F50 (Zdj _) fun r2 => J.a 0 Ty48 fun b3 => J.s 0 0 rfl Ty48 (Upd.w r2) <| J.z 0 <| SJ.sr 10 <| J.k 1 0 rfl Ty9 (Zbz _) <| J.C 0 F71 (Zh6 _ _) fun r4 => J.z 7 <| SJ.seq <| SJ.sr 2 <| J.z 2 <| J.f ?_ ?_
 ·exact SJ.rg 2 <| J.z 2 <| J.q <| Za3.K1_ok a0 a1 b1 r2 b3 r4 r4.1
 exact SJ.skip <| J.q <| Za3.K1_ok a0 a1 b1 r2 b3 r4 r4.2.1

/-! ### (*weir/rules.reader).side: function 33 -/
noncomputable def Zab.B : Code := bod Tryz.f33
noncomputable def Zab.cx : Fx := ⟨Tryz.prog, 33, Tryz.f33, none⟩
noncomputable def Zab.out (r_ : Zap) : Value := ZaR.val r_
noncomputable def Zab.F1 (a0 : (Option Addr)) (b1 : Nat) (b2 : Nat) : LF (Bool × Zap) Zap := ⟨[.inBlock 2, .code (c2 (c2 (c2 (c2 (c2 (c2 Zab.B))))))], c1 (c2 (c1 (c2 (c2 (c2 (c2 (c2 Zab.B))))))), fun s_ => [(0, .pointer a0), (2, .pointer (some (pt b1 0))), (3, .pointer (some (pt b2 0))), (5, .bool s_.1)], fun s_ => [(b2, ZaR.enc s_.2), (b1, ZaR.enc ZaQ)], (rt Zab.out)⟩
noncomputable def Zab.L1 (a0 : (Option Addr)) (s35 : Bool) (s36 : Zap) : M (LS (Bool × Zap) Zap) :=
 (if s35 = true then
   nilck a0 >>= fun p45 =>
   ld (cI .i64) (Addr.add p45 19) >>= fun x46 =>
   pure (x46 == 0)
  else
   pure false) >>= fun y47 =>
 if y47 = true then
  draw >>= fun _ =>
  Za3 a0 (s36.Ports.len : Int) >>= fun r48 =>
  slot 71 >>= fun b49 =>
  appl Zbi 71 16 Zcv s36.Ports [r48] >>= fun r50 =>
  Zbw a0 str0 >>= fun r51 =>
  pure (LS.next (r51, (⟨s36.Not, s36.Nets, r50⟩ : Zap)))
 else
  pure (LS.done s36)
theorem Zab.L1_ok (a0 : (Option Addr)) (b1 : Nat) (b2 : Nat) : LJ Zab.cx (Zab.F1 a0 b1 b2) (fun s_ => Zab.L1 a0 s_.1 s_.2) := by
 rintro ⟨s35, s36⟩
 show SJ _ _ _ _ (Zab.L1 a0 s35 s36) _
 unfold Zab.L1
 refine SJ.seq <| SJ.sr 8 <| J.j 2 5 .bool ?_ ?_ fun y47 => ?_
 ·exact J.n 1 fun p45 => J.l 1 Ty29 fun x46 => J.e 2
 ·exact J.e 6
 refine J.z 0 <| J.f ?_ ?_
 ·exact SJ.skip <| SJ.seq <| SJ.block (id := 3) <| J.R 11 Zdz <| J.k 1 0 rfl Ty24 (ZbG _) <| J.k 2 0 rfl Ty24 (ZbG _) <| J.g 1 <| OJ.call (d := 73) (g := 56) (ats := #[43, 3]) (args := [.tmp 69, .tmp 72]) (owed := [⟨1, 24, (pt b2 2), cL.val s36.Ports⟩]) F56 (Zhm a0 (s36.Ports.len : Int)) fun r48 => OW.known (j := 0) (q := s36.Ports) Ty24 rfl (ZbG s36) <| OW.nil <| OJ.rowSlot (d := 74) (t := 24) (parts := [(0, .tmp 73)]) (ps := [(0, Zbi.val r48)]) (cd := Zbi) (⟨[r48], rfl⟩ : Vec ZaD 1) (owed := [⟨1, 24, (pt b2 2), cL.val s36.Ports⟩]) Ty71 (Zcf.cons (cd := Zbi) (q := r48) (o := 0) rfl (Upd.arr (i := 0) (by decide) (by decide)) Zcf.nil) fun b49 => OW.known (j := 1) (q := s36.Ports) Ty24 rfl (ZbG s36) <| OW.nil <| J.p 0 0 rfl Ty71 fun r50 => J.s 1 1 rfl Ty24 (Zew _ r50) <| J.z 0 <| SJ.inBlock <| SJ.rg 3 <| J.C 1 F28 (Zcz _ _) fun r51 => J.z 1 <| SJ.forget (List.Sublist.cons _ (List.Sublist.cons_cons _ (List.Sublist.cons_cons _ List.Sublist.slnil))) <| J.o rfl
 exact SJ.exit (id := 2) (by rfl) <| SJ.sr 2 <| J.k 0 0 rfl Ty26 (At.whole _) <| J.s 0 1 rfl Ty26 (Upd.w s36) <| J.z 0 <| J.rc (.c 1 rfl Ty26 .n)
noncomputable def Zab.K1 (a0 : (Option Addr)) (j23 : Zap) : M Zap :=
 Zci (fun s_ : (Bool × Zap) => Zab.L1 a0 s_.1 s_.2) (true, j23)
theorem Zab.K1_ok (a0 : (Option Addr)) (b1 : Nat) (b2 : Nat) (j23 : Zap) :
  SJ Zab.cx [.code (c2 (c2 (c2 (c2 (c2 Zab.B)))))] [(0, .pointer a0), (2, .pointer (some (pt b1 0))), (3, .pointer (some (pt b2 0)))] [(b2, ZaR.enc j23), (b1, ZaR.enc ZaQ)] (Zab.K1 a0 j23) (rt Zab.out) := by
 unfold Zab.K1
 exact SJ.seq <| SJ.sr 1 <| J.z 1 <| SJ.block (id := 2) <| J.L (Zab.L1_ok a0 b1 b2)
noncomputable def Zab.K2 (a0 : (Option Addr)) (j23 : Zap) : M Zap :=
 Zbw a0 ZsU >>= fun r24 =>
 if ¬ (r24 = true) then
  pure j23
 else
  nilck a0 >>= fun p25 =>
  ld (cI .i64) (Addr.add (Addr.add p25 3) 3) >>= fun x26 =>
  Zd3 x26 >>= fun r27 =>
  if ¬ (r27 = true) then
   draw >>= fun _ =>
   nilck a0 >>= fun p53 =>
   ld cL p53 >>= fun x54 =>
   nilck a0 >>= fun p55 =>
   ld (cI .i64) (Addr.add p55 1) >>= fun x56 =>
   idx x54.a x54.len (IntKind.wrap .i64 (x56 - 1)) 2 >>= fun p57 =>
   ld (cI .i64) (Addr.add p57 1) >>= fun x58 =>
   Za7 a0 165 x58 >>= fun r59 =>
   Zab.K1 a0 j23
  else
   Zab.K1 a0 j23
theorem Zab.K2_ok (a0 : (Option Addr)) (b1 : Nat) (b2 : Nat) (j23 : Zap) :
  SJ Zab.cx [.code (c2 (c2 (c2 Zab.B)))] [(0, .pointer a0), (2, .pointer (some (pt b1 0))), (3, .pointer (some (pt b2 0)))] [(b2, ZaR.enc j23), (b1, ZaR.enc ZaQ)] (Zab.K2 a0 j23) (rt Zab.out) := by
 unfold Zab.K2
 refine SJ.seq <| SJ.sr 3 <| J.C 1 F28 (Zcz _ _) fun r24 => J.z 1 <| J.f ?_ ?_
 ·exact SJ.sr 2 <| J.k 0 0 rfl Ty26 (At.whole _) <| J.s 0 1 rfl Ty26 (Upd.w j23) <| J.z 0 <| J.rc (.c 1 rfl Ty26 .n)
 refine SJ.skip <| SJ.seq <| SJ.sr 7 <| J.n 1 fun p25 => J.l 2 Ty3 fun x26 => J.C 0 F55 (Zho _) fun r27 => J.z 1 <| J.f ?_ ?_
 ·exact J.R 14 Zdz <| J.n 2 fun p53 => J.l 1 Ty40 fun x54 => J.n 1 fun p55 => J.l 1 Ty3 fun x56 => J.i 1 fun p57 => J.l 1 Ty3 fun x58 => J.C 0 F14 (Zbt _ _ _) fun r59 => J.z 0 <| J.q <| Zab.K1_ok a0 b1 b2 j23
 exact SJ.skip <| J.q <| Zab.K1_ok a0 b1 b2 j23
noncomputable def Zab.K3 (a0 : (Option Addr)) (s64 : Zap) : M Zap :=
 Zab.K2 a0 s64
theorem Zab.K3_ok (a0 : (Option Addr)) (b1 : Nat) (b2 : Nat) (s64 : Zap) :
  SJ Zab.cx [.code (c2 (c2 (c2 Zab.B)))] [(0, .pointer a0), (2, .pointer (some (pt b1 0))), (3, .pointer (some (pt b2 0)))] [(b2, ZaR.enc s64), (b1, ZaR.enc ZaQ)] (Zab.K3 a0 s64) (rt Zab.out) := by
 unfold Zab.K3
 exact J.q <| Zab.K2_ok a0 b1 b2 s64
noncomputable def Zab.F2 (a0 : (Option Addr)) (b1 : Nat) (b2 : Nat) : LF (Bool × Zap) Zap := ⟨[.inBlock 0, .code (c2 (c2 (c2 Zab.B)))], c1 (c2 (c2 (c1 (c2 (c1 (c2 (c2 Zab.B))))))), fun s_ => [(0, .pointer a0), (2, .pointer (some (pt b1 0))), (3, .pointer (some (pt b2 0))), (4, .bool s_.1)], fun s_ => [(b2, ZaR.enc s_.2), (b1, ZaR.enc ZaQ)], (rt Zab.out)⟩
noncomputable def Zab.L2 (a0 : (Option Addr)) (s63 : Bool) (s64 : Zap) : M (LS (Bool × Zap) Zap) :=
 (if s63 = true then
   nilck a0 >>= fun p73 =>
   ld (cI .i64) (Addr.add p73 19) >>= fun x74 =>
   pure (x74 == 0)
  else
   pure false) >>= fun y75 =>
 if y75 = true then
  draw >>= fun _ =>
  ZaH a0 (s64.Nets.len : Int) >>= fun r76 =>
  slot 69 >>= fun b77 =>
  appl ZaI 69 32 ZaU s64.Nets [r76] >>= fun r78 =>
  Zbw a0 str0 >>= fun r79 =>
  pure (LS.next (r79, (⟨s64.Not, r78, s64.Ports⟩ : Zap)))
 else
  (Zab.K3 a0 s64) >>= fun b => pure (LS.done b)
theorem Zab.L2_ok (a0 : (Option Addr)) (b1 : Nat) (b2 : Nat) : LJ Zab.cx (Zab.F2 a0 b1 b2) (fun s_ => Zab.L2 a0 s_.1 s_.2) := by
 rintro ⟨s63, s64⟩
 show SJ _ _ _ _ (Zab.L2 a0 s63 s64) _
 unfold Zab.L2
 refine SJ.seq <| SJ.sr 8 <| J.j 2 5 .bool ?_ ?_ fun y75 => ?_
 ·exact J.n 1 fun p73 => J.l 1 Ty29 fun x74 => J.e 2
 ·exact J.e 6
 refine J.z 0 <| J.f ?_ ?_
 ·exact SJ.skip <| SJ.seq <| SJ.block (id := 1) <| J.R 11 Zdz <| J.k 1 0 rfl Ty23 (ZbL _) <| J.k 2 0 rfl Ty23 (ZbL _) <| J.g 1 <| OJ.call (d := 28) (g := 54) (ats := #[43, 3]) (args := [.tmp 24, .tmp 27]) (owed := [⟨1, 23, (pt b2 1), cL.val s64.Nets⟩]) F54 (Zik a0 (s64.Nets.len : Int)) fun r76 => OW.known (j := 0) (q := s64.Nets) Ty23 rfl (ZbL s64) <| OW.nil <| OJ.rowSlot (d := 29) (t := 23) (parts := [(0, .tmp 28)]) (ps := [(0, ZaI.val r76)]) (cd := ZaI) (⟨[r76], rfl⟩ : Vec Zac 1) (owed := [⟨1, 23, (pt b2 1), cL.val s64.Nets⟩]) Ty69 (Zcf.cons (cd := ZaI) (q := r76) (o := 0) rfl (Upd.arr (i := 0) (by decide) (by decide)) Zcf.nil) fun b77 => OW.known (j := 1) (q := s64.Nets) Ty23 rfl (ZbL s64) <| OW.nil <| J.p 0 0 rfl Ty69 fun r78 => J.s 1 1 rfl Ty23 (ZeG _ r78) <| J.z 0 <| SJ.inBlock <| SJ.rg 3 <| J.C 1 F28 (Zcz _ _) fun r79 => J.z 1 <| SJ.forget (List.Sublist.cons _ (List.Sublist.cons_cons _ (List.Sublist.cons_cons _ List.Sublist.slnil))) <| J.o rfl
 exact SJ.exit (id := 0) (by rfl) <| J.q <| SJ.done <| Zab.K3_ok a0 b1 b2 s64
noncomputable def Zab (a0 : (Option Addr)) : M Zap :=
 slot 26 >>= fun b1 =>
 slot 26 >>= fun b2 =>
 Zbw a0 str7 >>= fun r3 =>
 if ¬ (r3 = true) then
  Zbw a0 ZsV >>= fun r62 =>
  Zci (fun s_ : (Bool × Zap) => Zab.L2 a0 s_.1 s_.2) (true, (⟨r62, ZaQ.Nets, ZaQ.Ports⟩ : Zap))
 else
  Zab.K2 a0 ZaQ
theorem ZfH (a0 : (Option Addr)) : Ref Tryz.prog 33 [.pointer a0] (Zab a0) Zab.out := by
 refine J.Fn Tryz.func33 ?_
 unfold Zab
 refine SJ.sr 1 <| J.a 0 Ty26 fun b1 => J.z 0 <| SJ.sr 1 <| J.a 0 Ty26 fun b2 => J.z 0 <| SJ.seq <| SJ.sr 3 <| J.C 1 F28 (Zcz _ _) fun r3 => J.z 1 <| J.f ?_ ?_
 ·exact SJ.sr 4 <| J.C 1 F28 (Zcz _ _) fun r62 => J.s 1 0 rfl Ty4 (ZhH _ r62) <| J.z 0 <| SJ.sr 1 <| J.z 1 <| SJ.block (id := 0) <| J.L (Zab.L2_ok a0 b1 b2)
 exact SJ.skip <| J.q <| Zab.K2_ok a0 b1 b2 ZaQ

/-! ### (*weir/rules.reader).flags: function 34 -/
noncomputable def Zan.B : Code := bod Tryz.f34
noncomputable def Zan.cx : Fx := ⟨Tryz.prog, 34, Tryz.f34, none⟩
noncomputable def Zan.out (r_ : Unit) : Value := .tuple #[]
noncomputable def Zan.F1 (a0 : (Option Addr)) : LF Bool Unit := ⟨[.inBlock 0], c1 (c2 Zan.B), fun s_ => [(0, .pointer a0), (2, .bool s_)], fun s_ => [], (rt Zan.out)⟩
noncomputable def Zan.K1 (a0 : (Option Addr)) : M (LS Bool Unit) :=
 Zbw a0 str0 >>= fun r99 =>
 pure (LS.next r99)
theorem Zan.K1_ok (a0 : (Option Addr)) :
  SJ Zan.cx [.inBlock 2, .inBlock 1, .code (c2 (c2 (c1 (c1 (c2 Zan.B))))), .inLoop (c1 (c1 (c2 Zan.B))), .inBlock 0] [(0, .pointer a0)] [] (Zan.K1 a0) (Zan.F1 a0).f := by
 unfold Zan.K1
 exact SJ.inBlock <| SJ.inBlock <| SJ.rg 3 <| J.C 1 F28 (Zcz _ _) fun r99 => J.z 1 <| J.o rfl
noncomputable def Zan.L1 (a0 : (Option Addr)) (s1 : Bool) : M (LS Bool Unit) :=
 (if s1 = true then
   nilck a0 >>= fun p2 =>
   ld (cI .i64) (Addr.add p2 19) >>= fun x3 =>
   pure (x3 == 0)
  else
   pure false) >>= fun y4 =>
 if y4 = true then
  Zcc a0 >>= fun r5 =>
  slot 48 >>= fun b6 =>
  Zco r5.s ZtV >>= fun r7 =>
  ld cL ⟨2, 0, none⟩ >>= fun x8 =>
  Zau x8 r7.1 >>= fun r9 =>
  nilck a0 >>= fun p10 =>
  ld (cI .i64) (Addr.add p10 19) >>= fun x11 =>
  if x11 ≠ 0 then
   Zan.K1 a0
  else
   if r9 < 0 then
    Za7 a0 160 r5.at_ >>= fun r143 =>
    Zan.K1 a0
   else
    draw >>= fun _ =>
    nilck a0 >>= fun p144 =>
    ld (cI .i64) (Addr.add (Addr.add p144 3) 12) >>= fun x145 =>
    nilck a0 >>= fun p146 =>
    ld (cI .i64) (Addr.add (Addr.add p146 3) 13) >>= fun x147 =>
    chk (0 ≤ (IntKind.wrap .u64 r9)) >>= fun _ =>
    if (band .i64 (Int.fdiv (bor .i64 x145 x147) (2 ^ min (Int.toNat (IntKind.wrap .u64 r9)) 64)) 1) = 1 then
     Za7 a0 165 r5.at_ >>= fun r166 =>
     Zan.K1 a0
    else
     if r7.2 = true then
      nilck a0 >>= fun p175 =>
      ld (cI .i64) (Addr.add (Addr.add p175 3) 13) >>= fun x176 =>
      chk (0 ≤ (IntKind.wrap .u64 r9)) >>= fun _ =>
      nilck a0 >>= fun p177 =>
      st (cI .i64) (Addr.add (Addr.add p177 3) 13) (bor .i64 x176 (IntKind.wrap .i64 (1 * 2 ^ min (Int.toNat (IntKind.wrap .u64 r9)) 64))) >>= fun _ =>
      Zan.K1 a0
     else
      nilck a0 >>= fun p179 =>
      ld (cI .i64) (Addr.add (Addr.add p179 3) 12) >>= fun x180 =>
      chk (0 ≤ (IntKind.wrap .u64 r9)) >>= fun _ =>
      nilck a0 >>= fun p181 =>
      st (cI .i64) (Addr.add (Addr.add p181 3) 12) (bor .i64 x180 (IntKind.wrap .i64 (1 * 2 ^ min (Int.toNat (IntKind.wrap .u64 r9)) 64))) >>= fun _ =>
      Zan.K1 a0
 else
  pure (LS.done ())
theorem Zan.L1_ok (a0 : (Option Addr)) : LJ Zan.cx (Zan.F1 a0) (fun s_ => Zan.L1 a0 s_) := by
 rintro s1
 show SJ _ _ _ _ (Zan.L1 a0 s1) _
 unfold Zan.L1
 refine SJ.seq <| SJ.sr 8 <| J.j 2 5 .bool ?_ ?_ fun y4 => ?_
 ·exact J.n 1 fun p2 => J.l 1 Ty29 fun x3 => J.e 2
 ·exact J.e 6
 refine J.z 0 <| J.f ?_ ?_
 ·refine SJ.skip <| SJ.seq <| SJ.block (id := 1) <| SJ.sr 4 <| J.C 1 F50 (Zdj _) fun r5 => J.a 0 Ty48 fun b6 => J.s 0 0 rfl Ty48 (Upd.w r5) <| J.z 0 <| SJ.sr 8 <| J.k 1 0 rfl Ty9 (Zbz _) <| J.C 0 F53 (ZfG _ _) fun r7 => J.z 5 <| SJ.sr 4 <| J.l 0 Ty22 fun x8 => J.C 1 F27 (Zdf _ _) fun r9 => J.z 1 <| SJ.block (id := 2) <| SJ.sr 6 <| J.n 1 fun p10 => J.l 1 Ty29 fun x11 => J.z 2 <| J.f ?_ ?_
  ·exact SJ.skip <| SJ.forget (List.Sublist.cons _ List.Sublist.slnil) <| J.q <| Zan.K1_ok a0
  refine SJ.sr 3 <| J.z 3 <| J.f ?_ ?_
  ·exact SJ.rg 4 <| J.k 2 0 rfl Ty3 (Zb1 _) <| J.C 0 F14 (Zbt _ _ _) fun r143 => J.z 0 <| SJ.forget (List.Sublist.cons _ List.Sublist.slnil) <| J.q <| Zan.K1_ok a0
  refine SJ.seq <| J.R 17 Zdz <| J.n 1 fun p144 => J.l 2 Ty3 fun x145 => J.n 1 fun p146 => J.l 2 Ty3 fun x147 => J.g 3 <| OJ.shr (d := 67) (T := 3) (yT := 100) (y := .tmp 64) (z := .tmp 66) (k := .i64) (yk := .u64) (p := (bor .i64 x145 x147)) (q := (IntKind.wrap .u64 r9)) fun hq185 => J.z 3 <| J.f ?_ ?_
  ·exact SJ.rg 4 <| J.k 2 0 rfl Ty3 (Zb1 _) <| J.C 0 F14 (Zbt _ _ _) fun r166 => J.z 0 <| SJ.forget (List.Sublist.cons _ List.Sublist.slnil) <| J.q <| Zan.K1_ok a0
  refine SJ.sr 2 <| J.z 2 <| J.f ?_ ?_
  ·exact SJ.rg 13 <| J.n 1 fun p175 => J.l 2 Ty3 fun x176 => J.g 2 <| OJ.shl (d := 83) (T := 3) (yT := 100) (y := .const (.int .i64 1)) (z := .tmp 82) (k := .i64) (yk := .u64) (p := 1) (q := (IntKind.wrap .u64 r9)) fun hq178 => J.n 1 fun p177 => J.w 2 Ty3 <| J.z 0 <| SJ.forget (List.Sublist.cons _ List.Sublist.slnil) <| J.q <| Zan.K1_ok a0
  exact SJ.rg 13 <| J.n 1 fun p179 => J.l 2 Ty3 fun x180 => J.g 2 <| OJ.shl (d := 35) (T := 3) (yT := 100) (y := .const (.int .i64 1)) (z := .tmp 34) (k := .i64) (yk := .u64) (p := 1) (q := (IntKind.wrap .u64 r9)) fun hq182 => J.n 1 fun p181 => J.w 2 Ty3 <| J.z 0 <| SJ.forget (List.Sublist.cons _ List.Sublist.slnil) <| J.q <| Zan.K1_ok a0
 exact SJ.exit (id := 0) (by rfl) <| SJ.end_ rfl (Res.run (ys := []) .nil rfl)
noncomputable def Zan (a0 : (Option Addr)) : M Unit :=
 Zci (fun s_ : Bool => Zan.L1 a0 s_) true
theorem Zhn (a0 : (Option Addr)) : Ref Tryz.prog 34 [.pointer a0] (Zan a0) Zan.out := by
 refine J.Fn Tryz.func34 ?_
 unfold Zan
 exact SJ.sr 1 <| J.z 1 <| SJ.block (id := 0) <| J.L (Zan.L1_ok a0)

/-! ### (*weir/rules.reader).clause: function 15 -/
noncomputable def ZaG.B : Code := bod Tryz.f15
noncomputable def ZaG.cx : Fx := ⟨Tryz.prog, 15, Tryz.f15, none⟩
noncomputable def ZaG.out (r_ : Bool) : Value := .bool r_
noncomputable def ZaG.K1  : M Bool :=
 pure true
theorem ZaG.K1_ok  :
  SJ ZaG.cx [.inBlock 0, .code (c2 (c2 ZaG.B))] [] [] (ZaG.K1) (rt ZaG.out) := by
 unfold ZaG.K1
 exact SJ.inBlock <| SJ.sr 1 <| J.z 1 <| J.r
noncomputable def ZaG (a0 : (Option Addr)) (a1 : ByteArray) : M Bool :=
 if a1.toList = ZnJ.toList then
  ZcX a0 >>= fun r238 =>
  nilck a0 >>= fun p239 =>
  st (cI .i64) (Addr.add (Addr.add p239 3) 4) (IntKind.wrap .i64 (r238 + 1)) >>= fun _ =>
  pure true
 else
  if a1.toList = ZnI.toList then
   Zb7 a0 1 4094 >>= fun r357 =>
   nilck a0 >>= fun p358 =>
   st (cI .i64) (Addr.add (Addr.add p358 3) 5) r357 >>= fun _ =>
   pure true
  else
   if a1.toList = Zkw.toList then
    Zab a0 >>= fun r416 =>
    nilck a0 >>= fun p417 =>
    st ZaR (Addr.add (Addr.add p417 3) 6) r416 >>= fun _ =>
    ZaG.K1
   else
    if a1.toList = Zl5.toList then
     Zab a0 >>= fun r445 =>
     nilck a0 >>= fun p446 =>
     st ZaR (Addr.add (Addr.add p446 3) 9) r445 >>= fun _ =>
     ZaG.K1
    else
     if a1.toList = Zj0.toList then
      Zan a0 >>= fun r459 =>
      ZaG.K1
     else
      if a1.toList = ZjZ.toList then
       Zb7 a0 0 255 >>= fun r465 =>
       nilck a0 >>= fun p466 =>
       st (cI .i64) (Addr.add (Addr.add p466 3) 14) (IntKind.wrap .i64 (r465 + 1)) >>= fun _ =>
       ZaG.K1
      else
       if a1.toList = ZnH.toList then
        nilck a0 >>= fun p468 =>
        st cB (Addr.add (Addr.add p468 3) 15) true >>= fun _ =>
        ZaG.K1
       else
        pure false
theorem Zhd (a0 : (Option Addr)) (a1 : ByteArray) : Ref Tryz.prog 15 [.pointer a0, .string a1] (ZaG a0 a1) ZaG.out := by
 refine J.Fn Tryz.func15 ?_
 unfold ZaG
 refine SJ.sr 1 <| J.z 1 <| SJ.seq <| SJ.sr 1 <| J.z 1 <| SJ.block (id := 0) <| SJ.sr 2 <| J.z 2 <| J.f ?_ ?_
 ·exact SJ.rg 8 <| J.C 2 F32 (Zh0 _) fun r238 => J.n 1 fun p239 => J.w 2 Ty3 <| J.z 0 <| SJ.inBlock <| SJ.sr 1 <| J.z 1 <| J.r
 refine SJ.sr 2 <| J.z 2 <| J.f ?_ ?_
 ·exact SJ.rg 7 <| J.C 2 F29 (Zdy _ _ _) fun r357 => J.n 0 fun p358 => J.w 2 Ty3 <| J.z 0 <| SJ.inBlock <| SJ.sr 1 <| J.z 1 <| J.r
 refine SJ.sr 2 <| J.z 2 <| J.f ?_ ?_
 ·exact SJ.rg 7 <| J.C 2 F33 (ZfH _) fun r416 => J.n 0 fun p417 => J.w 2 Ty26 <| J.z 0 <| J.q <| ZaG.K1_ok 
 refine SJ.sr 2 <| J.z 2 <| J.f ?_ ?_
 ·exact SJ.rg 7 <| J.C 2 F33 (ZfH _) fun r445 => J.n 0 fun p446 => J.w 2 Ty26 <| J.z 0 <| J.q <| ZaG.K1_ok 
 refine SJ.sr 2 <| J.z 2 <| J.f ?_ ?_
 ·exact SJ.rg 2 <| J.C 1 F34 (Zhn _) fun r459 => J.z 0 <| J.q <| ZaG.K1_ok 
 refine SJ.sr 2 <| J.z 2 <| J.f ?_ ?_
 ·exact SJ.rg 8 <| J.C 2 F29 (Zdy _ _ _) fun r465 => J.n 1 fun p466 => J.w 2 Ty3 <| J.z 0 <| J.q <| ZaG.K1_ok 
 refine SJ.sr 2 <| J.z 2 <| J.f ?_ ?_
 ·exact SJ.rg 5 <| J.n 1 fun p468 => J.w 2 Ty4 <| J.z 0 <| J.q <| ZaG.K1_ok 
 exact SJ.sr 1 <| J.z 1 <| J.r
end Go.Proofs.YtmgbjiaognomhaaGreatDoor.Lx
