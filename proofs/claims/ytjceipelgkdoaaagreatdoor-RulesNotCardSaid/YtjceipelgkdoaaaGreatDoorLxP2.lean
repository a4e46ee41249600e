/- Programs of the M-world for Go functions, each with the proof that the Go text does what it says. Printed by lxgen.py. -/
import Derived.Test.YtjceipelgkdoaaaGreatDoorLxT
import Derived.Test.YtjceipelgkdoaaaGreatDoorLxP0
import Derived.Test.YtjceipelgkdoaaaGreatDoorLxP1
set_option linter.unusedVariables false
set_option linter.unusedSimpArgs false
set_option linter.unusedSectionVars false
namespace Go.Proofs.YtjceipelgkdoaaaGreatDoor.Lx
open Go Go.Proofs
variable [Zdg]
/-! ### (*weir/rules.Set).Judge: function 8 -/
noncomputable def ZaS.B : Code := bod Tryz.f8
noncomputable def ZaS.cx : Fx := ⟨Tryz.prog, 8, Tryz.f8, none⟩
noncomputable def ZaS.out (r_ : Zbl) : Value := Zcb.val r_
noncomputable def ZaS.F1 (a0 : (Option Addr)) (b1 : Nat) (b2 : Nat) (b3 : Nat) (x5 : Sl) : LF (Int × Zbl) Zbl := ⟨[.inBlock 0, .code (c2 (c2 ZaS.B))], c1 (c2 (c1 (c2 ZaS.B))), fun s_ => [(0, .pointer a0), (4, .pointer (some (pt b1 0))), (5, .pointer (some (pt b2 0))), (6, .pointer (some (pt b3 0))), (12, Sl.v x5), (13, .int .i64 (x5.len : Int)), (14, .int .i64 s_.1)], fun s_ => [(b3, Zcb.enc s_.2)], (rt ZaS.out)⟩
noncomputable def ZaS.L1 (a0 : (Option Addr)) (b1 : Nat) (b2 : Nat) (x5 : Sl) (s6 : Int) (s7 : Zbl) : M (LS (Int × Zbl) Zbl) :=
 if s6 < (x5.len : Int) then
  idx x5.a x5.len s6 1 >>= fun p30 =>
  ld cL p30 >>= fun x31 =>
  Za0 x31 (fun (q32 : Any) => Zap q32 (pt b1 0) (pt b2 0)) >>= fun r33 =>
  if ¬ (r33 = true) then
   draw >>= fun _ =>
   nilck a0 >>= fun p42 =>
   ld cL p42 >>= fun x43 =>
   idx x43.a x43.len s6 16 >>= fun p44 =>
   ld (cI .i64) p44 >>= fun x45 =>
   nilck a0 >>= fun p46 =>
   ld cL p46 >>= fun x47 =>
   idx x47.a x47.len s6 16 >>= fun p48 =>
   ld (cI .i64) (Addr.add p48 1) >>= fun x49 =>
   pure (LS.done (⟨x45, x49, s6⟩ : Zbl))
  else
   pure (LS.next (IntKind.wrap .i64 (s6 + 1), s7))
 else
  pure (LS.done (⟨2, Zek.Class, (-1)⟩ : Zbl))
theorem ZaS.L1_ok (a0 : (Option Addr)) (b1 : Nat) (b2 : Nat) (b3 : Nat) (x5 : Sl) : LJ ZaS.cx (ZaS.F1 a0 b1 b2 b3 x5) (fun s_ => ZaS.L1 a0 b1 b2 x5 s_.1 s_.2) := by
 rintro ⟨s6, s7⟩
 show SJ _ _ _ _ (ZaS.L1 a0 b1 b2 x5 s6 s7) _
 unfold ZaS.L1
 refine SJ.sr 1 <| J.z 1 <| SJ.seq <| J.f ?_ ?_
 ·refine SJ.skip <| SJ.seq <| SJ.block (id := 1) <| SJ.sr 5 <| J.i 1 fun p30 => J.l 0 Ty71 fun x31 => J.z 2 <| SJ.sr 4 <| J.C 2 F12 (Zdq x31 ⟨.func (.func 13) #[] #[.pointer (some (pt b1 0)), .pointer (some (pt b2 0))], rfl⟩ (fun (q32 : Any) => Zap q32 (pt b1 0) (pt b2 0)) (fun q32 => RefV.of (first := []) (cap := [.pointer (some (pt b1 0)), .pointer (some (pt b2 0))]) F13 (Zhi q32 (pt b1 0) (pt b2 0)))) fun r33 => J.z 1 <| J.f ?_ ?_
  ·exact SJ.seq <| J.R 19 ZcZ <| J.n 1 fun p42 => J.l 1 Ty22 fun x43 => J.i 1 fun p44 => J.l 1 Ty3 fun x45 => J.n 1 fun p46 => J.l 1 Ty22 fun x47 => J.i 1 fun p48 => J.l 1 Ty3 fun x49 => J.u 1 Ty54 (.f 0 (Zfy _ x45) (.f 1 (Zhn _ x49) (.f 2 (Zfg _ s6) .nil))) <| J.s 0 0 rfl Ty54 (Upd.w (⟨x45, x49, s6⟩ : Zbl)) <| J.z 0 <| J.rc (.c 0 rfl Ty54 .n)
  exact SJ.skip <| SJ.inBlock <| SJ.rg 2 <| J.z 2 <| J.o rfl
 exact SJ.exit (id := 0) (by rfl) <| SJ.sr 2 <| J.u 0 Ty54 (.f 0 (Zfy _ 2) (.f 2 (Zfg _ (-1)) .nil)) <| J.s 0 0 rfl Ty54 (Upd.w (⟨2, Zek.Class, (-1)⟩ : Zbl)) <| J.z 0 <| J.rc (.c 0 rfl Ty54 .n)
noncomputable def ZaS (a0 : (Option Addr)) (a1 : Int) (a2 : Zas) : M Zbl :=
 newv 3 (cI .i64) a1 >>= fun b1 =>
 newv 47 ZaB a2 >>= fun b2 =>
 slot 54 >>= fun b3 =>
 nilck a0 >>= fun p4 =>
 ld cL (Addr.add p4 1) >>= fun x5 =>
 Zc7 (fun s_ : (Int × Zbl) => ZaS.L1 a0 b1 b2 x5 s_.1 s_.2) (0, Zek)
theorem Zfp (a0 : (Option Addr)) (a1 : Int) (a2 : Zas) : Ref Tryz.prog 8 [.pointer a0, .int .i64 a1, ZaB.val a2] (ZaS a0 a1 a2) ZaS.out := by
 refine J.Fn Tryz.func8 ?_
 unfold ZaS
 exact SJ.sr 3 <| J.B 0 fun b1 => J.B 0 fun b2 => J.a 0 Ty54 fun b3 => J.z 0 <| SJ.seq <| SJ.sr 6 <| J.n 1 fun p4 => J.l 1 Ty66 fun x5 => J.z 2 <| SJ.block (id := 0) <| J.L (ZaS.L1_ok a0 b1 b2 b3 x5)

/-! ### weir/weirlaw16.RulesNot: function 5 -/
noncomputable def ZaO.B : Code := bod Tryz.f5
noncomputable def ZaO.cx : Fx := ⟨Tryz.prog, 5, Tryz.f5, none⟩
noncomputable def ZaO.out (r_ : Bool) : Value := .bool r_
noncomputable def ZaO.K1 (a1 : Int) (a2 : Zas) (j6 : Zah) (j7 : Zah) : M Bool :=
 newv 63 (Zan.arr 1) (⟨[j7], rfl⟩ : Vec Zah 1) >>= fun b8 =>
 ZbH (⟨some (pt b8 0), 1, 1⟩ : Sl) >>= fun r9 =>
 newv 63 (Zan.arr 1) (⟨[j6], rfl⟩ : Vec Zah 1) >>= fun b10 =>
 ZbH (⟨some (pt b10 0), 1, 1⟩ : Sl) >>= fun r11 =>
 Zca r9.2.1 >>= fun r12 =>
 Zca r11.2.1 >>= fun r13 =>
 if r12 ≠ r13 then
  pure false
 else
  Zca r9.2.1 >>= fun r14 =>
  if r14 ≠ 0 then
   ZbD >>= fun r18 =>
   (if r18 = true then
     pure (Option.isNone r9.1)
    else
     pure false) >>= fun y19 =>
   (if y19 = true then
     pure (Option.isNone r11.1)
    else
     pure false) >>= fun y20 =>
   pure y20
  else
   (if r9.1 = none then
     pure true
    else
     pure (Option.isNone r11.1)) >>= fun y21 =>
   if y21 = true then
    pure false
   else
    ZaS r9.1 a1 a2 >>= fun r22 =>
    ZaS r11.1 a1 a2 >>= fun r23 =>
    (if a2.Kind < 1 then
      pure true
     else
      pure (decide (a2.Kind > 3))) >>= fun y24 =>
    if y24 = true then
     ZbD >>= fun r28 =>
     (if r28 = true then
       pure (!(r22.Rule == 0))
      else
       pure false) >>= fun y29 =>
     (if y29 = true then
       pure (!(r23.Rule == 0))
      else
       pure false) >>= fun y30 =>
     pure y30
    else
     ZbD >>= fun r31 =>
     (if r31 = true then
       pure (!((r22.Rule == 0) == (r23.Rule == 0)))
      else
       pure false) >>= fun y32 =>
     pure y32
theorem ZaO.K1_ok (a1 : Int) (a2 : Zas) (b1 : Nat) (b4 : Nat) (b5 : Nat) (j6 : Zah) (j7 : Zah) :
  SJ ZaO.cx [.code (c2 (c2 (c2 (c2 (c2 ZaO.B)))))] [(1, .int .i64 a1), (6, .pointer (some (pt b1 0))), (9, .pointer (some (pt b4 0))), (10, .pointer (some (pt b5 0)))] [(b5, Zan.enc j6), (b4, Zan.enc j7), (b1, ZaB.enc a2)] (ZaO.K1 a1 a2 j6 j7) (rt ZaO.out) := by
 unfold ZaO.K1
 refine SJ.sr 10 <| J.k 0 1 rfl Ty63 (At.whole _) <| J.N 0 Ty63 fun b8 => J.C 0 F6 (ZiR _) fun r9 => J.z 7 <| SJ.sr 10 <| J.k 0 0 rfl Ty63 (At.whole _) <| J.N 0 Ty63 fun b10 => J.C 0 F6 (ZiR _) fun r11 => J.z 7 <| SJ.seq <| SJ.sr 5 <| J.C 1 F7 (Zc0 _) fun r12 => J.C 1 F7 (Zc0 _) fun r13 => J.z 1 <| J.f ?_ ?_
 ·exact SJ.sr 1 <| J.z 1 <| J.r
 refine SJ.skip <| SJ.seq <| SJ.sr 3 <| J.C 1 F7 (Zc0 _) fun r14 => J.z 1 <| J.f ?_ ?_
 ·refine SJ.sr 10 <| J.C 0 F9 Zdh fun r18 => J.j 1 2 .bool ?_ ?_ fun y19 => ?_
  ·exact J.e 3
  ·exact J.e 3
  refine J.j 1 2 .bool ?_ ?_ fun y20 => ?_
  ·exact J.e 3
  ·exact J.e 3
  exact J.z 1 <| J.r
 refine SJ.skip <| SJ.seq <| SJ.sr 6 <| J.j 3 2 .bool ?_ ?_ fun y21 => ?_
 ·exact J.e 3
 ·exact J.e 3
 refine J.z 0 <| J.f ?_ ?_
 ·exact SJ.sr 1 <| J.z 1 <| J.r
 refine SJ.skip <| SJ.sr 7 <| J.k 2 2 rfl Ty47 (At.whole _) <| J.C 0 F8 (Zfp _ _ _) fun r22 => OJ.field (d := 77) (S := 54) (f := 2) (T := 3) (y := .tmp 76) (o := 2) (l := Zcb.enc r22) (cd := (cI .i64)) r22.Rule Ty3 (Zfk r22) <| J.z 2 <| SJ.sr 7 <| J.k 2 2 rfl Ty47 (At.whole _) <| J.C 0 F8 (Zfp _ _ _) fun r23 => OJ.field (d := 83) (S := 54) (f := 2) (T := 3) (y := .tmp 82) (o := 2) (l := Zcb.enc r23) (cd := (cI .i64)) r23.Rule Ty3 (Zfk r23) <| J.z 2 <| SJ.seq <| SJ.sr 8 <| J.k 1 2 rfl Ty3 (Zb6 _) <| J.j 2 3 .bool ?_ ?_ fun y24 => ?_
 ·exact J.e 4
 ·exact J.k 1 2 rfl Ty3 (Zb6 _) <| J.e 2
 refine J.z 0 <| J.f ?_ ?_
 ·refine SJ.sr 10 <| J.C 0 F9 Zdh fun r28 => J.j 1 2 .bool ?_ ?_ fun y29 => ?_
  ·exact J.e 3
  ·exact J.e 3
  refine J.j 1 2 .bool ?_ ?_ fun y30 => ?_
  ·exact J.e 3
  ·exact J.e 3
  exact J.z 1 <| J.r
 refine SJ.skip <| SJ.sr 7 <| J.C 0 F9 Zdh fun r31 => J.j 1 3 .bool ?_ ?_ fun y32 => ?_
 ·exact J.e 4
 ·exact J.e 4
 exact J.z 1 <| J.r
noncomputable def ZaO (a0 : Sl) (a1 : Int) (a2 : Zas) (a3 : Bool) : M Bool :=
 slot 47 >>= fun b1 =>
 if (a0.len : Int) = 0 then
  ZbD >>= fun r3 =>
  pure r3
 else
  slot 63 >>= fun b4 =>
  slot 63 >>= fun b5 =>
  if a3 = true then
   ZaO.K1 a1 a2 (⟨1, Zaa.Class, Zaa.Kind, Zaa.Proto, Zaa.In, Zaa.Vid, Zaa.From, (⟨true, a0, Zaw.Ports⟩ : Zae), Zaa.Set, Zaa.Clear, Zaa.Type_, Zaa.Pieces⟩ : Zah) (⟨1, Zaa.Class, Zaa.Kind, Zaa.Proto, Zaa.In, Zaa.Vid, Zaa.From, (⟨Zaw.Not, a0, Zaw.Ports⟩ : Zae), Zaa.Set, Zaa.Clear, Zaa.Type_, Zaa.Pieces⟩ : Zah)
  else
   ZaO.K1 a1 a2 (⟨1, Zaa.Class, Zaa.Kind, Zaa.Proto, Zaa.In, Zaa.Vid, (⟨true, a0, Zaw.Ports⟩ : Zae), Zaa.To, Zaa.Set, Zaa.Clear, Zaa.Type_, Zaa.Pieces⟩ : Zah) (⟨1, Zaa.Class, Zaa.Kind, Zaa.Proto, Zaa.In, Zaa.Vid, (⟨Zaw.Not, a0, Zaw.Ports⟩ : Zae), Zaa.To, Zaa.Set, Zaa.Clear, Zaa.Type_, Zaa.Pieces⟩ : Zah)
theorem Zgx (a0 : Sl) (a1 : Int) (a2 : Zas) (a3 : Bool) : Ref Tryz.prog 5 [Sl.v a0, .int .i64 a1, ZaB.val a2, .bool a3] (ZaO a0 a1 a2 a3) ZaO.out := by
 refine J.Fn Tryz.func5 ?_
 unfold ZaO
 refine SJ.sr 2 <| J.b 0 ZaB a2 fun b1 => J.z 1 <| SJ.seq <| SJ.sr 3 <| J.z 3 <| J.f ?_ ?_
 ·exact SJ.sr 2 <| J.C 0 F9 Zdh fun r3 => J.z 1 <| J.r
 refine SJ.skip <| SJ.sr 5 <| J.u 1 Ty61 (.f 1 (Zcq _ a0) .nil) <| J.u 0 Ty63 (.f 0 (Zcm _ 1) (.f 6 (ZcH _ (⟨Zaw.Not, a0, Zaw.Ports⟩ : Zae)) .nil)) <| J.a 0 Ty63 fun b4 => J.s 0 0 rfl Ty63 (Upd.w (⟨1, Zaa.Class, Zaa.Kind, Zaa.Proto, Zaa.In, Zaa.Vid, (⟨Zaw.Not, a0, Zaw.Ports⟩ : Zae), Zaa.To, Zaa.Set, Zaa.Clear, Zaa.Type_, Zaa.Pieces⟩ : Zah)) <| J.z 0 <| SJ.sr 5 <| J.u 1 Ty61 (.f 1 (Zcq _ a0) (.f 0 (Zfh _ true) .nil)) <| J.u 0 Ty63 (.f 0 (Zcm _ 1) (.f 6 (ZcH _ (⟨true, a0, Zaw.Ports⟩ : Zae)) .nil)) <| J.a 0 Ty63 fun b5 => J.s 0 0 rfl Ty63 (Upd.w (⟨1, Zaa.Class, Zaa.Kind, Zaa.Proto, Zaa.In, Zaa.Vid, (⟨true, a0, Zaw.Ports⟩ : Zae), Zaa.To, Zaa.Set, Zaa.Clear, Zaa.Type_, Zaa.Pieces⟩ : Zah)) <| J.z 0 <| SJ.seq <| SJ.sr 1 <| J.z 1 <| J.f ?_ ?_
 ·exact SJ.sr 4 <| J.u 1 Ty61 (.f 1 (Zcq _ a0) .nil) <| J.u 0 Ty63 (.f 0 (Zcm _ 1) (.f 7 (Zdd _ (⟨Zaw.Not, a0, Zaw.Ports⟩ : Zae)) .nil)) <| J.s 0 1 rfl Ty63 (Upd.w (⟨1, Zaa.Class, Zaa.Kind, Zaa.Proto, Zaa.In, Zaa.Vid, Zaa.From, (⟨Zaw.Not, a0, Zaw.Ports⟩ : Zae), Zaa.Set, Zaa.Clear, Zaa.Type_, Zaa.Pieces⟩ : Zah)) <| J.z 0 <| SJ.rg 4 <| J.u 1 Ty61 (.f 1 (Zcq _ a0) (.f 0 (Zfh _ true) .nil)) <| J.u 0 Ty63 (.f 0 (Zcm _ 1) (.f 7 (Zdd _ (⟨true, a0, Zaw.Ports⟩ : Zae)) .nil)) <| J.s 0 0 rfl Ty63 (Upd.w (⟨1, Zaa.Class, Zaa.Kind, Zaa.Proto, Zaa.In, Zaa.Vid, Zaa.From, (⟨true, a0, Zaw.Ports⟩ : Zae), Zaa.Set, Zaa.Clear, Zaa.Type_, Zaa.Pieces⟩ : Zah)) <| J.z 0 <| J.q <| ZaO.K1_ok a1 a2 b1 b4 b5 (⟨1, Zaa.Class, Zaa.Kind, Zaa.Proto, Zaa.In, Zaa.Vid, Zaa.From, (⟨true, a0, Zaw.Ports⟩ : Zae), Zaa.Set, Zaa.Clear, Zaa.Type_, Zaa.Pieces⟩ : Zah) (⟨1, Zaa.Class, Zaa.Kind, Zaa.Proto, Zaa.In, Zaa.Vid, Zaa.From, (⟨Zaw.Not, a0, Zaw.Ports⟩ : Zae), Zaa.Set, Zaa.Clear, Zaa.Type_, Zaa.Pieces⟩ : Zah)
 exact SJ.skip <| J.q <| ZaO.K1_ok a1 a2 b1 b4 b5 (⟨1, Zaa.Class, Zaa.Kind, Zaa.Proto, Zaa.In, Zaa.Vid, (⟨true, a0, Zaw.Ports⟩ : Zae), Zaa.To, Zaa.Set, Zaa.Clear, Zaa.Type_, Zaa.Pieces⟩ : Zah) (⟨1, Zaa.Class, Zaa.Kind, Zaa.Proto, Zaa.In, Zaa.Vid, (⟨Zaw.Not, a0, Zaw.Ports⟩ : Zae), Zaa.To, Zaa.Set, Zaa.Clear, Zaa.Type_, Zaa.Pieces⟩ : Zah)
end Go.Proofs.YtjceipelgkdoaaaGreatDoor.Lx
