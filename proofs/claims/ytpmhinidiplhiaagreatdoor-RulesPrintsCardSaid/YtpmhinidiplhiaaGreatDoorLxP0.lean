/- Programs of the M-world for Go functions, each with the proof that the Go text does what it says. Printed by lxgen.py. -/
import Derived.Test.YtpmhinidiplhiaaGreatDoorLxT
set_option linter.unusedVariables false
set_option linter.unusedSimpArgs false
set_option linter.unusedSectionVars false
namespace Go.Proofs.YtpmhinidiplhiaaGreatDoor.Lx
open Go Go.Proofs
variable [Zdr]
/-! ### weir/weirref16.CloneSide: function 109 -/
noncomputable def Zci.out (r_ : Zae) : Value := Zaw.val r_
noncomputable def Zci (a0 : Zae) : M Zae :=
 slot 26 >>= fun b1 =>
 slot 26 >>= fun b2 =>
 appS ZaF 117 32 Zbl Sl.nil a0.Nets >>= fun r3 =>
 appS Zbb 147 16 ZeD Sl.nil a0.Ports >>= fun r4 =>
 pure (⟨a0.Not, r3, r4⟩ : Zae)
theorem Zgk (a0 : Zae) : Ref Tryz.prog 109 [Zaw.val a0] (Zci a0) Zci.out := by
 refine J.Fn Tryz.func109 ?_
 unfold Zci
 exact SJ.sr 2 <| J.b 0 Zaw a0 fun b1 => J.a 0 Ty26 fun b2 => J.z 0 <| SJ.sr 1 <| J.z 1 <| SJ.sr 1 <| J.z 1 <| SJ.sr 6 <| J.k 2 1 rfl Ty23 (ZaY _) <| OJ.appS (d := 8) (t := 23) (u := 23) (so := .tmp 5) (xo := .tmp 7) (owed := []) Zcb fun r3 => OW.nil <| J.s 1 1 rfl Ty23 (ZdM _ r3) <| J.z 0 <| SJ.sr 6 <| J.k 2 1 rfl Ty24 (ZaH _) <| OJ.appS (d := 13) (t := 24) (u := 24) (so := .tmp 10) (xo := .tmp 12) (owed := []) ZeJ fun r4 => OW.nil <| J.s 1 1 rfl Ty24 (Zdv _ r4) <| J.z 0 <| SJ.sr 2 <| J.k 0 1 rfl Ty26 (At.whole _) <| J.s 0 0 rfl Ty26 (Upd.w (⟨a0.Not, r3, r4⟩ : Zae)) <| J.z 0 <| J.rc (.c 0 rfl Ty26 .n)

/-! ### weir/weirlaw16.laidSide: function 60 -/
noncomputable def ZaA.B : Code := bod Tryz.f60
noncomputable def ZaA.cx : Fx := ⟨Tryz.prog, 60, Tryz.f60, none⟩
noncomputable def ZaA.out (r_ : Zae) : Value := Zaw.val r_
noncomputable def ZaA.K1 (a0 : Zae) (s5 : Sl) (s6 : Sl) : M Zae :=
 draw >>= fun _ =>
 cut 18 s5 none (some (a0.Nets.len : Int)) none >>= fun r13 =>
 cut 2 s6 none (some (a0.Ports.len : Int)) none >>= fun r14 =>
 pure (⟨a0.Not, r13, r14⟩ : Zae)
theorem ZaA.K1_ok (a0 : Zae) (b1 : Nat) (b2 : Nat) (s5 : Sl) (s6 : Sl) :
  SJ ZaA.cx [.code (c2 (c2 (c2 (c2 (c2 ZaA.B)))))] [(1, .pointer (some (pt b1 0))), (2, .pointer (some (pt b2 0))), (4, Sl.v s5), (5, Sl.v s6)] [(b2, Zaw.enc Za0), (b1, Zaw.enc a0)] (ZaA.K1 a0 s5 s6) (rt ZaA.out) := by
 unfold ZaA.K1
 exact SJ.seq <| J.R 14 ZcR <| J.k 1 1 rfl Ty4 (Zc5 _) <| J.k 2 1 rfl Ty23 (ZaY _) <| J.cs 1 fun r13 => J.k 2 1 rfl Ty24 (ZaH _) <| J.cs 1 fun r14 => J.u 0 Ty26 (.f 0 (ZgV _ a0.Not) (.f 1 (ZdM _ r13) (.f 2 (Zdv _ r14) .nil))) <| J.s 0 0 rfl Ty26 (Upd.w (⟨a0.Not, r13, r14⟩ : Zae)) <| J.z 0 <| J.rc (.c 0 rfl Ty26 .n)
noncomputable def ZaA.F1 (a0 : Zae) (b1 : Nat) (b2 : Nat) : LF (Sl × Sl × Int) Zae := ⟨[.inBlock 0, .code (c2 (c2 (c2 (c2 (c2 ZaA.B)))))], c1 (c2 (c1 (c2 (c2 (c2 (c2 ZaA.B)))))), fun s_ => [(1, .pointer (some (pt b1 0))), (2, .pointer (some (pt b2 0))), (4, Sl.v s_.1), (5, Sl.v s_.2.1), (6, .int .i64 s_.2.2)], fun s_ => [(b2, Zaw.enc Za0), (b1, Zaw.enc a0)], (rt ZaA.out)⟩
noncomputable def ZaA.L1 (a0 : Zae) (s5 : Sl) (s6 : Sl) (s7 : Int) : M (LS (Sl × Sl × Int) Zae) :=
 if s7 < 20 then
  slot 117 >>= fun b15 =>
  appl ZaF 117 32 Zbl s5 [(⟨Zbl.IP, (-201)⟩ : Zap)] >>= fun r16 =>
  slot 147 >>= fun b17 =>
  appl Zbb 147 16 ZeD s6 [(⟨(-202), (-203)⟩ : ZaZ)] >>= fun r18 =>
  pure (LS.next (r16, r18, IntKind.wrap .i64 (s7 + 1)))
 else
  (ZaA.K1 a0 s5 s6) >>= fun b => pure (LS.done b)
theorem ZaA.L1_ok (a0 : Zae) (b1 : Nat) (b2 : Nat) : LJ ZaA.cx (ZaA.F1 a0 b1 b2) (fun s_ => ZaA.L1 a0 s_.1 s_.2.1 s_.2.2) := by
 rintro ⟨s5, s6, s7⟩
 show SJ _ _ _ _ (ZaA.L1 a0 s5 s6 s7) _
 unfold ZaA.L1
 refine SJ.seq <| SJ.sr 2 <| J.z 2 <| J.f ?_ ?_
 ·exact SJ.skip <| SJ.seq <| SJ.block (id := 1) <| SJ.sr 5 <| J.u 1 Zcb (.f 1 (ZcZ _ (-201)) .nil) <| J.S 0 [(⟨Zbl.IP, (-201)⟩ : Zap)] Zcb fun b15 => J.p 0 0 rfl Zcb fun r16 => J.z 1 <| SJ.rg 5 <| J.u 1 ZeJ (.f 0 (Zdw _ (-202)) (.f 1 (Zdx _ (-203)) .nil)) <| J.S 0 [(⟨(-202), (-203)⟩ : ZaZ)] ZeJ fun b17 => J.p 0 0 rfl ZeJ fun r18 => J.z 1 <| SJ.inBlock <| SJ.rg 3 <| J.z 3 <| SJ.forget (List.Sublist.cons _ (List.Sublist.cons _ (List.Sublist.cons_cons _ (List.Sublist.cons_cons _ List.Sublist.slnil)))) <| J.o rfl
 exact SJ.exit (id := 0) (by rfl) <| J.q <| SJ.done <| ZaA.K1_ok a0 b1 b2 s5 s6
noncomputable def ZaA (a0 : Zae) : M Zae :=
 slot 26 >>= fun b1 =>
 slot 26 >>= fun b2 =>
 Zci a0 >>= fun r3 =>
 slot 26 >>= fun b4 =>
 Zb9 (fun s_ : (Sl × Sl × Int) => ZaA.L1 a0 s_.1 s_.2.1 s_.2.2) (r3.Nets, r3.Ports, 0)
theorem ZeP (a0 : Zae) : Ref Tryz.prog 60 [Zaw.val a0] (ZaA a0) ZaA.out := by
 refine J.Fn Tryz.func60 ?_
 unfold ZaA
 exact SJ.sr 2 <| J.b 0 Zaw a0 fun b1 => J.a 0 Ty26 fun b2 => J.z 0 <| SJ.sr 4 <| J.k 0 1 rfl Ty26 (At.whole _) <| J.C 0 F109 (Zgk _) fun r3 => J.a 0 Ty26 fun b4 => J.s 0 0 rfl Ty26 (Upd.w r3) <| J.z 0 <| SJ.sr 3 <| J.k 1 0 rfl Ty23 (ZaY _) <| J.z 1 <| SJ.sr 3 <| J.k 1 0 rfl Ty24 (ZaH _) <| J.z 1 <| SJ.seq <| SJ.sr 1 <| J.z 1 <| SJ.block (id := 0) <| SJ.forget (List.Sublist.cons _ (List.Sublist.cons_cons _ (List.Sublist.cons_cons _ List.Sublist.slnil))) <| J.L (ZaA.L1_ok a0 b1 b2)

/-! ### weir/weirlaw16.laid: function 20 -/
noncomputable def Zdn.out (r_ : Zag) : Value := Zak.val r_
noncomputable def Zdn (a0 : Zag) : M Zag :=
 slot 28 >>= fun b1 =>
 slot 28 >>= fun b2 =>
 ZaA a0.From >>= fun r3 =>
 ZaA a0.To >>= fun r4 =>
 pure (⟨a0.Act, a0.Class, a0.Kind, a0.Proto, a0.In, a0.Vid, r3, r4, a0.Set, a0.Clear, a0.Type_, a0.Pieces⟩ : Zag)
theorem Zis (a0 : Zag) : Ref Tryz.prog 20 [Zak.val a0] (Zdn a0) Zdn.out := by
 refine J.Fn Tryz.func20 ?_
 unfold Zdn
 exact SJ.sr 2 <| J.b 0 Zak a0 fun b1 => J.a 0 Ty28 fun b2 => J.z 0 <| SJ.sr 5 <| J.k 1 1 rfl Ty26 (Zcu _) <| J.C 0 F60 (ZeP _) fun r3 => J.s 1 1 rfl Ty26 (ZdN _ r3) <| J.z 0 <| SJ.sr 5 <| J.k 1 1 rfl Ty26 (Zcl _) <| J.C 0 F60 (ZeP _) fun r4 => J.s 1 1 rfl Ty26 (Zeb _ r4) <| J.z 0 <| SJ.sr 2 <| J.k 0 1 rfl Ty28 (At.whole _) <| J.s 0 0 rfl Ty28 (Upd.w (⟨a0.Act, a0.Class, a0.Kind, a0.Proto, a0.In, a0.Vid, r3, r4, a0.Set, a0.Clear, a0.Type_, a0.Pieces⟩ : Zag)) <| J.z 0 <| J.rc (.c 0 rfl Ty28 .n)

/-! ### weir/rules.within: function 61 -/
noncomputable def ZbL.out (r_ : Bool) : Value := .bool r_
noncomputable def ZbL (a0 : Int) (a1 : Int) (a2 : Int) : M Bool :=
 (if a0 ≥ a1 then
   pure (decide (a0 ≤ a2))
  else
   pure false) >>= fun y1 =>
 pure y1
theorem Zca (a0 : Int) (a1 : Int) (a2 : Int) : Ref Tryz.prog 61 [.int .i64 a0, .int .i64 a1, .int .i64 a2] (ZbL a0 a1 a2) ZbL.out := by
 refine J.Fn Tryz.func61 ?_
 unfold ZbL
 refine SJ.sr 1 <| J.z 1 <| SJ.sr 9 <| J.j 4 3 .bool ?_ ?_ fun y1 => ?_
 ·exact J.e 4
 ·exact J.e 4
 exact J.z 1 <| J.r

/-! ### weir/rules.typed: function 48 -/
noncomputable def ZdF.out (r_ : Bool) : Value := .bool r_
noncomputable def ZdF (a0 : Int) : M Bool :=
 (if a0 = 1 then
   pure true
  else
   pure (a0 == 58)) >>= fun y1 =>
 pure y1
theorem Zhn (a0 : Int) : Ref Tryz.prog 48 [.int .i64 a0] (ZdF a0) ZdF.out := by
 refine J.Fn Tryz.func48 ?_
 unfold ZdF
 refine SJ.sr 1 <| J.z 1 <| SJ.sr 7 <| J.j 3 2 .bool ?_ ?_ fun y1 => ?_
 ·exact J.e 3
 ·exact J.e 3
 exact J.z 1 <| J.r

/-! ### weir/rules.version: function 151 -/
noncomputable def Zd2.out (r_ : Int) : Value := .int .i64 r_
noncomputable def Zd2 (a0 : Int) : M Int :=
 if a0 = 1 then
  if a0 = 1 then
   pure 4
  else
   if a0 = 3 then
    pure 6
   else
    pure 0
 else
  if a0 = 2 then
   pure 4
  else
   if a0 = 3 then
    pure 6
   else
    pure 0
theorem Zjc (a0 : Int) : Ref Tryz.prog 151 [.int .i64 a0] (Zd2 a0) Zd2.out := by
 refine J.Fn Tryz.func151 ?_
 unfold Zd2
 refine SJ.sr 1 <| J.z 1 <| SJ.seq <| SJ.sr 1 <| J.z 1 <| SJ.block (id := 0) <| SJ.seq <| SJ.sr 2 <| J.z 2 <| J.f ?_ ?_
 ·refine SJ.skip <| J.f ?_ ?_
  ·exact SJ.sr 1 <| J.z 1 <| J.r
  refine SJ.sr 2 <| J.z 2 <| J.f ?_ ?_
  ·exact SJ.sr 1 <| J.z 1 <| J.r
  exact SJ.skip <| SJ.inBlock <| SJ.sr 1 <| J.z 1 <| J.r
 refine SJ.rg 2 <| J.z 2 <| J.f ?_ ?_
 ·exact SJ.sr 1 <| J.z 1 <| J.r
 refine SJ.sr 2 <| J.z 2 <| J.f ?_ ?_
 ·exact SJ.sr 1 <| J.z 1 <| J.r
 exact SJ.skip <| SJ.inBlock <| SJ.sr 1 <| J.z 1 <| J.r

/-! ### weir/addr.size: function 181 -/
noncomputable def Zex.out (r_ : Int) : Value := .int .i64 r_
noncomputable def Zex (a0 : Zbe) : M Int :=
 newv 66 Zbo a0 >>= fun b1 =>
 ld (cI .i64) (pt b1 0) >>= fun x2 =>
 if x2 = 6 then
  pure 128
 else
  ld (cI .i64) (pt b1 0) >>= fun x3 =>
  (if x3 ≠ 4 then
    pure true
   else
    cut 1 ⟨some (Addr.add (pt b1 0) 1), 16, 16⟩ (some 4) none none >>= fun r4 =>
    (chk (12 ≤ r4.len) >>= fun _ => nilck r4.a) >>= fun p5 =>
    ld ((cI .u8).arr 12) p5 >>= fun x6 =>
    pure (!eqv x6 (⟨[0, 0, 0, 0, 0, 0, 0, 0, 0, 0, 0, 0], rfl⟩ : (Vec Int 12)))) >>= fun y7 =>
  if y7 = true then
   pure 0
  else
   pure 32
theorem ZgS (a0 : Zbe) : Ref Tryz.prog 181 [Zbo.val a0] (Zex a0) Zex.out := by
 refine J.Fn Tryz.func181 ?_
 unfold Zex
 refine SJ.sr 2 <| J.B 0 fun b1 => J.z 1 <| SJ.seq <| SJ.sr 3 <| J.l 1 Ty3 fun x2 => J.z 1 <| J.f ?_ ?_
 ·exact SJ.sr 1 <| J.z 1 <| J.r
 refine SJ.skip <| SJ.seq <| SJ.sr 11 <| J.l 1 Ty3 fun x3 => J.j 2 6 .bool ?_ ?_ fun y7 => ?_
 ·exact J.e 7
 ·exact J.ca 1 fun r4 => OJ.toArr (d := 12) (t := 280) (E := 5) (y := .tmp 11) (s := r4) fun p5 => J.l 0 Zr0 fun x6 => J.u 0 Zr0 .nil <| OJ.neq (d := 15) (T := 280) (yT := 280) (y := .tmp 13) (z := .tmp 14) (cd := ((cI .u8).arr 12)) (p := x6) (q := (⟨[0, 0, 0, 0, 0, 0, 0, 0, 0, 0, 0, 0], rfl⟩ : (Vec Int 12))) rfl Zud <| J.e 1
 refine J.z 0 <| J.f ?_ ?_
 ·exact SJ.sr 1 <| J.z 1 <| J.r
 exact SJ.skip <| SJ.sr 1 <| J.z 1 <| J.r

/-! ### weir/addr.masked: function 182 -/
noncomputable def ZbC.B : Code := bod Tryz.f182
noncomputable def ZbC.cx : Fx := ⟨Tryz.prog, 182, Tryz.f182, none⟩
noncomputable def ZbC.out (r_ : (Vec Int 16)) : Value := ((cI .u8).arr 16).val r_
noncomputable def ZbC.F1 (a0 : (Vec Int 16)) (a1 : Int) (b1 : Nat) (b2 : Nat) (b3 : Nat) : LF (Int × (Vec Int 16)) (Vec Int 16) := ⟨[.inBlock 0, .code (c2 (c2 (c2 ZbC.B)))], c1 (c2 (c1 (c2 (c2 ZbC.B)))), fun s_ => [(1, .int .i64 a1), (2, .pointer (some (pt b1 0))), (4, .pointer (some (pt b2 0))), (5, .pointer (some (pt b3 0))), (8, .int .i64 s_.1)], fun s_ => [(b3, ((cI .u8).arr 16).enc s_.2), (b2, ((cI .u8).arr 16).enc (Vec.rep 16 0)), (b1, ((cI .u8).arr 16).enc a0)], (rt ZbC.out)⟩
noncomputable def ZbC.L1 (a0 : (Vec Int 16)) (a1 : Int) (s4 : Int) (s5 : (Vec Int 16)) : M (LS (Int × (Vec Int 16)) (Vec Int 16)) :=
 if s4 < 16 then
  chk ((0 : Int) ≤ s4 ∧ s4 < (16 : Nat)) >>= fun _ =>
  chk (0 ≤ (IntKind.wrap .u64 (if (if 0 < (IntKind.wrap .i64 (a1 - (IntKind.wrap .i64 (8 * s4)))) then (IntKind.wrap .i64 (a1 - (IntKind.wrap .i64 (8 * s4)))) else 0) < 8 then (if 0 < (IntKind.wrap .i64 (a1 - (IntKind.wrap .i64 (8 * s4)))) then (IntKind.wrap .i64 (a1 - (IntKind.wrap .i64 (8 * s4)))) else 0) else 8))) >>= fun _ =>
  chk ((0 : Int) ≤ s4 ∧ s4 < (16 : Nat)) >>= fun _ =>
  pure (LS.next (IntKind.wrap .i64 (s4 + 1), (Vec.s s5 s4 (band .u8 (Vec.g a0 s4 0) (IntKind.wrap .u8 (Int.fdiv 65280 (2 ^ min (Int.toNat (IntKind.wrap .u64 (if (if 0 < (IntKind.wrap .i64 (a1 - (IntKind.wrap .i64 (8 * s4)))) then (IntKind.wrap .i64 (a1 - (IntKind.wrap .i64 (8 * s4)))) else 0) < 8 then (if 0 < (IntKind.wrap .i64 (a1 - (IntKind.wrap .i64 (8 * s4)))) then (IntKind.wrap .i64 (a1 - (IntKind.wrap .i64 (8 * s4)))) else 0) else 8))) 64)))))))
 else
  pure (LS.done s5)
theorem ZbC.L1_ok (a0 : (Vec Int 16)) (a1 : Int) (b1 : Nat) (b2 : Nat) (b3 : Nat) : LJ ZbC.cx (ZbC.F1 a0 a1 b1 b2 b3) (fun s_ => ZbC.L1 a0 a1 s_.1 s_.2) := by
 rintro ⟨s4, s5⟩
 show SJ _ _ _ _ (ZbC.L1 a0 a1 s4 s5) _
 unfold ZbC.L1
 refine SJ.sr 1 <| J.z 1 <| SJ.seq <| J.f ?_ ?_
 ·exact SJ.skip <| SJ.seq <| SJ.block (id := 1) <| SJ.sr 2 <| J.z 2 <| SJ.sr 7 <| J.g 4 <| OJ.max (d := 15) (t := 3) (u := 3) (so := .const (.int .i64 0)) (xo := .tmp 14) (k := .i64) (p := 0) (q := (IntKind.wrap .i64 (a1 - (IntKind.wrap .i64 (8 * s4))))) <| OJ.min (d := 16) (t := 3) (u := 3) (so := .const (.int .i64 8)) (xo := .tmp 15) (k := .i64) (p := 8) (q := (if 0 < (IntKind.wrap .i64 (a1 - (IntKind.wrap .i64 (8 * s4)))) then (IntKind.wrap .i64 (a1 - (IntKind.wrap .i64 (8 * s4)))) else 0)) <| J.z 1 <| SJ.rg 11 <| J.y 2 fun hb12 hb13 => J.k 0 2 rfl Ty5 (At.zero (At.arr (z := 0) hb12 hb13)) <| J.g 2 <| OJ.shr (d := 23) (T := 3) (yT := 194) (y := .const (.int .i64 65280)) (z := .tmp 22) (k := .i64) (yk := .u64) (p := 65280) (q := (IntKind.wrap .u64 (if (if 0 < (IntKind.wrap .i64 (a1 - (IntKind.wrap .i64 (8 * s4)))) then (IntKind.wrap .i64 (a1 - (IntKind.wrap .i64 (8 * s4)))) else 0) < 8 then (if 0 < (IntKind.wrap .i64 (a1 - (IntKind.wrap .i64 (8 * s4)))) then (IntKind.wrap .i64 (a1 - (IntKind.wrap .i64 (8 * s4)))) else 0) else 8))) fun hq16 => J.y 2 fun hb14 hb15 => J.s (u := (band .u8 (Vec.g a0 s4 0) (IntKind.wrap .u8 (Int.fdiv 65280 (2 ^ min (Int.toNat (IntKind.wrap .u64 (if (if 0 < (IntKind.wrap .i64 (a1 - (IntKind.wrap .i64 (8 * s4)))) then (IntKind.wrap .i64 (a1 - (IntKind.wrap .i64 (8 * s4)))) else 0) < 8 then (if 0 < (IntKind.wrap .i64 (a1 - (IntKind.wrap .i64 (8 * s4)))) then (IntKind.wrap .i64 (a1 - (IntKind.wrap .i64 (8 * s4)))) else 0) else 8))) 64))))) 0 0 rfl Ty5 (Upd.zero (Upd.arr hb14 hb15)) <| J.z 0 <| SJ.inBlock <| SJ.rg 2 <| J.z 2 <| J.o rfl
 exact SJ.exit (id := 0) (by rfl) <| SJ.sr 2 <| J.k 0 0 rfl Ty64 (At.whole _) <| J.s 0 1 rfl Ty64 (Upd.w s5) <| J.z 0 <| J.rc (.c 1 rfl Ty64 .n)
noncomputable def ZbC (a0 : (Vec Int 16)) (a1 : Int) : M (Vec Int 16) :=
 slot 64 >>= fun b1 =>
 slot 64 >>= fun b2 =>
 slot 64 >>= fun b3 =>
 Zb9 (fun s_ : (Int × (Vec Int 16)) => ZbC.L1 a0 a1 s_.1 s_.2) (0, (Vec.rep 16 0))
theorem ZkC (a0 : (Vec Int 16)) (a1 : Int) : Ref Tryz.prog 182 [((cI .u8).arr 16).val a0, .int .i64 a1] (ZbC a0 a1) ZbC.out := by
 refine J.Fn Tryz.func182 ?_
 unfold ZbC
 exact SJ.sr 2 <| J.b 0 ((cI .u8).arr 16) a0 fun b1 => J.a 0 Ty64 fun b2 => J.z 0 <| SJ.sr 1 <| J.a 0 Ty64 fun b3 => J.z 0 <| SJ.seq <| SJ.sr 1 <| J.z 1 <| SJ.block (id := 0) <| J.L (ZbC.L1_ok a0 a1 b1 b2 b3)

/-! ### weir/addr.ValidPrefix: function 152 -/
noncomputable def Zcg.out (r_ : Int) : Value := .int .i64 r_
noncomputable def Zcg (a0 : Zap) : M Int :=
 slot 117 >>= fun b1 =>
 Zex a0.IP >>= fun r2 =>
 if r2 = 0 then
  pure 40
 else
  (if a0.Len < 0 then
    pure true
   else
    pure (decide (a0.Len > r2))) >>= fun y9 =>
  if y9 = true then
   pure 45
  else
   draw >>= fun _ =>
   ZbC a0.IP.A a0.Len >>= fun r12 =>
   if ¬ (r12 = a0.IP.A) then
    pure 46
   else
    pure 0
theorem Zeh (a0 : Zap) : Ref Tryz.prog 152 [ZaF.val a0] (Zcg a0) Zcg.out := by
 refine J.Fn Tryz.func152 ?_
 unfold Zcg
 refine SJ.sr 2 <| J.b 0 ZaF a0 fun b1 => J.z 1 <| SJ.seq <| SJ.sr 4 <| J.k 1 0 rfl Ty66 (Zbq _) <| J.C 0 F181 (ZgS _) fun r2 => J.z 1 <| SJ.block (id := 0) <| SJ.sr 3 <| J.z 3 <| J.f ?_ ?_
 ·exact SJ.sr 1 <| J.z 1 <| J.r
 refine SJ.sr 10 <| J.k 1 0 rfl Ty3 (Zby _) <| J.j 2 4 .bool ?_ ?_ fun y9 => ?_
 ·exact J.e 5
 ·exact J.k 1 0 rfl Ty3 (Zby _) <| J.e 3
 refine J.z 1 <| J.f ?_ ?_
 ·exact SJ.sr 1 <| J.z 1 <| J.r
 refine SJ.seq <| J.D [0, 1, 2, 3, 4, 6, 7, 8, 5, 9, 10] ZcR <| J.k 2 0 rfl Ty64 (At.trans (Zbq _) (ZbZ _)) <| J.k 1 0 rfl Ty3 (Zby _) <| J.k 2 0 rfl Ty64 (At.trans (Zbq _) (ZbZ _)) <| OJ.call (d := 26) (g := 182) (ats := #[64, 3]) (args := [.tmp 23, .tmp 25]) (owed := [⟨8, 64, (pt b1 1), ((cI .u8).arr 16).val a0.IP.A⟩]) F182 (ZkC a0.IP.A a0.Len) fun r12 => OW.known (j := 0) (q := a0.IP.A) Ty64 rfl (At.trans (Zbq a0) (ZbZ a0.IP)) <| OW.nil <| OJ.neq (d := 30) (T := 64) (yT := 64) (y := .tmp 26) (z := .tmp 29) (cd := ((cI .u8).arr 16)) (p := r12) (q := a0.IP.A) rfl Eq64 <| J.z 1 <| J.f ?_ ?_
 ·exact SJ.sr 1 <| J.z 1 <| J.r
 exact SJ.skip <| SJ.inBlock <| SJ.sr 1 <| J.z 1 <| J.r

/-! ### weir/rules.netFits: function 110 -/
noncomputable def Zde.out (r_ : Bool) : Value := .bool r_
noncomputable def Zde (a0 : Zap) (a1 : Int) : M Bool :=
 slot 117 >>= fun b1 =>
 Zd2 a1 >>= fun r2 =>
 Zcg a0 >>= fun r3 =>
 (if r3 = 0 then
   (if r2 = 0 then
     pure true
    else
     pure (a0.IP.V == r2)) >>= fun y4 =>
   pure y4
  else
   pure false) >>= fun y5 =>
 pure y5
theorem Zge (a0 : Zap) (a1 : Int) : Ref Tryz.prog 110 [ZaF.val a0, .int .i64 a1] (Zde a0 a1) Zde.out := by
 refine J.Fn Tryz.func110 ?_
 unfold Zde
 refine SJ.sr 2 <| J.b 0 ZaF a0 fun b1 => J.z 1 <| SJ.sr 3 <| J.C 1 F151 (Zjc _) fun r2 => J.z 1 <| SJ.sr 15 <| J.k 0 0 rfl Zcb (At.whole _) <| J.C 0 F152 (Zeh _) fun r3 => J.g 2 <| OJ.join (b := (r3 == 0)) [4, 5, 6, 7, 8, 9, 10, 11, 12, 13] [14] [21] (fun y5 => [(21, .bool y5)]) [] [] (t := 11) beq_iff_eq (fun hp_ => ?_) (fun hp_ => ?_) (fun _ _ _ _ _ _ h_ => h_) fun y5 => ?_
 ·refine J.g 3 <| OJ.join (b := (r2 == 0)) [7, 8, 9, 10, 11, 12] [13] [11, 20] (fun y4 => [(11, .bool true), (20, .bool y4)]) [] [] (t := 14) beq_iff_eq (fun hp_ => ?_) (fun hp_ => ?_) (fun _ _ _ _ _ hq_ h_ => ⟨fun e_ he_ => (hq_ e_ he_).elim (fun h => h_.1 e_ h) (fun h => nomatch h), h_.2⟩) fun y4 => ?_
  ·exact J.g 6 <| OJ.nil ⟨(Cov.mem Cov.nil), rfl, _, rfl, by kernel_rfl⟩
  ·exact J.k 2 0 rfl Ty3 (At.trans (Zbq _) (Zcp _)) <| J.g 3 <| OJ.nil ⟨(Cov.mem Cov.nil), rfl, _, rfl, by kernel_rfl⟩
  exact J.g 1 <| OJ.nil ⟨(Cov.mem Cov.nil), rfl, _, rfl, by kernel_rfl⟩
 ·exact J.g 10 <| OJ.nil ⟨(Cov.mem Cov.nil), rfl, _, rfl, by kernel_rfl⟩
 exact J.z 1 <| J.r

/-! ### weir/rules.ported: function 111 -/
noncomputable def ZdB.out (r_ : Bool) : Value := .bool r_
noncomputable def ZdB (a0 : Int) : M Bool :=
 (if a0 = 6 then
   pure true
  else
   pure (a0 == 17)) >>= fun y1 =>
 pure y1
theorem Zgy (a0 : Int) : Ref Tryz.prog 111 [.int .i64 a0] (ZdB a0) ZdB.out := by
 refine J.Fn Tryz.func111 ?_
 unfold ZdB
 refine SJ.sr 1 <| J.z 1 <| SJ.sr 7 <| J.j 3 2 .bool ?_ ?_ fun y1 => ?_
 ·exact J.e 3
 ·exact J.e 3
 exact J.z 1 <| J.r

/-! ### weir/rules.checkSide: function 62 -/
noncomputable def Zan.B : Code := bod Tryz.f62
noncomputable def Zan.cx : Fx := ⟨Tryz.prog, 62, Tryz.f62, none⟩
noncomputable def Zan.out (r_ : Int) : Value := .int .i64 r_
noncomputable def Zan.K1 (a0 : Zae) (a2 : Int) : M Int :=
 (if (a0.Ports.len : Int) > 0 then
   ZdB a2 >>= fun r19 =>
   pure (!r19)
  else
   pure false) >>= fun y20 =>
 if y20 = true then
  pure 165
 else
  pure 0
theorem Zan.K1_ok (a0 : Zae) (a2 : Int) (b1 : Nat) :
  SJ Zan.cx [.code (c2 (c2 (c2 (c2 (c2 Zan.B)))))] [(2, .int .i64 a2), (3, .pointer (some (pt b1 0)))] [(b1, Zaw.enc a0)] (Zan.K1 a0 a2) (rt Zan.out) := by
 unfold Zan.K1
 refine SJ.seq <| SJ.sr 9 <| J.k 1 0 rfl Ty24 (ZaH _) <| J.j 3 3 .bool ?_ ?_ fun y20 => ?_
 ·exact J.C 1 F111 (Zgy _) fun r19 => J.e 2
 ·exact J.e 4
 refine J.z 0 <| J.f ?_ ?_
 ·exact SJ.sr 1 <| J.z 1 <| J.r
 exact SJ.skip <| SJ.sr 1 <| J.z 1 <| J.r
noncomputable def Zan.F1 (a0 : Zae) (a2 : Int) (b1 : Nat) : LF Int Int := ⟨[.inBlock 2, .code (c2 (c2 (c2 (c2 (c2 Zan.B)))))], c1 (c2 (c1 (c2 (c2 (c2 (c2 Zan.B)))))), fun s_ => [(2, .int .i64 a2), (3, .pointer (some (pt b1 0))), (42, Sl.v a0.Ports), (43, .int .i64 (a0.Ports.len : Int)), (44, .int .i64 s_)], fun s_ => [(b1, Zaw.enc a0)], (rt Zan.out)⟩
noncomputable def Zan.L1 (a0 : Zae) (a2 : Int) (s11 : Int) : M (LS Int Int) :=
 if s11 < (a0.Ports.len : Int) then
  idx a0.Ports.a a0.Ports.len s11 2 >>= fun p22 =>
  ld Zbb p22 >>= fun x23 =>
  slot 147 >>= fun b24 =>
  (if x23.Lo < 0 then
    pure true
   else
    pure (decide (x23.Hi > 65535))) >>= fun y25 =>
  (if y25 = true then
    pure true
   else
    pure (decide (x23.Lo > x23.Hi))) >>= fun y26 =>
  if y26 = true then
   pure (LS.done 164)
  else
   pure (LS.next (IntKind.wrap .i64 (s11 + 1)))
 else
  (Zan.K1 a0 a2) >>= fun b => pure (LS.done b)
theorem Zan.L1_ok (a0 : Zae) (a2 : Int) (b1 : Nat) : LJ Zan.cx (Zan.F1 a0 a2 b1) (fun s_ => Zan.L1 a0 a2 s_) := by
 rintro s11
 show SJ _ _ _ _ (Zan.L1 a0 a2 s11) _
 unfold Zan.L1
 refine SJ.sr 1 <| J.z 1 <| SJ.seq <| J.f ?_ ?_
 ·refine SJ.skip <| SJ.seq <| SJ.block (id := 3) <| SJ.sr 4 <| J.i 0 fun p22 => J.l 0 ZeJ fun x23 => J.a 0 ZeJ fun b24 => J.s 0 0 rfl ZeJ (Upd.w x23) <| J.z 0 <| SJ.sr 15 <| J.k 1 0 rfl Ty3 (Zcc _) <| J.j 2 3 .bool ?_ ?_ fun y25 => ?_
  ·exact J.e 4
  ·exact J.k 1 0 rfl Ty3 (Zcd _) <| J.e 2
  refine J.j 1 5 .bool ?_ ?_ fun y26 => ?_
  ·exact J.e 6
  ·exact J.k 1 0 rfl Ty3 (Zcc _) <| J.k 1 0 rfl Ty3 (Zcd _) <| J.e 2
  refine J.z 0 <| J.f ?_ ?_
  ·exact SJ.sr 1 <| J.z 1 <| J.r
  exact SJ.skip <| SJ.inBlock <| SJ.rg 2 <| J.z 2 <| SJ.forget (List.Sublist.cons _ (List.Sublist.cons_cons _ List.Sublist.slnil)) <| J.o rfl
 exact SJ.exit (id := 2) (by rfl) <| J.q <| SJ.done <| Zan.K1_ok a0 a2 b1
noncomputable def Zan.K2 (a0 : Zae) (a2 : Int) : M Int :=
 if (a0.Ports.len : Int) > 16 then
  pure 164
 else
  Zb9 (fun s_ : Int => Zan.L1 a0 a2 s_) 0
theorem Zan.K2_ok (a0 : Zae) (a2 : Int) (b1 : Nat) :
  SJ Zan.cx [.code (c2 (c2 (c2 Zan.B)))] [(2, .int .i64 a2), (3, .pointer (some (pt b1 0)))] [(b1, Zaw.enc a0)] (Zan.K2 a0 a2) (rt Zan.out) := by
 unfold Zan.K2
 refine SJ.seq <| SJ.sr 4 <| J.k 1 0 rfl Ty24 (ZaH _) <| J.z 2 <| J.f ?_ ?_
 ·exact SJ.sr 1 <| J.z 1 <| J.r
 exact SJ.skip <| SJ.seq <| SJ.sr 4 <| J.k 1 0 rfl Ty24 (ZaH _) <| J.z 2 <| SJ.block (id := 2) <| J.L (Zan.L1_ok a0 a2 b1)
noncomputable def Zan.F2 (a0 : Zae) (a1 : Int) (a2 : Int) (b1 : Nat) : LF Int Int := ⟨[.inBlock 0, .code (c2 (c2 (c2 Zan.B)))], c1 (c2 (c1 (c2 (c2 Zan.B)))), fun s_ => [(1, .int .i64 a1), (2, .int .i64 a2), (3, .pointer (some (pt b1 0))), (26, Sl.v a0.Nets), (27, .int .i64 (a0.Nets.len : Int)), (28, .int .i64 s_)], fun s_ => [(b1, Zaw.enc a0)], (rt Zan.out)⟩
noncomputable def Zan.L2 (a0 : Zae) (a1 : Int) (a2 : Int) (s4 : Int) : M (LS Int Int) :=
 if s4 < (a0.Nets.len : Int) then
  idx a0.Nets.a a0.Nets.len s4 18 >>= fun p30 =>
  ld ZaF p30 >>= fun x31 =>
  slot 117 >>= fun b32 =>
  Zde x31 a1 >>= fun r33 =>
  if ¬ (r33 = true) then
   pure (LS.done 163)
  else
   pure (LS.next (IntKind.wrap .i64 (s4 + 1)))
 else
  (Zan.K2 a0 a2) >>= fun b => pure (LS.done b)
theorem Zan.L2_ok (a0 : Zae) (a1 : Int) (a2 : Int) (b1 : Nat) : LJ Zan.cx (Zan.F2 a0 a1 a2 b1) (fun s_ => Zan.L2 a0 a1 a2 s_) := by
 rintro s4
 show SJ _ _ _ _ (Zan.L2 a0 a1 a2 s4) _
 unfold Zan.L2
 refine SJ.sr 1 <| J.z 1 <| SJ.seq <| J.f ?_ ?_
 ·refine SJ.skip <| SJ.seq <| SJ.block (id := 1) <| SJ.sr 4 <| J.i 0 fun p30 => J.l 0 Zcb fun x31 => J.a 0 Zcb fun b32 => J.s 0 0 rfl Zcb (Upd.w x31) <| J.z 0 <| SJ.sr 4 <| J.k 0 0 rfl Zcb (At.whole _) <| J.C 1 F110 (Zge _ _) fun r33 => J.z 1 <| J.f ?_ ?_
  ·exact SJ.sr 1 <| J.z 1 <| J.r
  exact SJ.skip <| SJ.inBlock <| SJ.rg 2 <| J.z 2 <| SJ.forget (List.Sublist.cons _ (List.Sublist.cons_cons _ List.Sublist.slnil)) <| J.o rfl
 exact SJ.exit (id := 0) (by rfl) <| J.q <| SJ.done <| Zan.K2_ok a0 a2 b1
noncomputable def Zan (a0 : Zae) (a1 : Int) (a2 : Int) : M Int :=
 slot 26 >>= fun b1 =>
 (if (a0.Nets.len : Int) > 16 then
   pure true
  else
   (if a0.Not = true then
     pure ((a0.Nets.len : Int) == 0)
    else
     pure false) >>= fun y2 =>
   pure y2) >>= fun y3 =>
 if y3 = true then
  pure 163
 else
  Zb9 (fun s_ : Int => Zan.L2 a0 a1 a2 s_) 0
theorem Zfn (a0 : Zae) (a1 : Int) (a2 : Int) : Ref Tryz.prog 62 [Zaw.val a0, .int .i64 a1, .int .i64 a2] (Zan a0 a1 a2) Zan.out := by
 refine J.Fn Tryz.func62 ?_
 unfold Zan
 refine SJ.sr 2 <| J.b 0 Zaw a0 fun b1 => J.z 1 <| SJ.seq <| SJ.sr 14 <| J.k 1 0 rfl Ty23 (ZaY _) <| J.g 3 <| OJ.join (b := decide ((a0.Nets.len : Int) > 16)) [5, 6, 7, 8, 9, 10, 11, 12, 13] [] [1, 2, 3, 24] (fun y3 => [(1, .int .i64 a1), (2, .int .i64 a2), (3, .pointer (some (pt b1 0))), (24, .bool y3)]) [] [] (t := 15) decide_eq_true_iff (fun hp_ => ?_) (fun hp_ => ?_) (fun _ _ _ _ _ _ h_ => h_) fun y3 => ?_
 ·exact J.g 9 <| OJ.nil ⟨(Cov.mem Cov.nil), rfl, _, rfl, by kernel_rfl⟩
 ·refine J.k 1 0 rfl Ty4 (Zc5 _) <| J.g 1 <| OJ.join (b := a0.Not) [8, 9, 10, 11, 12] [13] [1, 2, 3, 15, 23] (fun y2 => [(1, .int .i64 a1), (2, .int .i64 a2), (3, .pointer (some (pt b1 0))), (15, .bool false), (23, .bool y2)]) [] [] (t := 18) Iff.rfl (fun hp_ => ?_) (fun hp_ => ?_) (fun _ _ _ _ _ hq_ h_ => ⟨fun e_ he_ => (hq_ e_ he_).elim (fun h => h_.1 e_ h) (fun h => nomatch h), h_.2⟩) fun y2 => ?_
  ·exact J.k 1 0 rfl Ty23 (ZaY _) <| J.g 3 <| OJ.nil ⟨(Cov.mem Cov.nil), rfl, _, rfl, by kernel_rfl⟩
  ·exact J.g 5 <| OJ.nil ⟨(Cov.mem Cov.nil), rfl, _, rfl, by kernel_rfl⟩
  exact J.g 1 <| OJ.nil ⟨(Cov.mem Cov.nil), rfl, _, rfl, by kernel_rfl⟩
 refine J.z 0 <| J.f ?_ ?_
 ·exact SJ.sr 1 <| J.z 1 <| J.r
 exact SJ.skip <| SJ.seq <| SJ.sr 4 <| J.k 1 0 rfl Ty23 (ZaY _) <| J.z 2 <| SJ.block (id := 0) <| J.L (Zan.L2_ok a0 a1 a2 b1)

/-! ### weir/rules.Check: function 21 -/
noncomputable def Za2.B : Code := bod Tryz.f21
noncomputable def Za2.cx : Fx := ⟨Tryz.prog, 21, Tryz.f21, none⟩
noncomputable def Za2.out (r_ : Int) : Value := .int .i64 r_
noncomputable def Za2.K1 (a0 : Zag) (j56 : Bool) : M Int :=
 if j56 = true then
  pure 165
 else
  Zan a0.From a0.Kind a0.Proto >>= fun r57 =>
  if r57 ≠ 0 then
   pure r57
  else
   Zan a0.To a0.Kind a0.Proto >>= fun r58 =>
   pure r58
theorem Za2.K1_ok (a0 : Zag) (b1 : Nat) (j56 : Bool) :
  SJ Za2.cx [.code (c2 (c2 (c2 (c2 (c2 (c1 (c1 (c2 (c2 (c2 Za2.B)))))))))), .inBlock 0, .code (c2 (c2 (c2 (c2 Za2.B))))] [(1, .pointer (some (pt b1 0))), (77, .bool j56)] [(b1, Zak.enc a0)] (Za2.K1 a0 j56) (rt Za2.out) := by
 unfold Za2.K1
 refine J.f ?_ ?_
 ·exact SJ.sr 1 <| J.z 1 <| J.r
 refine SJ.skip <| SJ.inBlock <| SJ.seq <| SJ.sr 8 <| J.k 1 0 rfl Ty26 (Zcu _) <| J.k 1 0 rfl Ty3 (Zbk _) <| J.k 1 0 rfl Ty3 (Za1 _) <| J.C 0 F62 (Zfn _ _ _) fun r57 => J.z 1 <| SJ.sr 2 <| J.z 2 <| J.f ?_ ?_
 ·exact SJ.sr 2 <| J.z 2 <| J.r
 exact SJ.skip <| SJ.sr 8 <| J.k 1 0 rfl Ty26 (Zcl _) <| J.k 1 0 rfl Ty3 (Zbk _) <| J.k 1 0 rfl Ty3 (Za1 _) <| J.C 0 F62 (Zfn _ _ _) fun r58 => J.z 1 <| J.r
noncomputable def Za2.K2 (a0 : Zag) (j44 : Bool) : M Int :=
 if j44 = true then
  pure 165
 else
  (if (bor .i64 a0.Set a0.Clear) ≠ 0 then
    pure (a0.Proto != 6)
   else
    pure false) >>= fun y53 =>
  if y53 = true then
   Za2.K1 a0 y53
  else
   (if a0.Type_ ≠ 0 then
     ZdF a0.Proto >>= fun r61 =>
     pure (!r61)
    else
     pure false) >>= fun y62 =>
   Za2.K1 a0 y62
theorem Za2.K2_ok (a0 : Zag) (b1 : Nat) (j44 : Bool) :
  SJ Za2.cx [.code (c2 (c2 (c2 (c1 (c1 (c2 (c2 (c2 Za2.B)))))))), .inBlock 0, .code (c2 (c2 (c2 (c2 Za2.B))))] [(1, .pointer (some (pt b1 0))), (60, .bool j44)] [(b1, Zak.enc a0)] (Za2.K2 a0 j44) (rt Za2.out) := by
 unfold Za2.K2
 refine J.f ?_ ?_
 ·exact SJ.sr 1 <| J.z 1 <| J.r
 refine SJ.seq <| SJ.sr 12 <| J.k 1 0 rfl Ty3 (ZbR _) <| J.k 1 0 rfl Ty3 (ZbG _) <| J.j 3 3 .bool ?_ ?_ fun y53 => ?_
 ·exact J.k 1 0 rfl Ty3 (Za1 _) <| J.e 2
 ·exact J.e 4
 refine J.z 1 <| J.f ?_ ?_
 ·exact SJ.skip <| J.q <| Za2.K1_ok a0 b1 y53
 refine SJ.rg 10 <| J.k 1 0 rfl Ty3 (ZbT _) <| J.j 2 4 .bool ?_ ?_ fun y62 => ?_
 ·exact J.k 1 0 rfl Ty3 (Za1 _) <| J.C 0 F48 (Zhn _) fun r61 => J.e 2
 ·exact J.e 5
 exact J.z 1 <| J.q <| Za2.K1_ok a0 b1 y62
noncomputable def Za2 (a0 : Zag) : M Int :=
 slot 28 >>= fun b1 =>
 ZbL a0.Act 1 3 >>= fun r2 =>
 (if r2 = true then
   ZbL a0.Class 0 7 >>= fun r3 =>
   pure r3
  else
   pure false) >>= fun y4 =>
 (if y4 = true then
   ZbL a0.Kind 0 3 >>= fun r5 =>
   pure r5
  else
   pure false) >>= fun y6 =>
 (if y6 = true then
   ZbL a0.Proto 0 255 >>= fun r7 =>
   pure r7
  else
   pure false) >>= fun y8 =>
 (if y8 = true then
   ZbL a0.In 0 8 >>= fun r9 =>
   pure r9
  else
   pure false) >>= fun y10 =>
 (if y10 = true then
   ZbL a0.Vid 0 4094 >>= fun r11 =>
   pure r11
  else
   pure false) >>= fun y12 =>
 (if y12 = true then
   ZbL a0.Set 0 255 >>= fun r13 =>
   pure r13
  else
   pure false) >>= fun y14 =>
 (if y14 = true then
   ZbL a0.Clear 0 255 >>= fun r15 =>
   pure r15
  else
   pure false) >>= fun y16 =>
 (if y16 = true then
   ZbL a0.Type_ 0 256 >>= fun r17 =>
   pure r17
  else
   pure false) >>= fun y18 =>
 (if y18 = true then
   pure ((band .i64 a0.Set a0.Clear) == 0)
  else
   pure false) >>= fun y19 =>
 if ¬ (y19 = true) then
  pure 166
 else
  (if a0.Class ≠ 0 then
    pure (a0.Act != 1)
   else
    pure false) >>= fun y42 =>
  if y42 = true then
   Za2.K2 a0 y42
  else
   (if a0.Proto ≠ 0 then
     pure (a0.Kind == 1)
    else
     pure false) >>= fun y65 =>
   Za2.K2 a0 y65
theorem ZfA (a0 : Zag) : Ref Tryz.prog 21 [Zak.val a0] (Za2 a0) Za2.out := by
 refine J.Fn Tryz.func21 ?_
 unfold Za2
 refine SJ.sr 2 <| J.b 0 Zak a0 fun b1 => J.z 1 <| SJ.sr 24 <| J.k 1 0 rfl Ty3 (ZbS _) <| J.C 0 F61 (Zca _ _ _) fun r2 => J.j 1 3 .bool ?_ ?_ fun y4 => ?_
 ·exact J.k 1 0 rfl Ty3 (ZbU _) <| J.C 0 F61 (Zca _ _ _) fun r3 => J.e 1
 ·exact J.e 4
 refine J.j 1 3 .bool ?_ ?_ fun y6 => ?_
 ·exact J.k 1 0 rfl Ty3 (Zbk _) <| J.C 0 F61 (Zca _ _ _) fun r5 => J.e 1
 ·exact J.e 4
 refine J.j 1 3 .bool ?_ ?_ fun y8 => ?_
 ·exact J.k 1 0 rfl Ty3 (Za1 _) <| J.C 0 F61 (Zca _ _ _) fun r7 => J.e 1
 ·exact J.e 4
 refine J.j 1 3 .bool ?_ ?_ fun y10 => ?_
 ·exact J.k 1 0 rfl Ty3 (ZcY _) <| J.C 0 F61 (Zca _ _ _) fun r9 => J.e 1
 ·exact J.e 4
 refine J.z 1 <| SJ.sr 30 <| J.j 2 3 .bool ?_ ?_ fun y12 => ?_
 ·exact J.k 1 0 rfl Ty3 (ZcJ _) <| J.C 0 F61 (Zca _ _ _) fun r11 => J.e 1
 ·exact J.e 4
 refine J.j 1 3 .bool ?_ ?_ fun y14 => ?_
 ·exact J.k 1 0 rfl Ty3 (ZbR _) <| J.C 0 F61 (Zca _ _ _) fun r13 => J.e 1
 ·exact J.e 4
 refine J.j 1 3 .bool ?_ ?_ fun y16 => ?_
 ·exact J.k 1 0 rfl Ty3 (ZbG _) <| J.C 0 F61 (Zca _ _ _) fun r15 => J.e 1
 ·exact J.e 4
 refine J.j 1 3 .bool ?_ ?_ fun y18 => ?_
 ·exact J.k 1 0 rfl Ty3 (ZbT _) <| J.C 0 F61 (Zca _ _ _) fun r17 => J.e 1
 ·exact J.e 4
 refine J.j 1 6 .bool ?_ ?_ fun y19 => ?_
 ·exact J.k 1 0 rfl Ty3 (ZbR _) <| J.k 1 0 rfl Ty3 (ZbG _) <| J.e 3
 ·exact J.e 7
 refine J.z 1 <| SJ.seq <| SJ.block (id := 0) <| SJ.sr 3 <| J.z 3 <| J.f ?_ ?_
 ·exact SJ.sr 1 <| J.z 1 <| J.r
 refine SJ.seq <| SJ.sr 9 <| J.k 1 0 rfl Ty3 (ZbU _) <| J.j 2 3 .bool ?_ ?_ fun y42 => ?_
 ·exact J.k 1 0 rfl Ty3 (ZbS _) <| J.e 2
 ·exact J.e 4
 refine J.z 1 <| J.f ?_ ?_
 ·exact SJ.skip <| J.q <| Za2.K2_ok a0 b1 y42
 refine SJ.rg 9 <| J.k 1 0 rfl Ty3 (Za1 _) <| J.j 2 3 .bool ?_ ?_ fun y65 => ?_
 ·exact J.k 1 0 rfl Ty3 (Zbk _) <| J.e 2
 ·exact J.e 4
 exact J.z 1 <| J.q <| Za2.K2_ok a0 b1 y65

/-! ### internal/strconv.small: function 215 -/
noncomputable def ZdE.out (r_ : ByteArray) : Value := .string r_
noncomputable def ZdE (a0 : Int) : M ByteArray :=
 if a0 < 10 then
  chk (0 ≤ (a0 : Int) ∧ (a0 : Int) ≤ (IntKind.wrap .i64 (a0 + 1)) ∧ (IntKind.wrap .i64 (a0 + 1)) ≤ (str0.size : Int)) >>= fun _ =>
  pure (ByteArray.extract str0 (Int.toNat a0) (Int.toNat (IntKind.wrap .i64 (a0 + 1))))
 else
  chk (0 ≤ ((IntKind.wrap .i64 (a0 * 2)) : Int) ∧ ((IntKind.wrap .i64 (a0 * 2)) : Int) ≤ (IntKind.wrap .i64 ((IntKind.wrap .i64 (a0 * 2)) + 2)) ∧ (IntKind.wrap .i64 ((IntKind.wrap .i64 (a0 * 2)) + 2)) ≤ (str1.size : Int)) >>= fun _ =>
  pure (ByteArray.extract str1 (Int.toNat (IntKind.wrap .i64 (a0 * 2))) (Int.toNat (IntKind.wrap .i64 ((IntKind.wrap .i64 (a0 * 2)) + 2))))
theorem Zjb (a0 : Int) : Ref Tryz.prog 215 [.int .i64 a0] (ZdE a0) ZdE.out := by
 refine J.Fn Tryz.func215 ?_
 unfold ZdE
 refine SJ.sr 1 <| J.z 1 <| SJ.seq <| SJ.sr 2 <| J.z 2 <| J.f ?_ ?_
 ·exact SJ.sr 5 <| J.ct 3 <| J.z 1 <| J.r
 exact SJ.skip <| SJ.sr 7 <| J.ct 5 <| J.z 1 <| J.r

/-! ### math/bits.Len64: function 242 -/
noncomputable def Zbd.B : Code := bod Tryz.f242
noncomputable def Zbd.cx : Fx := ⟨Tryz.prog, 242, Tryz.f242, none⟩
noncomputable def Zbd.out (r_ : Int) : Value := .int .i64 r_
noncomputable def Zbd.K1 (j3 : Int) (j4 : Int) : M Int :=
 if j3 ≥ 256 then
  chk ((0 : Int) ≤ (IntKind.wrap .u8 (Int.fdiv j3 (2 ^ 8))) ∧ (IntKind.wrap .u8 (Int.fdiv j3 (2 ^ 8))) < (str2.size : Int)) >>= fun _ =>
  pure (IntKind.wrap .i64 ((IntKind.wrap .i64 (j4 + 8)) + (IntKind.wrap .i64 (sb str2 (IntKind.wrap .u8 (Int.fdiv j3 (2 ^ 8)))))))
 else
  chk ((0 : Int) ≤ (IntKind.wrap .u8 j3) ∧ (IntKind.wrap .u8 j3) < (str2.size : Int)) >>= fun _ =>
  pure (IntKind.wrap .i64 (j4 + (IntKind.wrap .i64 (sb str2 (IntKind.wrap .u8 j3)))))
theorem Zbd.K1_ok (j3 : Int) (j4 : Int) :
  SJ Zbd.cx [.code (c2 (c2 (c2 Zbd.B)))] [(0, .int .u64 j3), (2, .int .i64 j4)] [] (Zbd.K1 j3 j4) (rt Zbd.out) := by
 unfold Zbd.K1
 refine SJ.seq <| SJ.sr 2 <| J.z 2 <| J.f ?_ ?_
 ·exact SJ.sr 3 <| J.z 3 <| SJ.rg 3 <| J.z 3 <| SJ.sr 7 <| J.t 3 fun hb5 hb6 => J.z 3 <| J.r
 exact SJ.skip <| SJ.sr 7 <| J.t 3 fun hb7 hb8 => J.z 3 <| J.r
noncomputable def Zbd.K2 (j1 : Int) (j2 : Int) : M Int :=
 if j1 ≥ 65536 then
  Zbd.K1 (Int.fdiv j1 (2 ^ 16)) (IntKind.wrap .i64 (j2 + 16))
 else
  Zbd.K1 j1 j2
theorem Zbd.K2_ok (j1 : Int) (j2 : Int) :
  SJ Zbd.cx [.code (c2 (c2 Zbd.B))] [(0, .int .u64 j1), (2, .int .i64 j2)] [] (Zbd.K2 j1 j2) (rt Zbd.out) := by
 unfold Zbd.K2
 refine SJ.seq <| SJ.sr 2 <| J.z 2 <| J.f ?_ ?_
 ·exact SJ.sr 3 <| J.z 3 <| SJ.rg 3 <| J.z 3 <| J.q <| Zbd.K1_ok (Int.fdiv j1 (2 ^ 16)) (IntKind.wrap .i64 (j2 + 16))
 exact SJ.skip <| J.q <| Zbd.K1_ok j1 j2
noncomputable def Zbd (a0 : Int) : M Int :=
 if a0 ≥ 4294967296 then
  Zbd.K2 (Int.fdiv a0 (2 ^ 32)) 32
 else
  Zbd.K2 a0 0
theorem ZlX (a0 : Int) : Ref Tryz.prog 242 [.int .u64 a0] (Zbd a0) Zbd.out := by
 refine J.Fn Tryz.func242 ?_
 unfold Zbd
 refine SJ.sr 1 <| J.z 1 <| SJ.seq <| SJ.sr 2 <| J.z 2 <| J.f ?_ ?_
 ·exact SJ.sr 3 <| J.z 3 <| SJ.rg 1 <| J.z 1 <| J.q <| Zbd.K2_ok (Int.fdiv a0 (2 ^ 32)) 32
 exact SJ.skip <| J.q <| Zbd.K2_ok a0 0

/-! ### internal/strconv.log10Pow2: function 241 -/
noncomputable def Zcx.out (r_ : Int) : Value := .int .i64 r_
noncomputable def Zcx (a0 : Int) : M Int :=
 pure (Int.fdiv (IntKind.wrap .i64 (a0 * 78913)) (2 ^ 18))
theorem Zhf (a0 : Int) : Ref Tryz.prog 241 [.int .i64 a0] (Zcx a0) Zcx.out := by
 refine J.Fn Tryz.func241 ?_
 unfold Zcx
 exact SJ.sr 1 <| J.z 1 <| SJ.sr 4 <| J.z 4 <| J.r

/-! ### internal/strconv.bool2[int]: function 243 -/
noncomputable def Zcy.out (r_ : Int) : Value := .int .i64 r_
noncomputable def Zcy (a0 : Bool) : M Int :=
 if a0 = true then
  pure 1
 else
  pure 0
theorem Zhg (a0 : Bool) : Ref Tryz.prog 243 [.bool a0] (Zcy a0) Zcy.out := by
 refine J.Fn Tryz.func243 ?_
 unfold Zcy
 refine SJ.sr 1 <| J.z 1 <| SJ.seq <| SJ.sr 1 <| J.z 1 <| J.f ?_ ?_
 ·exact SJ.sr 1 <| J.z 1 <| J.r
 exact SJ.skip <| SJ.sr 1 <| J.z 1 <| J.r

/-! ### internal/strconv.numDigits: function 216 -/
noncomputable def Zb1.out (r_ : Int) : Value := .int .i64 r_
noncomputable def Zb1 (a0 : Int) : M Int :=
 Zbd a0 >>= fun r1 =>
 Zcx r1 >>= fun r2 =>
 idx (some ⟨5, 0, none⟩) 20 r2 1 >>= fun p3 =>
 ld (cI .u64) p3 >>= fun x4 =>
 Zcy (decide (a0 ≥ x4)) >>= fun r5 =>
 pure (IntKind.wrap .i64 (r2 + r5))
theorem Zhe (a0 : Int) : Ref Tryz.prog 216 [.int .u64 a0] (Zb1 a0) Zb1.out := by
 refine J.Fn Tryz.func216 ?_
 unfold Zb1
 exact SJ.sr 1 <| J.z 1 <| SJ.sr 4 <| J.C 1 F242 (ZlX _) fun r1 => J.C 0 F241 (Zhf _) fun r2 => J.z 1 <| SJ.sr 9 <| J.g 3 <| OJ.idxA (d := 10) (T := 344) (y := .global 5) (j := .tmp 9) (E := 310) (k := .i64) fun p3 => J.l 0 Zuw fun x4 => J.C 1 F243 (Zhg _) fun r5 => J.z 2 <| J.r

/-! ### internal/strconv.formatBase10: function 217 -/
noncomputable def Zab.B : Code := bod Tryz.f217
noncomputable def Zab.cx : Fx := ⟨Tryz.prog, 217, Tryz.f217, none⟩
noncomputable def Zab.out (r_ : Unit) : Value := .tuple #[]
noncomputable def Zab.K1 (a0 : Sl) (j48 : Int) (j49 : Int) : M Unit :=
 if j48 > 0 then
  idx a0.a a0.len 0 1 >>= fun p51 =>
  st (cI .u8) p51 (IntKind.wrap .u8 (IntKind.wrap .u32 (48 + j49))) >>= fun _ =>
  pure ()
 else
  pure ()
theorem Zab.K1_ok (a0 : Sl) (j48 : Int) (j49 : Int) :
  SJ Zab.cx [.code (c2 (c2 (c2 (c2 (c2 Zab.B)))))] [(0, Sl.v a0), (4, .int .i64 j48), (12, .int .u32 j49)] [] (Zab.K1 a0 j48 j49) (rt Zab.out) := by
 unfold Zab.K1
 refine SJ.sr 2 <| J.z 2 <| J.f ?_ ?_
 ·exact SJ.rg 6 <| J.i 4 fun p51 => J.w 0 Ty5 <| J.z 0 <| SJ.end_ rfl (Res.run (ys := []) .nil rfl)
 exact SJ.skip <| SJ.end_ rfl (Res.run (ys := []) .nil rfl)
noncomputable def Zab.K2 (a0 : Sl) (j40 : Int) (j41 : Int) : M Unit :=
 if j40 ≥ 2 then
  draw >>= fun _ =>
  chk ((0 : Int) ≤ (IntKind.wrap .u32 ((IntKind.wrap .u32 ((Int.tmod j41 100) * 2)) + 1)) ∧ (IntKind.wrap .u32 ((IntKind.wrap .u32 ((Int.tmod j41 100) * 2)) + 1)) < (str1.size : Int)) >>= fun _ =>
  chk ((0 : Int) ≤ (IntKind.wrap .u32 ((Int.tmod j41 100) * 2)) ∧ (IntKind.wrap .u32 ((Int.tmod j41 100) * 2)) < (str1.size : Int)) >>= fun _ =>
  idx a0.a a0.len (IntKind.wrap .i64 (j40 - 1)) 1 >>= fun p57 =>
  st (cI .u8) p57 (sb str1 (IntKind.wrap .u32 ((IntKind.wrap .u32 ((Int.tmod j41 100) * 2)) + 1))) >>= fun _ =>
  idx a0.a a0.len (IntKind.wrap .i64 (j40 - 2)) 1 >>= fun p58 =>
  st (cI .u8) p58 (sb str1 (IntKind.wrap .u32 ((Int.tmod j41 100) * 2))) >>= fun _ =>
  Zab.K1 a0 (IntKind.wrap .i64 (j40 - 2)) (IntKind.wrap .u32 (Int.tdiv j41 100))
 else
  Zab.K1 a0 j40 j41
theorem Zab.K2_ok (a0 : Sl) (j40 : Int) (j41 : Int) :
  SJ Zab.cx [.code (c2 (c2 (c2 (c2 Zab.B))))] [(0, Sl.v a0), (4, .int .i64 j40), (12, .int .u32 j41)] [] (Zab.K2 a0 j40 j41) (rt Zab.out) := by
 unfold Zab.K2
 refine SJ.seq <| SJ.sr 2 <| J.z 2 <| J.f ?_ ?_
 ·exact SJ.sr 4 <| J.z 4 <| SJ.sr 3 <| J.z 3 <| SJ.seq <| J.R 15 ZcR <| J.t 8 fun hb53 hb54 => J.t 1 fun hb55 hb56 => J.i 0 fun p57 => J.w 0 Ty5 <| J.i 0 fun p58 => J.w 0 Ty5 <| J.z 0 <| SJ.rg 3 <| J.z 3 <| J.q <| Zab.K1_ok a0 (IntKind.wrap .i64 (j40 - 2)) (IntKind.wrap .u32 (Int.tdiv j41 100))
 exact SJ.skip <| J.q <| Zab.K1_ok a0 j40 j41
noncomputable def Zab.K3 (a0 : Sl) (s1 : Int) (s2 : Int) : M Unit :=
 if s2 ≥ 4 then
  draw >>= fun _ =>
  chk ((0 : Int) ≤ (IntKind.wrap .u32 ((IntKind.wrap .u32 ((Int.tmod (Int.tmod (IntKind.wrap .u32 s1) 10000) 100) * 2)) + 1)) ∧ (IntKind.wrap .u32 ((IntKind.wrap .u32 ((Int.tmod (Int.tmod (IntKind.wrap .u32 s1) 10000) 100) * 2)) + 1)) < (str1.size : Int)) >>= fun _ =>
  chk ((0 : Int) ≤ (IntKind.wrap .u32 ((Int.tmod (Int.tmod (IntKind.wrap .u32 s1) 10000) 100) * 2)) ∧ (IntKind.wrap .u32 ((Int.tmod (Int.tmod (IntKind.wrap .u32 s1) 10000) 100) * 2)) < (str1.size : Int)) >>= fun _ =>
  idx a0.a a0.len (IntKind.wrap .i64 (s2 - 1)) 1 >>= fun p64 =>
  st (cI .u8) p64 (sb str1 (IntKind.wrap .u32 ((IntKind.wrap .u32 ((Int.tmod (Int.tmod (IntKind.wrap .u32 s1) 10000) 100) * 2)) + 1))) >>= fun _ =>
  idx a0.a a0.len (IntKind.wrap .i64 (s2 - 2)) 1 >>= fun p65 =>
  st (cI .u8) p65 (sb str1 (IntKind.wrap .u32 ((Int.tmod (Int.tmod (IntKind.wrap .u32 s1) 10000) 100) * 2))) >>= fun _ =>
  draw >>= fun _ =>
  chk ((0 : Int) ≤ (IntKind.wrap .u32 ((IntKind.wrap .u32 ((IntKind.wrap .u32 (Int.tdiv (Int.tmod (IntKind.wrap .u32 s1) 10000) 100)) * 2)) + 1)) ∧ (IntKind.wrap .u32 ((IntKind.wrap .u32 ((IntKind.wrap .u32 (Int.tdiv (Int.tmod (IntKind.wrap .u32 s1) 10000) 100)) * 2)) + 1)) < (str1.size : Int)) >>= fun _ =>
  chk ((0 : Int) ≤ (IntKind.wrap .u32 ((IntKind.wrap .u32 (Int.tdiv (Int.tmod (IntKind.wrap .u32 s1) 10000) 100)) * 2)) ∧ (IntKind.wrap .u32 ((IntKind.wrap .u32 (Int.tdiv (Int.tmod (IntKind.wrap .u32 s1) 10000) 100)) * 2)) < (str1.size : Int)) >>= fun _ =>
  idx a0.a a0.len (IntKind.wrap .i64 (s2 - 3)) 1 >>= fun p70 =>
  st (cI .u8) p70 (sb str1 (IntKind.wrap .u32 ((IntKind.wrap .u32 ((IntKind.wrap .u32 (Int.tdiv (Int.tmod (IntKind.wrap .u32 s1) 10000) 100)) * 2)) + 1))) >>= fun _ =>
  idx a0.a a0.len (IntKind.wrap .i64 (s2 - 4)) 1 >>= fun p71 =>
  st (cI .u8) p71 (sb str1 (IntKind.wrap .u32 ((IntKind.wrap .u32 (Int.tdiv (Int.tmod (IntKind.wrap .u32 s1) 10000) 100)) * 2))) >>= fun _ =>
  Zab.K2 a0 (IntKind.wrap .i64 (s2 - 4)) (IntKind.wrap .u32 (Int.tdiv (IntKind.wrap .u32 s1) 10000))
 else
  Zab.K2 a0 s2 (IntKind.wrap .u32 s1)
theorem Zab.K3_ok (a0 : Sl) (s1 : Int) (s2 : Int) :
  SJ Zab.cx [.code (c2 (c2 Zab.B))] [(0, Sl.v a0), (1, .int .u64 s1), (4, .int .i64 s2)] [] (Zab.K3 a0 s1 s2) (rt Zab.out) := by
 unfold Zab.K3
 refine SJ.sr 3 <| J.z 3 <| SJ.seq <| SJ.sr 2 <| J.z 2 <| J.f ?_ ?_
 ·exact SJ.sr 3 <| J.z 3 <| SJ.sr 3 <| J.z 3 <| SJ.sr 8 <| J.z 8 <| SJ.seq <| J.R 15 ZcR <| J.t 8 fun hb60 hb61 => J.t 1 fun hb62 hb63 => J.i 0 fun p64 => J.w 0 Ty5 <| J.i 0 fun p65 => J.w 0 Ty5 <| J.z 0 <| SJ.seq <| J.R 15 ZcR <| J.t 8 fun hb66 hb67 => J.t 1 fun hb68 hb69 => J.i 0 fun p70 => J.w 0 Ty5 <| J.i 0 fun p71 => J.w 0 Ty5 <| J.z 0 <| SJ.rg 3 <| J.z 3 <| J.q <| Zab.K2_ok a0 (IntKind.wrap .i64 (s2 - 4)) (IntKind.wrap .u32 (Int.tdiv (IntKind.wrap .u32 s1) 10000))
 exact SJ.skip <| J.q <| Zab.K2_ok a0 s2 (IntKind.wrap .u32 s1)
noncomputable def Zab.F1 (a0 : Sl) : LF (Int × Int) Unit := ⟨[.inBlock 0, .code (c2 (c2 Zab.B))], c1 (c1 (c2 Zab.B)), fun s_ => [(0, Sl.v a0), (1, .int .u64 s_.1), (4, .int .i64 s_.2)], fun s_ => [], (rt Zab.out)⟩
noncomputable def Zab.L1 (a0 : Sl) (s1 : Int) (s2 : Int) : M (LS (Int × Int) Unit) :=
 if s2 ≥ 8 then
  draw >>= fun _ =>
  chk ((0 : Int) ≤ (IntKind.wrap .u32 ((IntKind.wrap .u32 ((Int.tmod (Int.tmod (IntKind.wrap .u32 (Int.tmod s1 100000000)) 10000) 100) * 2)) + 1)) ∧ (IntKind.wrap .u32 ((IntKind.wrap .u32 ((Int.tmod (Int.tmod (IntKind.wrap .u32 (Int.tmod s1 100000000)) 10000) 100) * 2)) + 1)) < (str1.size : Int)) >>= fun _ =>
  chk ((0 : Int) ≤ (IntKind.wrap .u32 ((Int.tmod (Int.tmod (IntKind.wrap .u32 (Int.tmod s1 100000000)) 10000) 100) * 2)) ∧ (IntKind.wrap .u32 ((Int.tmod (Int.tmod (IntKind.wrap .u32 (Int.tmod s1 100000000)) 10000) 100) * 2)) < (str1.size : Int)) >>= fun _ =>
  idx a0.a a0.len (IntKind.wrap .i64 (s2 - 1)) 1 >>= fun p77 =>
  st (cI .u8) p77 (sb str1 (IntKind.wrap .u32 ((IntKind.wrap .u32 ((Int.tmod (Int.tmod (IntKind.wrap .u32 (Int.tmod s1 100000000)) 10000) 100) * 2)) + 1))) >>= fun _ =>
  idx a0.a a0.len (IntKind.wrap .i64 (s2 - 2)) 1 >>= fun p78 =>
  st (cI .u8) p78 (sb str1 (IntKind.wrap .u32 ((Int.tmod (Int.tmod (IntKind.wrap .u32 (Int.tmod s1 100000000)) 10000) 100) * 2))) >>= fun _ =>
  draw >>= fun _ =>
  chk ((0 : Int) ≤ (IntKind.wrap .u32 ((IntKind.wrap .u32 ((IntKind.wrap .u32 (Int.tdiv (Int.tmod (IntKind.wrap .u32 (Int.tmod s1 100000000)) 10000) 100)) * 2)) + 1)) ∧ (IntKind.wrap .u32 ((IntKind.wrap .u32 ((IntKind.wrap .u32 (Int.tdiv (Int.tmod (IntKind.wrap .u32 (Int.tmod s1 100000000)) 10000) 100)) * 2)) + 1)) < (str1.size : Int)) >>= fun _ =>
  chk ((0 : Int) ≤ (IntKind.wrap .u32 ((IntKind.wrap .u32 (Int.tdiv (Int.tmod (IntKind.wrap .u32 (Int.tmod s1 100000000)) 10000) 100)) * 2)) ∧ (IntKind.wrap .u32 ((IntKind.wrap .u32 (Int.tdiv (Int.tmod (IntKind.wrap .u32 (Int.tmod s1 100000000)) 10000) 100)) * 2)) < (str1.size : Int)) >>= fun _ =>
  idx a0.a a0.len (IntKind.wrap .i64 (s2 - 3)) 1 >>= fun p83 =>
  st (cI .u8) p83 (sb str1 (IntKind.wrap .u32 ((IntKind.wrap .u32 ((IntKind.wrap .u32 (Int.tdiv (Int.tmod (IntKind.wrap .u32 (Int.tmod s1 100000000)) 10000) 100)) * 2)) + 1))) >>= fun _ =>
  idx a0.a a0.len (IntKind.wrap .i64 (s2 - 4)) 1 >>= fun p84 =>
  st (cI .u8) p84 (sb str1 (IntKind.wrap .u32 ((IntKind.wrap .u32 (Int.tdiv (Int.tmod (IntKind.wrap .u32 (Int.tmod s1 100000000)) 10000) 100)) * 2))) >>= fun _ =>
  draw >>= fun _ =>
  chk ((0 : Int) ≤ (IntKind.wrap .u32 ((IntKind.wrap .u32 ((Int.tmod (IntKind.wrap .u32 (Int.tdiv (IntKind.wrap .u32 (Int.tmod s1 100000000)) 10000)) 100) * 2)) + 1)) ∧ (IntKind.wrap .u32 ((IntKind.wrap .u32 ((Int.tmod (IntKind.wrap .u32 (Int.tdiv (IntKind.wrap .u32 (Int.tmod s1 100000000)) 10000)) 100) * 2)) + 1)) < (str1.size : Int)) >>= fun _ =>
  chk ((0 : Int) ≤ (IntKind.wrap .u32 ((Int.tmod (IntKind.wrap .u32 (Int.tdiv (IntKind.wrap .u32 (Int.tmod s1 100000000)) 10000)) 100) * 2)) ∧ (IntKind.wrap .u32 ((Int.tmod (IntKind.wrap .u32 (Int.tdiv (IntKind.wrap .u32 (Int.tmod s1 100000000)) 10000)) 100) * 2)) < (str1.size : Int)) >>= fun _ =>
  idx a0.a a0.len (IntKind.wrap .i64 (s2 - 5)) 1 >>= fun p89 =>
  st (cI .u8) p89 (sb str1 (IntKind.wrap .u32 ((IntKind.wrap .u32 ((Int.tmod (IntKind.wrap .u32 (Int.tdiv (IntKind.wrap .u32 (Int.tmod s1 100000000)) 10000)) 100) * 2)) + 1))) >>= fun _ =>
  idx a0.a a0.len (IntKind.wrap .i64 (s2 - 6)) 1 >>= fun p90 =>
  st (cI .u8) p90 (sb str1 (IntKind.wrap .u32 ((Int.tmod (IntKind.wrap .u32 (Int.tdiv (IntKind.wrap .u32 (Int.tmod s1 100000000)) 10000)) 100) * 2))) >>= fun _ =>
  draw >>= fun _ =>
  chk ((0 : Int) ≤ (IntKind.wrap .u32 ((IntKind.wrap .u32 ((IntKind.wrap .u32 (Int.tdiv (IntKind.wrap .u32 (Int.tdiv (IntKind.wrap .u32 (Int.tmod s1 100000000)) 10000)) 100)) * 2)) + 1)) ∧ (IntKind.wrap .u32 ((IntKind.wrap .u32 ((IntKind.wrap .u32 (Int.tdiv (IntKind.wrap .u32 (Int.tdiv (IntKind.wrap .u32 (Int.tmod s1 100000000)) 10000)) 100)) * 2)) + 1)) < (str1.size : Int)) >>= fun _ =>
  chk ((0 : Int) ≤ (IntKind.wrap .u32 ((IntKind.wrap .u32 (Int.tdiv (IntKind.wrap .u32 (Int.tdiv (IntKind.wrap .u32 (Int.tmod s1 100000000)) 10000)) 100)) * 2)) ∧ (IntKind.wrap .u32 ((IntKind.wrap .u32 (Int.tdiv (IntKind.wrap .u32 (Int.tdiv (IntKind.wrap .u32 (Int.tmod s1 100000000)) 10000)) 100)) * 2)) < (str1.size : Int)) >>= fun _ =>
  idx a0.a a0.len (IntKind.wrap .i64 (s2 - 7)) 1 >>= fun p95 =>
  st (cI .u8) p95 (sb str1 (IntKind.wrap .u32 ((IntKind.wrap .u32 ((IntKind.wrap .u32 (Int.tdiv (IntKind.wrap .u32 (Int.tdiv (IntKind.wrap .u32 (Int.tmod s1 100000000)) 10000)) 100)) * 2)) + 1))) >>= fun _ =>
  idx a0.a a0.len (IntKind.wrap .i64 (s2 - 8)) 1 >>= fun p96 =>
  st (cI .u8) p96 (sb str1 (IntKind.wrap .u32 ((IntKind.wrap .u32 (Int.tdiv (IntKind.wrap .u32 (Int.tdiv (IntKind.wrap .u32 (Int.tmod s1 100000000)) 10000)) 100)) * 2))) >>= fun _ =>
  pure (LS.next (IntKind.wrap .u64 (Int.tdiv s1 100000000), IntKind.wrap .i64 (s2 - 8)))
 else
  (Zab.K3 a0 s1 s2) >>= fun b => pure (LS.done b)
theorem Zab.L1_ok (a0 : Sl) : LJ Zab.cx (Zab.F1 a0) (fun s_ => Zab.L1 a0 s_.1 s_.2) := by
 rintro ⟨s1, s2⟩
 show SJ _ _ _ _ (Zab.L1 a0 s1 s2) _
 unfold Zab.L1
 refine SJ.seq <| SJ.sr 2 <| J.z 2 <| J.f ?_ ?_
 ·exact SJ.skip <| SJ.block (id := 1) <| SJ.sr 4 <| J.z 4 <| SJ.sr 3 <| J.z 3 <| SJ.sr 6 <| J.z 6 <| SJ.sr 8 <| J.z 8 <| SJ.sr 8 <| J.z 8 <| SJ.seq <| J.R 15 ZcR <| J.t 8 fun hb73 hb74 => J.t 1 fun hb75 hb76 => J.i 0 fun p77 => J.w 0 Ty5 <| J.i 0 fun p78 => J.w 0 Ty5 <| J.z 0 <| SJ.seq <| J.R 15 ZcR <| J.t 8 fun hb79 hb80 => J.t 1 fun hb81 hb82 => J.i 0 fun p83 => J.w 0 Ty5 <| J.i 0 fun p84 => J.w 0 Ty5 <| J.z 0 <| SJ.seq <| J.R 15 ZcR <| J.t 8 fun hb85 hb86 => J.t 1 fun hb87 hb88 => J.i 0 fun p89 => J.w 0 Ty5 <| J.i 0 fun p90 => J.w 0 Ty5 <| J.z 0 <| SJ.seq <| J.R 15 ZcR <| J.t 8 fun hb91 hb92 => J.t 1 fun hb93 hb94 => J.i 0 fun p95 => J.w 0 Ty5 <| J.i 0 fun p96 => J.w 0 Ty5 <| J.z 0 <| SJ.rg 3 <| J.z 3 <| SJ.inBlock <| J.o rfl
 exact SJ.exit (id := 0) (by rfl) <| J.q <| SJ.done <| Zab.K3_ok a0 s1 s2
noncomputable def Zab (a0 : Sl) (a1 : Int) : M Unit :=
 Zb9 (fun s_ : (Int × Int) => Zab.L1 a0 s_.1 s_.2) (a1, (a0.len : Int))
theorem Zf0 (a0 : Sl) (a1 : Int) : Ref Tryz.prog 217 [Sl.v a0, .int .u64 a1] (Zab a0 a1) Zab.out := by
 refine J.Fn Tryz.func217 ?_
 unfold Zab
 exact SJ.sr 3 <| J.z 3 <| SJ.seq <| SJ.block (id := 0) <| J.L (Zab.L1_ok a0)

/-! ### internal/strconv.isPowerOfTwo: function 244 -/
noncomputable def Zcs.out (r_ : Bool) : Value := .bool r_
noncomputable def Zcs (a0 : Int) : M Bool :=
 pure ((band .i64 a0 (IntKind.wrap .i64 (a0 - 1))) == 0)
theorem ZfZ (a0 : Int) : Ref Tryz.prog 244 [.int .i64 a0] (Zcs a0) Zcs.out := by
 refine J.Fn Tryz.func244 ?_
 unfold Zcs
 exact SJ.sr 1 <| J.z 1 <| SJ.sr 6 <| J.z 6 <| J.r

/-! ### math/bits.TrailingZeros64: function 256 -/
noncomputable def Zct.out (r_ : Int) : Value := .int .i64 r_
noncomputable def Zct (a0 : Int) : M Int :=
 if a0 = 0 then
  pure 64
 else
  idx (some ⟨8, 0, none⟩) 64 (Int.fdiv (IntKind.wrap .u64 ((band .u64 a0 (IntKind.wrap .u64 (0 - a0))) * 285870213051353865)) (2 ^ 58)) 1 >>= fun p1 =>
  ld (cI .u8) p1 >>= fun x2 =>
  pure (IntKind.wrap .i64 x2)
theorem Zf7 (a0 : Int) : Ref Tryz.prog 256 [.int .u64 a0] (Zct a0) Zct.out := by
 refine J.Fn Tryz.func256 ?_
 unfold Zct
 refine SJ.sr 1 <| J.z 1 <| SJ.seq <| SJ.sr 2 <| J.z 2 <| J.f ?_ ?_
 ·exact SJ.sr 1 <| J.z 1 <| J.r
 exact SJ.skip <| SJ.sr 10 <| J.g 6 <| OJ.idxA (d := 11) (T := 359) (y := .global 8) (j := .tmp 10) (E := 5) (k := .u64) fun p1 => J.l 0 Ty5 fun x2 => J.z 2 <| J.r

/-! ### math/bits.TrailingZeros: function 245 -/
noncomputable def ZcK.out (r_ : Int) : Value := .int .i64 r_
noncomputable def ZcK (a0 : Int) : M Int :=
 Zct a0 >>= fun r1 =>
 pure r1
theorem ZgQ (a0 : Int) : Ref Tryz.prog 245 [.int .u64 a0] (ZcK a0) ZcK.out := by
 refine J.Fn Tryz.func245 ?_
 unfold ZcK
 exact SJ.sr 1 <| J.z 1 <| SJ.seq <| SJ.cond0 (t := (.const (.bool false))) <| SJ.skip <| SJ.sr 3 <| J.C 1 F256 (Zf7 _) fun r1 => J.z 1 <| J.r

/-! ### internal/strconv.formatBits: function 218 -/
noncomputable def Zaa.B : Code := bod Tryz.f218
noncomputable def Zaa.cx : Fx := ⟨Tryz.prog, 218, Tryz.f218, none⟩
noncomputable def Zaa.out (r_ : (Sl × ByteArray)) : Value := .tuple #[Sl.v r_.1, .string r_.2]
noncomputable def Zaa.K1 (a0 : Sl) (a3 : Bool) (a4 : Bool) (b3 : Nat) (j37 : Int) : M (Sl × ByteArray) :=
 if a3 = true then
  idx (some (pt b3 0)) 65 (IntKind.wrap .i64 (j37 - 1)) 1 >>= fun p39 =>
  st (cI .u8) p39 45 >>= fun _ =>
  if a4 = true then
   cut 1 ⟨some (pt b3 0), 65, 65⟩ (some (IntKind.wrap .i64 (j37 - 1))) none none >>= fun r42 =>
   appS (cI .u8) 5 1 0 a0 r42 >>= fun r43 =>
   pure (r43, ByteArray.empty)
  else
   cut 1 ⟨some (pt b3 0), 65, 65⟩ (some (IntKind.wrap .i64 (j37 - 1))) none none >>= fun r44 =>
   toStr r44 >>= fun r45 =>
   pure (Sl.nil, r45)
 else
  if a4 = true then
   cut 1 ⟨some (pt b3 0), 65, 65⟩ (some j37) none none >>= fun r49 =>
   appS (cI .u8) 5 1 0 a0 r49 >>= fun r50 =>
   pure (r50, ByteArray.empty)
  else
   cut 1 ⟨some (pt b3 0), 65, 65⟩ (some j37) none none >>= fun r51 =>
   toStr r51 >>= fun r52 =>
   pure (Sl.nil, r52)
theorem Zaa.K1_ok (a0 : Sl) (a3 : Bool) (a4 : Bool) (b3 : Nat) (j37 : Int) :
  SJ Zaa.cx [.code (c2 (c2 (c2 (c2 (c2 (c2 Zaa.B))))))] [(0, Sl.v a0), (3, .bool a3), (4, .bool a4), (10, Sl.v Sl.nil), (11, .string ByteArray.empty), (12, .pointer (some (pt b3 0))), (13, .int .i64 j37)] [] (Zaa.K1 a0 a3 a4 b3 j37) (rt Zaa.out) := by
 unfold Zaa.K1
 refine SJ.seq <| SJ.sr 1 <| J.z 1 <| J.f ?_ ?_
 ·refine SJ.sr 3 <| J.z 3 <| SJ.rg 3 <| J.g 1 <| OJ.idxA (d := 93) (T := 346) (y := .tmp 12) (j := .tmp 92) (E := 5) (k := .i64) fun p39 => J.w 0 Ty5 <| J.z 0 <| SJ.seq <| SJ.sr 1 <| J.z 1 <| J.f ?_ ?_
  ·exact SJ.sr 5 <| J.ca 2 fun r42 => OJ.appS (d := 98) (t := 70) (u := 70) (so := .tmp 95) (xo := .tmp 97) (owed := []) Ty5 fun r43 => OW.nil <| J.z 1 <| J.r
  exact SJ.skip <| SJ.sr 4 <| J.ca 1 fun r44 => OJ.toStr (d := 101) (t := 70) (u := 9) (E := 5) (x := .tmp 100) (owed := []) fun r45 => OW.nil <| J.z 1 <| J.r
 refine SJ.skip <| SJ.seq <| SJ.sr 1 <| J.z 1 <| J.f ?_ ?_
 ·exact SJ.sr 5 <| J.ca 2 fun r49 => OJ.appS (d := 98) (t := 70) (u := 70) (so := .tmp 95) (xo := .tmp 97) (owed := []) Ty5 fun r50 => OW.nil <| J.z 1 <| J.r
 exact SJ.skip <| SJ.sr 4 <| J.ca 1 fun r51 => OJ.toStr (d := 101) (t := 70) (u := 9) (E := 5) (x := .tmp 100) (owed := []) fun r52 => OW.nil <| J.z 1 <| J.r
noncomputable def Zaa.K2 (a0 : Sl) (a3 : Bool) (a4 : Bool) (b3 : Nat) (s56 : Int) (s57 : Int) : M (Sl × ByteArray) :=
 chk ((0 : Int) ≤ s56 ∧ s56 < (str0.size : Int)) >>= fun _ =>
 idx (some (pt b3 0)) 65 (IntKind.wrap .i64 (s57 - 1)) 1 >>= fun p65 =>
 st (cI .u8) p65 (sb str0 s56) >>= fun _ =>
 Zaa.K1 a0 a3 a4 b3 (IntKind.wrap .i64 (s57 - 1))
theorem Zaa.K2_ok (a0 : Sl) (a3 : Bool) (a4 : Bool) (b3 : Nat) (s56 : Int) (s57 : Int) :
  SJ Zaa.cx [.code (c2 (c2 (c2 (c2 (c1 (c2 (c1 (c2 (c2 (c2 (c2 (c2 Zaa.B)))))))))))), .code (c2 (c2 (c2 (c2 (c2 (c2 Zaa.B))))))] [(0, Sl.v a0), (1, .int .u64 s56), (3, .bool a3), (4, .bool a4), (10, Sl.v Sl.nil), (11, .string ByteArray.empty), (12, .pointer (some (pt b3 0))), (13, .int .i64 s57)] [] (Zaa.K2 a0 a3 a4 b3 s56 s57) (rt Zaa.out) := by
 unfold Zaa.K2
 exact SJ.sr 3 <| J.z 3 <| SJ.rg 5 <| J.t 2 fun hb63 hb64 => OJ.idxA (d := 63) (T := 346) (y := .tmp 12) (j := .tmp 60) (E := 5) (k := .i64) fun p65 => J.w 0 Ty5 <| J.z 0 <| J.q <| Zaa.K1_ok a0 a3 a4 b3 (IntKind.wrap .i64 (s57 - 1))
noncomputable def Zaa.F1 (a0 : Sl) (a2 : Int) (a3 : Bool) (a4 : Bool) (b3 : Nat) (r55 : Int) : LF (Int × Int) (Sl × ByteArray) := ⟨[.inBlock 0, .code (c2 (c2 (c2 (c2 (c1 (c2 (c1 (c2 (c2 (c2 (c2 (c2 Zaa.B)))))))))))), .code (c2 (c2 (c2 (c2 (c2 (c2 Zaa.B))))))], c1 (c1 (c2 (c2 (c2 (c1 (c2 (c1 (c2 (c2 (c2 (c2 (c2 Zaa.B)))))))))))), fun s_ => [(0, Sl.v a0), (1, .int .u64 s_.1), (3, .bool a3), (4, .bool a4), (10, Sl.v Sl.nil), (11, .string ByteArray.empty), (12, .pointer (some (pt b3 0))), (13, .int .i64 s_.2), (14, .int .u64 (IntKind.wrap .u64 r55)), (15, .int .u64 (IntKind.wrap .u64 a2)), (16, .int .u64 (IntKind.wrap .u64 ((IntKind.wrap .u64 a2) - 1)))], fun s_ => [], (rt Zaa.out)⟩
noncomputable def Zaa.L1 (a0 : Sl) (a2 : Int) (a3 : Bool) (a4 : Bool) (b3 : Nat) (r55 : Int) (s56 : Int) (s57 : Int) : M (LS (Int × Int) (Sl × ByteArray)) :=
 if s56 ≥ (IntKind.wrap .u64 a2) then
  chk ((0 : Int) ≤ (band .u64 s56 (IntKind.wrap .u64 ((IntKind.wrap .u64 a2) - 1))) ∧ (band .u64 s56 (IntKind.wrap .u64 ((IntKind.wrap .u64 a2) - 1))) < (str0.size : Int)) >>= fun _ =>
  idx (some (pt b3 0)) 65 (IntKind.wrap .i64 (s57 - 1)) 1 >>= fun p68 =>
  st (cI .u8) p68 (sb str0 (band .u64 s56 (IntKind.wrap .u64 ((IntKind.wrap .u64 a2) - 1)))) >>= fun _ =>
  chk (0 ≤ (IntKind.wrap .u64 r55)) >>= fun _ =>
  pure (LS.next (Int.fdiv s56 (2 ^ min (Int.toNat (IntKind.wrap .u64 r55)) 64), IntKind.wrap .i64 (s57 - 1)))
 else
  (Zaa.K2 a0 a3 a4 b3 s56 s57) >>= fun b => pure (LS.done b)
theorem Zaa.L1_ok (a0 : Sl) (a2 : Int) (a3 : Bool) (a4 : Bool) (b3 : Nat) (r55 : Int) : LJ Zaa.cx (Zaa.F1 a0 a2 a3 a4 b3 r55) (fun s_ => Zaa.L1 a0 a2 a3 a4 b3 r55 s_.1 s_.2) := by
 rintro ⟨s56, s57⟩
 show SJ _ _ _ _ (Zaa.L1 a0 a2 a3 a4 b3 r55 s56 s57) _
 unfold Zaa.L1
 refine SJ.seq <| SJ.sr 3 <| J.z 3 <| J.f ?_ ?_
 ·exact SJ.skip <| SJ.block (id := 1) <| SJ.sr 3 <| J.z 3 <| SJ.sr 7 <| J.t 4 fun hb66 hb67 => OJ.idxA (d := 54) (T := 346) (y := .tmp 12) (j := .tmp 49) (E := 5) (k := .i64) fun p68 => J.w 0 Ty5 <| J.z 0 <| SJ.rg 4 <| J.g 2 <| OJ.shr (d := 57) (T := 310) (yT := 194) (y := .tmp 55) (z := .tmp 56) (k := .u64) (yk := .u64) (p := s56) (q := (IntKind.wrap .u64 r55)) fun hq69 => J.z 1 <| SJ.inBlock <| J.o rfl
 exact SJ.exit (id := 0) (by rfl) <| J.q <| SJ.done <| Zaa.K2_ok a0 a3 a4 b3 s56 s57
noncomputable def Zaa.K3 (a0 : Sl) (a3 : Bool) (a4 : Bool) (b3 : Nat) (s71 : Int) (s72 : Int) : M (Sl × ByteArray) :=
 chk ((0 : Int) ≤ s71 ∧ s71 < (str0.size : Int)) >>= fun _ =>
 idx (some (pt b3 0)) 65 (IntKind.wrap .i64 (s72 - 1)) 1 >>= fun p80 =>
 st (cI .u8) p80 (sb str0 s71) >>= fun _ =>
 Zaa.K1 a0 a3 a4 b3 (IntKind.wrap .i64 (s72 - 1))
theorem Zaa.K3_ok (a0 : Sl) (a3 : Bool) (a4 : Bool) (b3 : Nat) (s71 : Int) (s72 : Int) :
  SJ Zaa.cx [.code (c2 (c2 (c2 (c2 (c1 (c2 (c2 (c2 (c2 (c2 Zaa.B)))))))))), .code (c2 (c2 (c2 (c2 (c2 (c2 Zaa.B))))))] [(0, Sl.v a0), (1, .int .u64 s71), (3, .bool a3), (4, .bool a4), (10, Sl.v Sl.nil), (11, .string ByteArray.empty), (12, .pointer (some (pt b3 0))), (13, .int .i64 s72)] [] (Zaa.K3 a0 a3 a4 b3 s71 s72) (rt Zaa.out) := by
 unfold Zaa.K3
 exact SJ.sr 3 <| J.z 3 <| SJ.rg 5 <| J.t 2 fun hb78 hb79 => OJ.idxA (d := 88) (T := 346) (y := .tmp 12) (j := .tmp 85) (E := 5) (k := .i64) fun p80 => J.w 0 Ty5 <| J.z 0 <| J.q <| Zaa.K1_ok a0 a3 a4 b3 (IntKind.wrap .i64 (s72 - 1))
noncomputable def Zaa.F2 (a0 : Sl) (a2 : Int) (a3 : Bool) (a4 : Bool) (b3 : Nat) : LF (Int × Int) (Sl × ByteArray) := ⟨[.inBlock 2, .code (c2 (c2 (c2 (c2 (c1 (c2 (c2 (c2 (c2 (c2 Zaa.B)))))))))), .code (c2 (c2 (c2 (c2 (c2 (c2 Zaa.B))))))], c1 (c1 (c2 (c2 (c2 (c1 (c2 (c2 (c2 (c2 (c2 Zaa.B)))))))))), fun s_ => [(0, Sl.v a0), (1, .int .u64 s_.1), (3, .bool a3), (4, .bool a4), (10, Sl.v Sl.nil), (11, .string ByteArray.empty), (12, .pointer (some (pt b3 0))), (13, .int .i64 s_.2), (17, .int .u64 (IntKind.wrap .u64 a2))], fun s_ => [], (rt Zaa.out)⟩
noncomputable def Zaa.L2 (a0 : Sl) (a2 : Int) (a3 : Bool) (a4 : Bool) (b3 : Nat) (s71 : Int) (s72 : Int) : M (LS (Int × Int) (Sl × ByteArray)) :=
 if s71 ≥ (IntKind.wrap .u64 a2) then
  chk ((IntKind.wrap .u64 a2) ≠ 0) >>= fun _ =>
  chk ((0 : Int) ≤ (IntKind.wrap .u64 (s71 - (IntKind.wrap .u64 ((IntKind.wrap .u64 (Int.tdiv s71 (IntKind.wrap .u64 a2))) * (IntKind.wrap .u64 a2))))) ∧ (IntKind.wrap .u64 (s71 - (IntKind.wrap .u64 ((IntKind.wrap .u64 (Int.tdiv s71 (IntKind.wrap .u64 a2))) * (IntKind.wrap .u64 a2))))) < (str0.size : Int)) >>= fun _ =>
  idx (some (pt b3 0)) 65 (IntKind.wrap .i64 (s72 - 1)) 1 >>= fun p83 =>
  st (cI .u8) p83 (sb str0 (IntKind.wrap .u64 (s71 - (IntKind.wrap .u64 ((IntKind.wrap .u64 (Int.tdiv s71 (IntKind.wrap .u64 a2))) * (IntKind.wrap .u64 a2)))))) >>= fun _ =>
  pure (LS.next (IntKind.wrap .u64 (Int.tdiv s71 (IntKind.wrap .u64 a2)), IntKind.wrap .i64 (s72 - 1)))
 else
  (Zaa.K3 a0 a3 a4 b3 s71 s72) >>= fun b => pure (LS.done b)
theorem Zaa.L2_ok (a0 : Sl) (a2 : Int) (a3 : Bool) (a4 : Bool) (b3 : Nat) : LJ Zaa.cx (Zaa.F2 a0 a2 a3 a4 b3) (fun s_ => Zaa.L2 a0 a2 a3 a4 b3 s_.1 s_.2) := by
 rintro ⟨s71, s72⟩
 show SJ _ _ _ _ (Zaa.L2 a0 a2 a3 a4 b3 s71 s72) _
 unfold Zaa.L2
 refine SJ.seq <| SJ.sr 3 <| J.z 3 <| J.f ?_ ?_
 ·exact SJ.skip <| SJ.block (id := 3) <| SJ.sr 3 <| J.z 3 <| SJ.sr 4 <| J.g 2 <| OJ.quo (d := 73) (T := 310) (yT := 310) (y := .tmp 71) (z := .tmp 72) (p := s71) (q := (IntKind.wrap .u64 a2)) (k := .u64) fun hq84 => J.z 1 <| SJ.sr 9 <| J.t 6 fun hb81 hb82 => OJ.idxA (d := 81) (T := 346) (y := .tmp 12) (j := .tmp 74) (E := 5) (k := .i64) fun p83 => J.w 0 Ty5 <| J.z 0 <| SJ.rg 2 <| J.z 2 <| SJ.inBlock <| J.o rfl
 exact SJ.exit (id := 2) (by rfl) <| J.q <| SJ.done <| Zaa.K3_ok a0 a3 a4 b3 s71 s72
noncomputable def Zaa.K4 (a0 : Sl) (a2 : Int) (a3 : Bool) (a4 : Bool) (b3 : Nat) (j4 : Int) : M (Sl × ByteArray) :=
 Zcs a2 >>= fun r5 =>
 if r5 = true then
  ZcK (IntKind.wrap .u64 a2) >>= fun r55 =>
  Zb9 (fun s_ : (Int × Int) => Zaa.L1 a0 a2 a3 a4 b3 r55 s_.1 s_.2) (j4, 65)
 else
  Zb9 (fun s_ : (Int × Int) => Zaa.L2 a0 a2 a3 a4 b3 s_.1 s_.2) (j4, 65)
theorem Zaa.K4_ok (a0 : Sl) (a2 : Int) (a3 : Bool) (a4 : Bool) (b3 : Nat) (j4 : Int) :
  SJ Zaa.cx [.code (c2 (c2 (c2 (c2 (c2 Zaa.B)))))] [(0, Sl.v a0), (1, .int .u64 j4), (2, .int .i64 a2), (3, .bool a3), (4, .bool a4), (10, Sl.v Sl.nil), (11, .string ByteArray.empty), (12, .pointer (some (pt b3 0))), (13, .int .i64 65)] [] (Zaa.K4 a0 a2 a3 a4 b3 j4) (rt Zaa.out) := by
 unfold Zaa.K4
 refine SJ.seq <| SJ.sr 2 <| J.C 1 F244 (ZfZ _) fun r5 => J.z 0 <| J.f ?_ ?_
 ·exact SJ.sr 5 <| J.C 2 F245 (ZgQ _) fun r55 => J.z 2 <| SJ.sr 3 <| J.z 3 <| SJ.sr 4 <| J.z 4 <| SJ.seq <| SJ.block (id := 0) <| J.L (Zaa.L1_ok a0 a2 a3 a4 b3 r55)
 exact SJ.sr 3 <| J.z 3 <| SJ.seq <| SJ.block (id := 2) <| J.L (Zaa.L2_ok a0 a2 a3 a4 b3)
noncomputable def Zaa (a0 : Sl) (a1 : Int) (a2 : Int) (a3 : Bool) (a4 : Bool) : M (Sl × ByteArray) :=
 (if a2 < 2 then
   pure true
  else
   pure (a2 == 10)) >>= fun y1 =>
 (if y1 = true then
   pure true
  else
   pure (decide (a2 > 36))) >>= fun y2 =>
 if y2 = true then
  fail
 else
  newv 346 ((cI .u8).arr 65) (Vec.rep 65 0) >>= fun b3 =>
  if a3 = true then
   Zaa.K4 a0 a2 a3 a4 b3 (IntKind.wrap .u64 (0 - a1))
  else
   Zaa.K4 a0 a2 a3 a4 b3 a1
theorem Zgr (a0 : Sl) (a1 : Int) (a2 : Int) (a3 : Bool) (a4 : Bool) : Ref Tryz.prog 218 [Sl.v a0, .int .u64 a1, .int .i64 a2, .bool a3, .bool a4] (Zaa a0 a1 a2 a3 a4) Zaa.out := by
 refine J.Fn Tryz.func218 ?_
 unfold Zaa
 refine SJ.sr 2 <| J.z 2 <| SJ.seq <| SJ.sr 10 <| J.j 3 2 .bool ?_ ?_ fun y1 => ?_
 ·exact J.e 3
 ·exact J.e 3
 refine J.j 1 2 .bool ?_ ?_ fun y2 => ?_
 ·exact J.e 3
 ·exact J.e 3
 refine J.z 0 <| J.f ?_ ?_
 ·exact SJ.rg 2 <| J.g 1 <| OJ.fail
 refine SJ.skip <| SJ.sr 1 <| J.A 0 Zuu fun b3 => J.z 0 <| SJ.sr 1 <| J.z 1 <| SJ.seq <| SJ.sr 1 <| J.z 1 <| J.f ?_ ?_
 ·exact SJ.rg 3 <| J.z 3 <| J.q <| Zaa.K4_ok a0 a2 a3 a4 b3 (IntKind.wrap .u64 (0 - a1))
 exact SJ.skip <| J.q <| Zaa.K4_ok a0 a2 a3 a4 b3 a1

/-! ### internal/strconv.FormatInt: function 183 -/
noncomputable def ZaU.B : Code := bod Tryz.f183
noncomputable def ZaU.cx : Fx := ⟨Tryz.prog, 183, Tryz.f183, none⟩
noncomputable def ZaU.out (r_ : ByteArray) : Value := .string r_
noncomputable def ZaU.K1 (a0 : Int) (b21 : Nat) (j22 : Int) : M ByteArray :=
 Zb1 j22 >>= fun r23 =>
 cut 1 ⟨some (pt b21 0), 24, 24⟩ (some 1) (some (IntKind.wrap .i64 (1 + r23))) none >>= fun r24 =>
 Zab r24 j22 >>= fun r25 =>
 if a0 < 0 then
  st (cI .u8) (pt b21 0) 45 >>= fun _ =>
  cut 1 ⟨some (pt b21 0), 24, 24⟩ none (some (IntKind.wrap .i64 (1 + r23))) none >>= fun r28 =>
  toStr r28 >>= fun r29 =>
  pure r29
 else
  cut 1 ⟨some (pt b21 0), 24, 24⟩ (some 1) (some (IntKind.wrap .i64 (1 + r23))) none >>= fun r30 =>
  toStr r30 >>= fun r31 =>
  pure r31
theorem ZaU.K1_ok (a0 : Int) (b21 : Nat) (j22 : Int) :
  SJ ZaU.cx [.code (c2 (c2 (c2 (c2 (c1 (c2 (c1 (c2 ZaU.B)))))))), .code (c2 (c2 ZaU.B))] [(0, .int .i64 a0), (5, .pointer (some (pt b21 0))), (6, .int .u64 j22)] [] (ZaU.K1 a0 b21 j22) (rt ZaU.out) := by
 unfold ZaU.K1
 refine SJ.sr 3 <| J.C 1 F216 (Zhe _) fun r23 => J.z 1 <| SJ.sr 5 <| J.ca 2 fun r24 => J.C 1 F217 (Zf0 _ _) fun r25 => J.z 0 <| SJ.seq <| SJ.sr 2 <| J.z 2 <| J.f ?_ ?_
 ·exact SJ.sr 2 <| J.w 1 Ty5 <| J.z 0 <| SJ.sr 5 <| J.ca 2 fun r28 => OJ.toStr (d := 39) (t := 70) (u := 9) (E := 5) (x := .tmp 38) (owed := []) fun r29 => OW.nil <| J.z 1 <| J.r
 exact SJ.skip <| SJ.sr 5 <| J.ca 2 fun r30 => OJ.toStr (d := 43) (t := 70) (u := 9) (E := 5) (x := .tmp 42) (owed := []) fun r31 => OW.nil <| J.z 1 <| J.r
noncomputable def ZaU (a0 : Int) (a1 : Int) : M ByteArray :=
 if a1 = 10 then
  (if 0 ≤ a0 then
    pure (decide (a0 < 100))
   else
    pure false) >>= fun y18 =>
  if y18 = true then
   ZdE a0 >>= fun r20 =>
   pure r20
  else
   newv 309 ((cI .u8).arr 24) (Vec.rep 24 0) >>= fun b21 =>
   if a0 < 0 then
    ZaU.K1 a0 b21 (IntKind.wrap .u64 (0 - (IntKind.wrap .u64 a0)))
   else
    ZaU.K1 a0 b21 (IntKind.wrap .u64 a0)
 else
  Zaa Sl.nil (IntKind.wrap .u64 a0) a1 (decide (a0 < 0)) false >>= fun r35 =>
  pure r35.2
theorem ZeX (a0 : Int) (a1 : Int) : Ref Tryz.prog 183 [.int .i64 a0, .int .i64 a1] (ZaU a0 a1) ZaU.out := by
 refine J.Fn Tryz.func183 ?_
 unfold ZaU
 refine SJ.sr 1 <| J.z 1 <| SJ.seq <| SJ.sr 2 <| J.z 2 <| J.f ?_ ?_
 ·refine SJ.seq <| SJ.sr 6 <| J.j 3 2 .bool ?_ ?_ fun y18 => ?_
  ·exact J.e 3
  ·exact J.e 3
  refine J.z 0 <| J.f ?_ ?_
  ·exact SJ.sr 3 <| J.C 1 F215 (Zjb _) fun r20 => J.z 1 <| J.r
  refine SJ.skip <| SJ.sr 1 <| J.A 0 Zux fun b21 => J.z 0 <| SJ.sr 3 <| J.z 3 <| SJ.seq <| SJ.sr 2 <| J.z 2 <| J.f ?_ ?_
  ·exact SJ.rg 3 <| J.z 3 <| J.q <| ZaU.K1_ok a0 b21 (IntKind.wrap .u64 (0 - (IntKind.wrap .u64 a0)))
  exact SJ.skip <| J.q <| ZaU.K1_ok a0 b21 (IntKind.wrap .u64 a0)
 exact SJ.skip <| SJ.sr 11 <| J.C 5 F218 (Zgr _ _ _ _ _) fun r35 => J.z 5 <| SJ.sr 2 <| J.z 2 <| J.r

/-! ### internal/strconv.Itoa: function 153 -/
noncomputable def ZdV.out (r_ : ByteArray) : Value := .string r_
noncomputable def ZdV (a0 : Int) : M ByteArray :=
 ZaU a0 10 >>= fun r1 =>
 pure r1
theorem ZjD (a0 : Int) : Ref Tryz.prog 153 [.int .i64 a0] (ZdV a0) ZdV.out := by
 refine J.Fn Tryz.func153 ?_
 unfold ZdV
 exact SJ.sr 1 <| J.z 1 <| SJ.sr 3 <| J.C 1 F183 (ZeX _ _) fun r1 => J.z 1 <| J.r

/-! ### strconv.Itoa: function 112 -/
noncomputable def ZbH.out (r_ : ByteArray) : Value := .string r_
noncomputable def ZbH (a0 : Int) : M ByteArray :=
 ZdV a0 >>= fun r1 =>
 pure r1
theorem Zcf (a0 : Int) : Ref Tryz.prog 112 [.int .i64 a0] (ZbH a0) ZbH.out := by
 refine J.Fn Tryz.func112 ?_
 unfold ZbH
 exact SJ.sr 1 <| J.z 1 <| SJ.sr 3 <| J.C 1 F153 (ZjD _) fun r1 => J.z 1 <| J.r

/-! ### weir/rules.protoName: function 154 -/
noncomputable def Zc4.out (r_ : ByteArray) : Value := .string r_
noncomputable def Zc4 (a0 : Int) : M ByteArray :=
 if a0 = 6 then
  pure str4
 else
  if a0 = 17 then
   pure str5
  else
   if a0 = 1 then
    pure str6
   else
    if a0 = 58 then
     pure str7
    else
     pure ByteArray.empty
theorem ZhX (a0 : Int) : Ref Tryz.prog 154 [.int .i64 a0] (Zc4 a0) Zc4.out := by
 refine J.Fn Tryz.func154 ?_
 unfold Zc4
 refine SJ.sr 1 <| J.z 1 <| SJ.seq <| SJ.sr 1 <| J.z 1 <| SJ.block (id := 0) <| SJ.sr 2 <| J.z 2 <| J.f ?_ ?_
 ·exact SJ.sr 1 <| J.z 1 <| J.r
 refine SJ.sr 2 <| J.z 2 <| J.f ?_ ?_
 ·exact SJ.sr 1 <| J.z 1 <| J.r
 refine SJ.sr 2 <| J.z 2 <| J.f ?_ ?_
 ·exact SJ.sr 1 <| J.z 1 <| J.r
 refine SJ.sr 2 <| J.z 2 <| J.f ?_ ?_
 ·exact SJ.sr 1 <| J.z 1 <| J.r
 exact SJ.skip <| SJ.inBlock <| SJ.sr 1 <| J.z 1 <| J.r

/-! ### weir/rules.what: function 113 -/
noncomputable def ZbQ.B : Code := bod Tryz.f113
noncomputable def ZbQ.cx : Fx := ⟨Tryz.prog, 113, Tryz.f113, none⟩
noncomputable def ZbQ.out (r_ : ByteArray) : Value := .string r_
noncomputable def ZbQ.K1 (a0 : Zag) (j5 : ByteArray) : M ByteArray :=
 Zc4 a0.Proto >>= fun r6 =>
 if ¬ (r6.toList = ByteArray.empty.toList) then
  chk (((str8.size + r6.size : Nat) : Int) ≤ 9223372036854775807) >>= fun _ =>
  chk (((j5.size + (str8 ++ r6).size : Nat) : Int) ≤ 9223372036854775807) >>= fun _ =>
  pure (j5 ++ (str8 ++ r6))
 else
  if a0.Proto > 0 then
   ZbH a0.Proto >>= fun r14 =>
   chk (((str9.size + r14.size : Nat) : Int) ≤ 9223372036854775807) >>= fun _ =>
   chk (((j5.size + (str9 ++ r14).size : Nat) : Int) ≤ 9223372036854775807) >>= fun _ =>
   pure (j5 ++ (str9 ++ r14))
  else
   if a0.Kind = 0 then
    pure ZtB
   else
    pure j5
theorem ZbQ.K1_ok (a0 : Zag) (b1 : Nat) (j5 : ByteArray) :
  SJ ZbQ.cx [.code (c2 (c2 (c2 ZbQ.B)))] [(1, .pointer (some (pt b1 0))), (3, .string j5)] [(b1, Zak.enc a0)] (ZbQ.K1 a0 j5) (rt ZbQ.out) := by
 unfold ZbQ.K1
 refine SJ.sr 4 <| J.k 1 0 rfl Ty3 (Za1 _) <| J.C 0 F154 (ZhX _) fun r6 => J.z 1 <| SJ.seq <| SJ.block (id := 0) <| SJ.sr 3 <| J.z 3 <| J.f ?_ ?_
 ·exact SJ.rg 5 <| J.T 2 <| J.T 0 <| J.z 1 <| SJ.inBlock <| SJ.sr 2 <| J.z 2 <| J.r
 refine SJ.sr 4 <| J.k 1 0 rfl Ty3 (Za1 _) <| J.z 2 <| J.f ?_ ?_
 ·exact SJ.rg 7 <| J.k 2 0 rfl Ty3 (Za1 _) <| J.C 0 F112 (Zcf _) fun r14 => J.T 0 <| J.T 0 <| J.z 1 <| SJ.inBlock <| SJ.sr 2 <| J.z 2 <| J.r
 refine SJ.sr 4 <| J.k 1 0 rfl Ty3 (Zbk _) <| J.z 2 <| J.f ?_ ?_
 ·exact SJ.rg 1 <| J.z 1 <| SJ.inBlock <| SJ.sr 2 <| J.z 2 <| J.r
 exact SJ.skip <| SJ.inBlock <| SJ.sr 2 <| J.z 2 <| J.r
noncomputable def ZbQ (a0 : Zag) : M ByteArray :=
 slot 28 >>= fun b1 =>
 if a0.Kind > 0 then
  ld cL ⟨1, 0, none⟩ >>= fun x18 =>
  idx x18.a x18.len (IntKind.wrap .i64 (a0.Kind - 1)) 1 >>= fun p19 =>
  ld cS p19 >>= fun x20 =>
  chk (((str8.size + x20.size : Nat) : Int) ≤ 9223372036854775807) >>= fun _ =>
  ZbQ.K1 a0 (str8 ++ x20)
 else
  ZbQ.K1 a0 ByteArray.empty
theorem Zly (a0 : Zag) : Ref Tryz.prog 113 [Zak.val a0] (ZbQ a0) ZbQ.out := by
 refine J.Fn Tryz.func113 ?_
 unfold ZbQ
 refine SJ.sr 2 <| J.b 0 Zak a0 fun b1 => J.z 1 <| SJ.sr 1 <| J.z 1 <| SJ.seq <| SJ.sr 3 <| J.k 1 0 rfl Ty3 (Zbk _) <| J.z 1 <| J.f ?_ ?_
 ·exact SJ.rg 8 <| J.l 0 Ty22 fun x18 => J.k 1 0 rfl Ty3 (Zbk _) <| J.i 1 fun p19 => J.l 0 Ty9 fun x20 => J.T 0 <| J.z 1 <| J.q <| ZbQ.K1_ok a0 b1 (str8 ++ x20)
 exact SJ.skip <| J.q <| ZbQ.K1_ok a0 b1 ByteArray.empty

/-! ### weir/addr.Valid: function 184 -/
noncomputable def ZeH.out (r_ : Bool) : Value := .bool r_
noncomputable def ZeH (a0 : Zbe) : M Bool :=
 slot 66 >>= fun b1 =>
 Zex a0 >>= fun r2 =>
 pure (decide (r2 > 0))
theorem ZlZ (a0 : Zbe) : Ref Tryz.prog 184 [Zbo.val a0] (ZeH a0) ZeH.out := by
 refine J.Fn Tryz.func184 ?_
 unfold ZeH
 exact SJ.sr 2 <| J.b 0 Zbo a0 fun b1 => J.z 1 <| SJ.sr 4 <| J.k 0 0 rfl Ty66 (At.whole _) <| J.C 0 F181 (ZgS _) fun r2 => J.z 2 <| J.r

/-! ### (*strings.Builder).copyCheck: function 188 -/
noncomputable def ZbD.out (r_ : Unit) : Value := .tuple #[]
noncomputable def ZbD (a0 : (Option Addr)) : M Unit :=
 nilck a0 >>= fun p1 =>
 ld cP p1 >>= fun x2 =>
 if x2 = none then
  upOf a0 >>= fun r11 =>
  noesc r11 >>= fun r12 =>
  ptOf 237 2 r12 >>= fun r13 =>
  nilck a0 >>= fun p14 =>
  st cP p14 r13 >>= fun _ =>
  pure ()
 else
  nilck a0 >>= fun p15 =>
  ld cP p15 >>= fun x16 =>
  ptrEq x16 a0 >>= fun y17 =>
  if ¬ (y17 = true) then
   fail
  else
   pure ()
theorem ZdS (a0 : (Option Addr)) : Ref Tryz.prog 188 [.pointer a0] (ZbD a0) ZbD.out := by
 refine J.Fn Tryz.func188 ?_
 unfold ZbD
 refine SJ.sr 5 <| J.n 1 fun p1 => J.l 1 Zth fun x2 => J.z 1 <| J.f ?_ ?_
 ·exact SJ.rg 8 <| J.g 2 <| OJ.upOf (d := 9) (t := 235) (u := 315) (E := 237) (x := .tmp 8) (p := a0) (owed := []) fun r11 => OW.nil <| OJ.ext (d := 10) (g := 220) (ats := #[315]) (args := [.tmp 9]) (out := fun r => .pointer r) (owed := []) Tryz.func220 Zp0 fun r12 => OW.nil <| OJ.ptOf (d := 11) (t := 235) (u := 315) (E := 237) (T := 237) (n := 2) (x := .tmp 10) (p := r12) (owed := []) (by kernel_rfl) fun r13 => OW.nil <| J.n 0 fun p14 => J.w 1 Zth <| J.z 0 <| SJ.end_ rfl (Res.run (ys := []) .nil rfl)
 refine SJ.sr 6 <| J.n 1 fun p15 => J.l 1 Zth fun x16 => J.g 1 <| OJ.pneq (d := 19) (T := 235) (E := 237) (yT := 235) (y := .tmp 17) (z := .tmp 18) (p := x16) (q := a0) fun y17 => J.z 0 <| J.f ?_ ?_
 ·exact SJ.fail
 exact SJ.skip <| SJ.end_ rfl (Res.run (ys := []) .nil rfl)

/-! ### (*strings.Builder).grow: function 189 -/
noncomputable def Zcr.out (r_ : Unit) : Value := .tuple #[]
noncomputable def Zcr (a0 : (Option Addr)) (a1 : Int) : M Unit :=
 draw >>= fun _ =>
 nilck a0 >>= fun p1 =>
 ld cL (Addr.add p1 1) >>= fun x2 =>
 nilck a0 >>= fun p3 =>
 ld cL (Addr.add p3 1) >>= fun x4 =>
 mkNZ 5 (IntKind.wrap .i64 ((IntKind.wrap .i64 (2 * (x2.cap : Int))) + a1)) >>= fun r5 =>
 same cL (Addr.add p3 1) x4 >>= fun _ =>
 cut 1 r5 none (some (x4.len : Int)) none >>= fun r6 =>
 nilck a0 >>= fun p7 =>
 ld cL (Addr.add p7 1) >>= fun x8 =>
 cpyS (cI .u8) r6 x8 >>= fun r9 =>
 nilck a0 >>= fun p10 =>
 st cL (Addr.add p10 1) r6 >>= fun _ =>
 pure ()
theorem ZfX (a0 : (Option Addr)) (a1 : Int) : Ref Tryz.prog 189 [.pointer a0, .int .i64 a1] (Zcr a0 a1) Zcr.out := by
 refine J.Fn Tryz.func189 ?_
 unfold Zcr
 exact SJ.seq <| J.D [0, 1, 2, 3, 4, 5, 6, 7, 9, 10, 11, 12, 8, 13, 14, 15] ZcR <| J.n 1 fun p1 => J.l 1 Ty70 fun x2 => OJ.capS (d := 9) (so := .tmp 8) (t := 70) (E := 5) (s := x2) <| J.n 4 fun p3 => J.l 1 Ty70 fun x4 => OJ.ext (d := 13) (g := 221) (ats := #[3]) (args := [.tmp 12]) (out := Sl.v) (owed := [⟨12, 70, (Addr.add p3 1), cL.val x4⟩]) Tryz.func221 (Zrv (t := 70) (E := 5) (ps := #[3]) (by kernel_rfl)) fun r5 => OW.same Ty70 <| OW.nil <| J.cs 1 fun r6 => J.z 1 <| SJ.sr 6 <| J.n 2 fun p7 => J.l 1 Ty70 fun x8 => OJ.cpy1 (n := 25) (t := 70) (u := 70) (so := .tmp 20) (xo := .tmp 24) (owed := []) Ty5 fun r9 => OW.nil <| J.z 0 <| SJ.rg 5 <| J.n 2 fun p10 => J.w 1 Ty70 <| J.z 0 <| SJ.end_ rfl (Res.run (ys := []) .nil rfl)

/-! ### (*strings.Builder).Grow: function 157 -/
noncomputable def Zb7.out (r_ : Unit) : Value := .tuple #[]
noncomputable def Zb7 (a0 : (Option Addr)) (a1 : Int) : M Unit :=
 ZbD a0 >>= fun r1 =>
 if a1 < 0 then
  fail
 else
  draw >>= fun _ =>
  nilck a0 >>= fun p2 =>
  ld cL (Addr.add p2 1) >>= fun x3 =>
  nilck a0 >>= fun p4 =>
  ld cL (Addr.add p4 1) >>= fun x5 =>
  if (IntKind.wrap .i64 ((x3.cap : Int) - (x5.len : Int))) < a1 then
   Zcr a0 a1 >>= fun r7 =>
   pure ()
  else
   pure ()
theorem ZfY (a0 : (Option Addr)) (a1 : Int) : Ref Tryz.prog 157 [.pointer a0, .int .i64 a1] (Zb7 a0 a1) Zb7.out := by
 refine J.Fn Tryz.func157 ?_
 unfold Zb7
 refine SJ.sr 2 <| J.C 1 F188 (ZdS _) fun r1 => J.z 0 <| SJ.seq <| SJ.sr 2 <| J.z 2 <| J.f ?_ ?_
 ·exact SJ.rg 2 <| J.g 1 <| OJ.fail
 refine SJ.skip <| SJ.seq <| J.R 13 ZcR <| J.n 1 fun p2 => J.l 1 Ty70 fun x3 => OJ.capS (d := 13) (so := .tmp 12) (t := 70) (E := 5) (s := x3) <| J.n 1 fun p4 => J.l 1 Ty70 fun x5 => J.z 4 <| J.f ?_ ?_
 ·exact SJ.rg 3 <| J.C 2 F189 (ZfX _ _) fun r7 => J.z 0 <| SJ.end_ rfl (Res.run (ys := []) .nil rfl)
 exact SJ.skip <| SJ.end_ rfl (Res.run (ys := []) .nil rfl)

/-! ### (*strings.Builder).WriteString: function 158 -/
noncomputable def Zbn.out (r_ : (Int × Any)) : Value := .tuple #[.int .i64 r_.1, r_.2.v]
noncomputable def Zbn (a0 : (Option Addr)) (a1 : ByteArray) : M (Int × Any) :=
 ZbD a0 >>= fun r1 =>
 nilck a0 >>= fun p2 =>
 ld cL (Addr.add p2 1) >>= fun x3 =>
 appl (cI .u8) 5 1 0 x3 (strI a1) >>= fun r4 =>
 nilck a0 >>= fun p5 =>
 st cL (Addr.add p5 1) r4 >>= fun _ =>
 pure ((a1.size : Int), (⟨.nilIface, rfl⟩ : Any))
theorem ZcH (a0 : (Option Addr)) (a1 : ByteArray) : Ref Tryz.prog 158 [.pointer a0, .string a1] (Zbn a0 a1) Zbn.out := by
 refine J.Fn Tryz.func158 ?_
 unfold Zbn
 exact SJ.sr 2 <| J.z 2 <| SJ.sr 2 <| J.C 1 F188 (ZdS _) fun r1 => J.z 0 <| SJ.sr 10 <| J.n 2 fun p2 => J.l 1 Ty70 fun x3 => J.g 1 <| OJ.appT (d := 14) (t := 70) (u := 9) (so := .tmp 12) (xo := .tmp 13) (y := a1) (owed := []) Ty5 fun r4 => OW.nil <| J.n 0 fun p5 => J.w 1 Ty70 <| J.z 0 <| SJ.sr 4 <| J.z 4 <| J.r

/-! ### (*strings.Builder).String: function 159 -/
noncomputable def ZbV.out (r_ : ByteArray) : Value := .string r_
noncomputable def ZbV (a0 : (Option Addr)) : M ByteArray :=
 draw >>= fun _ =>
 nilck a0 >>= fun p1 =>
 ld cL (Addr.add p1 1) >>= fun x2 =>
 nilck a0 >>= fun p3 =>
 ld cL (Addr.add p3 1) >>= fun x4 =>
 sdata x2 >>= fun r5 =>
 same cL (Addr.add p3 1) x4 >>= fun _ =>
 ustr 5 r5 (x4.len : Int) >>= fun r6 =>
 pure r6
theorem Zfz (a0 : (Option Addr)) : Ref Tryz.prog 159 [.pointer a0] (ZbV a0) ZbV.out := by
 refine J.Fn Tryz.func159 ?_
 unfold ZbV
 exact SJ.sr 1 <| J.z 1 <| SJ.seq <| J.D [0, 1, 2, 3, 5, 6, 7, 8, 4, 9, 10, 11] ZcR <| J.n 1 fun p1 => J.l 1 Ty70 fun x2 => J.n 1 fun p3 => J.l 1 Ty70 fun x4 => OJ.sdata (d := 7) (t := 70) (x := .tmp 6) (s := x2) (owed := [⟨8, 70, (Addr.add p3 1), cL.val x4⟩]) fun r5 => OW.same Ty70 <| OW.nil <| J.g 1 <| OJ.ustr (d := 13) (t := 284) (t2 := 3) (E := 5) (x := .tmp 7) (y := .tmp 12) (p := r5) (n := (x4.len : Int)) (owed := []) fun r6 => OW.nil <| J.z 1 <| J.r

/-! ### strings.Join: function 115 -/
noncomputable def Zav.B : Code := bod Tryz.f115
noncomputable def Zav.cx : Fx := ⟨Tryz.prog, 115, Tryz.f115, none⟩
noncomputable def Zav.out (r_ : ByteArray) : Value := .string r_
noncomputable def Zav.F1 (a1 : ByteArray) (b19 : Nat) (r24 : Sl) : LF Int ByteArray := ⟨[.inBlock 3, .code (c2 (c2 (c2 (c2 (c2 (c2 (c2 (c2 (c2 Zav.B)))))))))], c1 (c2 (c1 (c2 (c2 (c2 (c2 (c2 (c2 (c2 (c2 Zav.B)))))))))), fun s_ => [(1, .string a1), (8, .pointer (some (pt b19 0))), (63, Sl.v r24), (64, .int .i64 (r24.len : Int)), (65, .int .i64 s_)], fun s_ => [], (rt Zav.out)⟩
noncomputable def Zav.L1 (a1 : ByteArray) (b19 : Nat) (r24 : Sl) (s25 : Int) : M (LS Int ByteArray) :=
 if s25 < (r24.len : Int) then
  idx r24.a r24.len s25 1 >>= fun p32 =>
  ld cS p32 >>= fun x33 =>
  Zbn (some (pt b19 0)) a1 >>= fun r34 =>
  Zbn (some (pt b19 0)) x33 >>= fun r35 =>
  pure (LS.next (IntKind.wrap .i64 (s25 + 1)))
 else
  ZbV (some (pt b19 0)) >>= fun r36 =>
  pure (LS.done r36)
theorem Zav.L1_ok (a1 : ByteArray) (b19 : Nat) (r24 : Sl) : LJ Zav.cx (Zav.F1 a1 b19 r24) (fun s_ => Zav.L1 a1 b19 r24 s_) := by
 rintro s25
 show SJ _ _ _ _ (Zav.L1 a1 b19 r24 s25) _
 unfold Zav.L1
 refine SJ.sr 1 <| J.z 1 <| SJ.seq <| J.f ?_ ?_
 ·exact SJ.skip <| SJ.seq <| SJ.block (id := 4) <| SJ.sr 3 <| J.i 0 fun p32 => J.l 0 Ty9 fun x33 => J.z 1 <| SJ.sr 2 <| J.C 1 F158 (ZcH _ _) fun r34 => J.z 0 <| SJ.rg 2 <| J.C 1 F158 (ZcH _ _) fun r35 => J.z 0 <| SJ.inBlock <| SJ.rg 2 <| J.z 2 <| J.o rfl
 exact SJ.exit (id := 3) (by rfl) <| SJ.sr 2 <| J.C 0 F159 (Zfz _) fun r36 => J.z 1 <| J.r
noncomputable def Zav.K1 (a0 : Sl) (a1 : ByteArray) (s13 : Int) : M ByteArray :=
 newv 237 Zb2 Zd0 >>= fun b19 =>
 Zb7 (some (pt b19 0)) s13 >>= fun r20 =>
 idx a0.a a0.len 0 1 >>= fun p21 =>
 ld cS p21 >>= fun x22 =>
 Zbn (some (pt b19 0)) x22 >>= fun r23 =>
 cut 1 a0 (some 1) none none >>= fun r24 =>
 Zb9 (fun s_ : Int => Zav.L1 a1 b19 r24 s_) 0
theorem Zav.K1_ok (a0 : Sl) (a1 : ByteArray) (s13 : Int) :
  SJ Zav.cx [.code (c2 (c2 (c2 (c2 (c2 Zav.B)))))] [(0, Sl.v a0), (1, .string a1), (5, .int .i64 s13)] [] (Zav.K1 a0 a1 s13) (rt Zav.out) := by
 unfold Zav.K1
 exact SJ.sr 1 <| J.A 0 Zuy fun b19 => J.z 0 <| SJ.sr 2 <| J.C 1 F157 (ZfY _ _) fun r20 => J.z 0 <| SJ.sr 4 <| J.i 1 fun p21 => J.l 0 Ty9 fun x22 => J.C 0 F158 (ZcH _ _) fun r23 => J.z 0 <| SJ.seq <| SJ.sr 4 <| J.cs 1 fun r24 => J.z 2 <| SJ.block (id := 3) <| J.L (Zav.L1_ok a1 b19 r24)
noncomputable def Zav.F2 (a0 : Sl) (a1 : ByteArray) : LF (Int × Int) ByteArray := ⟨[.inBlock 1, .code (c2 (c2 (c2 (c2 (c2 Zav.B)))))], c1 (c2 (c1 (c2 (c2 (c2 (c2 Zav.B)))))), fun s_ => [(0, Sl.v a0), (1, .string a1), (5, .int .i64 s_.1), (39, Sl.v a0), (40, .int .i64 (a0.len : Int)), (41, .int .i64 s_.2)], fun s_ => [], (rt Zav.out)⟩
noncomputable def Zav.L2 (a0 : Sl) (a1 : ByteArray) (s13 : Int) (s14 : Int) : M (LS (Int × Int) ByteArray) :=
 if s14 < (a0.len : Int) then
  idx a0.a a0.len s14 1 >>= fun p38 =>
  ld cS p38 >>= fun x39 =>
  if (x39.size : Int) > (IntKind.wrap .i64 (9223372036854775807 - s13)) then
   fail
  else
   pure (LS.next (IntKind.wrap .i64 (s13 + (x39.size : Int)), IntKind.wrap .i64 (s14 + 1)))
 else
  (Zav.K1 a0 a1 s13) >>= fun b => pure (LS.done b)
theorem Zav.L2_ok (a0 : Sl) (a1 : ByteArray) : LJ Zav.cx (Zav.F2 a0 a1) (fun s_ => Zav.L2 a0 a1 s_.1 s_.2) := by
 rintro ⟨s13, s14⟩
 show SJ _ _ _ _ (Zav.L2 a0 a1 s13 s14) _
 unfold Zav.L2
 refine SJ.sr 1 <| J.z 1 <| SJ.seq <| J.f ?_ ?_
 ·refine SJ.skip <| SJ.seq <| SJ.block (id := 2) <| SJ.sr 3 <| J.i 0 fun p38 => J.l 0 Ty9 fun x39 => J.z 1 <| SJ.seq <| SJ.sr 5 <| J.z 5 <| J.f ?_ ?_
  ·exact SJ.rg 2 <| J.g 1 <| OJ.fail
  exact SJ.skip <| SJ.rg 5 <| J.z 5 <| SJ.inBlock <| SJ.rg 2 <| J.z 2 <| J.o rfl
 exact SJ.exit (id := 1) (by rfl) <| J.q <| SJ.done <| Zav.K1_ok a0 a1 s13
noncomputable def Zav.K2 (a0 : Sl) (a1 : ByteArray) (j12 : Int) : M ByteArray :=
 Zb9 (fun s_ : (Int × Int) => Zav.L2 a0 a1 s_.1 s_.2) (j12, 0)
theorem Zav.K2_ok (a0 : Sl) (a1 : ByteArray) (j12 : Int) :
  SJ Zav.cx [.code (c2 (c2 (c2 (c2 Zav.B))))] [(0, Sl.v a0), (1, .string a1), (5, .int .i64 j12)] [] (Zav.K2 a0 a1 j12) (rt Zav.out) := by
 unfold Zav.K2
 exact SJ.seq <| SJ.sr 3 <| J.z 3 <| SJ.block (id := 1) <| J.L (Zav.L2_ok a0 a1)
noncomputable def Zav (a0 : Sl) (a1 : ByteArray) : M ByteArray :=
 if (a0.len : Int) = 0 then
  pure ByteArray.empty
 else
  if (a0.len : Int) = 1 then
   idx a0.a a0.len 0 1 >>= fun p8 =>
   ld cS p8 >>= fun x9 =>
   pure x9
  else
   if (a1.size : Int) > 0 then
    chk ((IntKind.wrap .i64 ((a0.len : Int) - 1)) ≠ 0) >>= fun _ =>
    if (a1.size : Int) ≥ (IntKind.wrap .i64 (Int.tdiv 9223372036854775807 (IntKind.wrap .i64 ((a0.len : Int) - 1)))) then
     fail
    else
     Zav.K2 a0 a1 (IntKind.wrap .i64 (0 + (IntKind.wrap .i64 ((a1.size : Int) * (IntKind.wrap .i64 ((a0.len : Int) - 1))))))
   else
    Zav.K2 a0 a1 0
theorem Zdu (a0 : Sl) (a1 : ByteArray) : Ref Tryz.prog 115 [Sl.v a0, .string a1] (Zav a0 a1) Zav.out := by
 refine J.Fn Tryz.func115 ?_
 unfold Zav
 refine SJ.sr 1 <| J.z 1 <| SJ.seq <| SJ.sr 2 <| J.z 2 <| SJ.block (id := 0) <| SJ.sr 2 <| J.z 2 <| J.f ?_ ?_
 ·exact SJ.sr 1 <| J.z 1 <| J.r
 refine SJ.sr 2 <| J.z 2 <| J.f ?_ ?_
 ·exact SJ.sr 4 <| J.i 1 fun p8 => J.l 0 Ty9 fun x9 => J.z 1 <| J.r
 refine SJ.skip <| SJ.inBlock <| SJ.sr 1 <| J.z 1 <| SJ.seq <| SJ.sr 3 <| J.z 3 <| J.f ?_ ?_
 ·refine SJ.seq <| SJ.sr 7 <| J.g 5 <| OJ.quo (d := 28) (T := 3) (yT := 3) (y := .const (.int .i64 9223372036854775807)) (z := .tmp 27) (p := 9223372036854775807) (q := (IntKind.wrap .i64 ((a0.len : Int) - 1))) (k := .i64) fun hq43 => J.z 1 <| J.f ?_ ?_
  ·exact SJ.rg 2 <| J.g 1 <| OJ.fail
  exact SJ.skip <| SJ.rg 9 <| J.z 9 <| J.q <| Zav.K2_ok a0 a1 (IntKind.wrap .i64 (0 + (IntKind.wrap .i64 ((a1.size : Int) * (IntKind.wrap .i64 ((a0.len : Int) - 1))))))
 exact SJ.skip <| J.q <| Zav.K2_ok a0 a1 0

/-! ### weir/addr.dotted: function 185 -/
noncomputable def ZbB.B : Code := bod Tryz.f185
noncomputable def ZbB.cx : Fx := ⟨Tryz.prog, 185, Tryz.f185, none⟩
noncomputable def ZbB.out (r_ : ByteArray) : Value := .string r_
noncomputable def ZbB.F1 (a0 : Sl) : LF (Sl × Int) ByteArray := ⟨[.inBlock 0, .code (c2 (c2 (c2 ZbB.B)))], c1 (c2 (c1 (c2 (c2 ZbB.B)))), fun s_ => [(3, Sl.v s_.1), (6, Sl.v a0), (7, .int .i64 (a0.len : Int)), (8, .int .i64 s_.2)], fun s_ => [], (rt ZbB.out)⟩
noncomputable def ZbB.L1 (a0 : Sl) (s1 : Sl) (s2 : Int) : M (LS (Sl × Int) ByteArray) :=
 if s2 < (a0.len : Int) then
  idx a0.a a0.len s2 1 >>= fun p10 =>
  ld (cI .u8) p10 >>= fun x11 =>
  ZbH (IntKind.wrap .i64 x11) >>= fun r12 =>
  slot 9 >>= fun b13 =>
  appl cS 9 16 ByteArray.empty s1 [r12] >>= fun r14 =>
  pure (LS.next (r14, IntKind.wrap .i64 (s2 + 1)))
 else
  Zav s1 Zgl >>= fun r15 =>
  pure (LS.done r15)
theorem ZbB.L1_ok (a0 : Sl) : LJ ZbB.cx (ZbB.F1 a0) (fun s_ => ZbB.L1 a0 s_.1 s_.2) := by
 rintro ⟨s1, s2⟩
 show SJ _ _ _ _ (ZbB.L1 a0 s1 s2) _
 unfold ZbB.L1
 refine SJ.sr 1 <| J.z 1 <| SJ.seq <| J.f ?_ ?_
 ·exact SJ.skip <| SJ.seq <| SJ.block (id := 1) <| SJ.sr 3 <| J.i 0 fun p10 => J.l 0 Ty5 fun x11 => J.z 1 <| SJ.rg 7 <| J.C 3 F112 (Zcf _) fun r12 => J.S 0 [r12] Ty9 fun b13 => J.p 0 0 rfl Ty9 fun r14 => J.z 1 <| SJ.inBlock <| SJ.rg 2 <| J.z 2 <| SJ.forget (List.Sublist.cons _ List.Sublist.slnil) <| J.o rfl
 exact SJ.exit (id := 0) (by rfl) <| SJ.sr 3 <| J.C 1 F115 (Zdu _ _) fun r15 => J.z 1 <| J.r
noncomputable def ZbB (a0 : Sl) : M ByteArray :=
 Zb9 (fun s_ : (Sl × Int) => ZbB.L1 a0 s_.1 s_.2) (Sl.nil, 0)
theorem Zhs (a0 : Sl) : Ref Tryz.prog 185 [Sl.v a0] (ZbB a0) ZbB.out := by
 refine J.Fn Tryz.func185 ?_
 unfold ZbB
 exact SJ.sr 1 <| J.z 1 <| SJ.sr 1 <| J.z 1 <| SJ.seq <| SJ.sr 3 <| J.z 3 <| SJ.block (id := 0) <| J.L (ZbB.L1_ok a0)

/-! ### weir/addr.longest: function 186 -/
noncomputable def ZaV.B : Code := bod Tryz.f186
noncomputable def ZaV.cx : Fx := ⟨Tryz.prog, 186, Tryz.f186, none⟩
noncomputable def ZaV.out (r_ : (Int × Int)) : Value := .tuple #[.int .i64 r_.1, .int .i64 r_.2]
noncomputable def ZaV.F1 (a0 : (Vec Int 8)) (b1 : Nat) : LF (Int × Int × Int) (Int × Int) := ⟨[.inBlock 0, .code (c2 (c2 (c2 ZaV.B)))], c1 (c2 (c1 (c2 (c2 ZaV.B)))), fun s_ => [(1, .pointer (some (pt b1 0))), (4, .int .i64 s_.1), (5, .int .i64 s_.2.1), (8, .int .i64 s_.2.2)], fun s_ => [(b1, ((cI .i64).arr 8).enc a0)], (rt ZaV.out)⟩
noncomputable def ZaV.F2 (a0 : (Vec Int 8)) (b1 : Nat) (s2 : Int) (s3 : Int) (s4 : Int) : LF Int (LS (Int × Int × Int) (Int × Int)) := ⟨[.inBlock 2, .code (c2 (c2 (c2 (c1 (c1 (c2 (c2 (c1 (c1 (c2 (c1 (c2 (c2 ZaV.B))))))))))))), .inBlock 1, .code (c2 (c2 (c2 (c1 (c1 (c2 (c1 (c2 (c2 ZaV.B))))))))), .inLoop (c1 (c1 (c2 (c1 (c2 (c2 ZaV.B)))))), .inBlock 0, .code (c2 (c2 (c2 ZaV.B)))], c1 (c1 (c2 (c2 (c1 (c1 (c2 (c2 (c1 (c1 (c2 (c1 (c2 (c2 ZaV.B))))))))))))), fun s_ => [(1, .pointer (some (pt b1 0))), (4, .int .i64 s2), (5, .int .i64 s3), (8, .int .i64 s4), (6, .int .i64 s4), (7, .int .i64 s_)], fun s_ => [(b1, ((cI .i64).arr 8).enc a0)], (ZaV.F1 a0 b1).f⟩
noncomputable def ZaV.L2 (a0 : (Vec Int 8)) (s2 : Int) (s3 : Int) (s4 : Int) (s17 : Int) : M (LS Int (LS (Int × Int × Int) (Int × Int))) :=
 (if (IntKind.wrap .i64 (s4 + s17)) < 8 then
   chk ((0 : Int) ≤ (IntKind.wrap .i64 (s4 + s17)) ∧ (IntKind.wrap .i64 (s4 + s17)) < (8 : Nat)) >>= fun _ =>
   pure ((Vec.g a0 (IntKind.wrap .i64 (s4 + s17)) 0) == 0)
  else
   pure false) >>= fun y24 =>
 if y24 = true then
  pure (LS.next (IntKind.wrap .i64 (s17 + 1)))
 else
  if s17 > s3 then
   pure (LS.done (LS.next (s4, s17, IntKind.wrap .i64 (s4 + 1))))
  else
   pure (LS.done (LS.next (s2, s3, IntKind.wrap .i64 (s4 + 1))))
theorem ZaV.L2_ok (a0 : (Vec Int 8)) (b1 : Nat) (s2 : Int) (s3 : Int) (s4 : Int) : LJ ZaV.cx (ZaV.F2 a0 b1 s2 s3 s4) (fun s_ => ZaV.L2 a0 s2 s3 s4 s_) := by
 rintro s17
 show SJ _ _ _ _ (ZaV.L2 a0 s2 s3 s4 s17) _
 unfold ZaV.L2
 refine SJ.seq <| SJ.sr 12 <| J.j 5 6 .bool ?_ ?_ fun y24 => ?_
 ·exact J.y 3 fun hb22 hb23 => J.k 0 0 rfl Ty3 (At.zero (At.arr (z := 0) hb22 hb23)) <| J.e 2
 ·exact J.e 7
 refine J.z 0 <| J.f ?_ ?_
 ·exact SJ.skip <| SJ.block (id := 3) <| SJ.rg 3 <| J.z 3 <| SJ.inBlock <| J.o rfl
 refine SJ.exit (id := 2) (by rfl) <| SJ.sr 3 <| J.z 3 <| J.f ?_ ?_
 ·exact SJ.rg 4 <| J.z 4 <| SJ.inBlock <| SJ.rg 2 <| J.z 2 <| J.o rfl
 exact SJ.skip <| SJ.inBlock <| SJ.rg 2 <| J.z 2 <| J.o rfl
noncomputable def ZaV.L1 (a0 : (Vec Int 8)) (s2 : Int) (s3 : Int) (s4 : Int) : M (LS (Int × Int × Int) (Int × Int)) :=
 if s4 < 8 then
  Zb9 (fun s_ : Int => ZaV.L2 a0 s2 s3 s4 s_) 0
 else
  pure (LS.done (s2, s3))
theorem ZaV.L1_ok (a0 : (Vec Int 8)) (b1 : Nat) : LJ ZaV.cx (ZaV.F1 a0 b1) (fun s_ => ZaV.L1 a0 s_.1 s_.2.1 s_.2.2) := by
 rintro ⟨s2, s3, s4⟩
 show SJ _ _ _ _ (ZaV.L1 a0 s2 s3 s4) _
 unfold ZaV.L1
 refine SJ.sr 1 <| J.z 1 <| SJ.seq <| J.f ?_ ?_
 ·exact SJ.skip <| SJ.seq <| SJ.block (id := 1) <| SJ.sr 2 <| J.z 2 <| SJ.sr 1 <| J.z 1 <| SJ.seq <| SJ.block (id := 2) <| J.L (ZaV.L2_ok a0 b1 s2 s3 s4)
 exact SJ.exit (id := 0) (by rfl) <| SJ.sr 4 <| J.z 4 <| J.r
noncomputable def ZaV (a0 : (Vec Int 8)) : M (Int × Int) :=
 slot 281 >>= fun b1 =>
 Zb9 (fun s_ : (Int × Int × Int) => ZaV.L1 a0 s_.1 s_.2.1 s_.2.2) ((-1), 1, 0)
theorem Zkl (a0 : (Vec Int 8)) : Ref Tryz.prog 186 [((cI .i64).arr 8).val a0] (ZaV a0) ZaV.out := by
 refine J.Fn Tryz.func186 ?_
 unfold ZaV
 exact SJ.sr 3 <| J.b 0 ((cI .i64).arr 8) a0 fun b1 => J.z 2 <| SJ.sr 2 <| J.z 2 <| SJ.seq <| SJ.sr 1 <| J.z 1 <| SJ.block (id := 0) <| J.L (ZaV.L1_ok a0 b1)

/-! ### strconv.FormatInt: function 219 -/
noncomputable def Zcn.out (r_ : ByteArray) : Value := .string r_
noncomputable def Zcn (a0 : Int) (a1 : Int) : M ByteArray :=
 ZaU a0 a1 >>= fun r1 =>
 pure r1
theorem Zgs (a0 : Int) (a1 : Int) : Ref Tryz.prog 219 [.int .i64 a0, .int .i64 a1] (Zcn a0 a1) Zcn.out := by
 refine J.Fn Tryz.func219 ?_
 unfold Zcn
 exact SJ.sr 1 <| J.z 1 <| SJ.sr 4 <| J.C 2 F183 (ZeX _ _) fun r1 => J.z 1 <| J.r

/-! ### weir/addr.colons: function 187 -/
noncomputable def Zbu.B : Code := bod Tryz.f187
noncomputable def Zbu.cx : Fx := ⟨Tryz.prog, 187, Tryz.f187, none⟩
noncomputable def Zbu.out (r_ : ByteArray) : Value := .string r_
noncomputable def Zbu.F1 (a0 : Sl) : LF (Sl × Int) ByteArray := ⟨[.inBlock 0, .code (c2 (c2 (c2 Zbu.B)))], c1 (c2 (c1 (c2 (c2 Zbu.B)))), fun s_ => [(3, Sl.v s_.1), (6, Sl.v a0), (7, .int .i64 (a0.len : Int)), (8, .int .i64 s_.2)], fun s_ => [], (rt Zbu.out)⟩
noncomputable def Zbu.L1 (a0 : Sl) (s1 : Sl) (s2 : Int) : M (LS (Sl × Int) ByteArray) :=
 if s2 < (a0.len : Int) then
  idx a0.a a0.len s2 1 >>= fun p10 =>
  ld (cI .i64) p10 >>= fun x11 =>
  Zcn x11 16 >>= fun r12 =>
  slot 9 >>= fun b13 =>
  appl cS 9 16 ByteArray.empty s1 [r12] >>= fun r14 =>
  pure (LS.next (r14, IntKind.wrap .i64 (s2 + 1)))
 else
  Zav s1 Znm >>= fun r15 =>
  pure (LS.done r15)
theorem Zbu.L1_ok (a0 : Sl) : LJ Zbu.cx (Zbu.F1 a0) (fun s_ => Zbu.L1 a0 s_.1 s_.2) := by
 rintro ⟨s1, s2⟩
 show SJ _ _ _ _ (Zbu.L1 a0 s1 s2) _
 unfold Zbu.L1
 refine SJ.sr 1 <| J.z 1 <| SJ.seq <| J.f ?_ ?_
 ·exact SJ.skip <| SJ.seq <| SJ.block (id := 1) <| SJ.sr 3 <| J.i 0 fun p10 => J.l 0 Ty3 fun x11 => J.z 1 <| SJ.rg 6 <| J.C 2 F219 (Zgs _ _) fun r12 => J.S 0 [r12] Ty9 fun b13 => J.p 0 0 rfl Ty9 fun r14 => J.z 1 <| SJ.inBlock <| SJ.rg 2 <| J.z 2 <| SJ.forget (List.Sublist.cons _ List.Sublist.slnil) <| J.o rfl
 exact SJ.exit (id := 0) (by rfl) <| SJ.sr 3 <| J.C 1 F115 (Zdu _ _) fun r15 => J.z 1 <| J.r
noncomputable def Zbu (a0 : Sl) : M ByteArray :=
 Zb9 (fun s_ : (Sl × Int) => Zbu.L1 a0 s_.1 s_.2) (Sl.nil, 0)
theorem ZfE (a0 : Sl) : Ref Tryz.prog 187 [Sl.v a0] (Zbu a0) Zbu.out := by
 refine J.Fn Tryz.func187 ?_
 unfold Zbu
 exact SJ.sr 1 <| J.z 1 <| SJ.sr 1 <| J.z 1 <| SJ.seq <| SJ.sr 3 <| J.z 3 <| SJ.block (id := 0) <| J.L (Zbu.L1_ok a0)

/-! ### weir/addr.PrintIP: function 156 -/
noncomputable def Za3.B : Code := bod Tryz.f156
noncomputable def Za3.cx : Fx := ⟨Tryz.prog, 156, Tryz.f156, none⟩
noncomputable def Za3.out (r_ : (ByteArray × Int)) : Value := .tuple #[.string r_.1, .int .i64 r_.2]
noncomputable def Za3.K1 (b46 : Nat) : M (ByteArray × Int) :=
 ld ((cI .i64).arr 8) (pt b46 0) >>= fun x54 =>
 ZaV x54 >>= fun r55 =>
 if r55.1 < 0 then
  cut 1 ⟨some (pt b46 0), 8, 8⟩ none none none >>= fun r58 =>
  Zbu r58 >>= fun r59 =>
  pure (r59, 0)
 else
  draw >>= fun _ =>
  cut 1 ⟨some (pt b46 0), 8, 8⟩ none (some r55.1) none >>= fun r60 =>
  Zbu r60 >>= fun r61 =>
  chk (((r61.size + Ziv.size : Nat) : Int) ≤ 9223372036854775807) >>= fun _ =>
  cut 1 ⟨some (pt b46 0), 8, 8⟩ (some (IntKind.wrap .i64 (r55.1 + r55.2))) none none >>= fun r62 =>
  Zbu r62 >>= fun r63 =>
  chk ((((r61 ++ Ziv).size + r63.size : Nat) : Int) ≤ 9223372036854775807) >>= fun _ =>
  pure (((r61 ++ Ziv) ++ r63), 0)
theorem Za3.K1_ok (b46 : Nat) :
  SJ Za3.cx [.code (c2 (c2 (c2 (c2 Za3.B))))] [(4, .pointer (some (pt b46 0)))] [] (Za3.K1 b46) (rt Za3.out) := by
 unfold Za3.K1
 refine SJ.sr 7 <| J.l 0 Zt8 fun x54 => J.C 0 F186 (Zkl _) fun r55 => J.z 5 <| SJ.seq <| SJ.sr 2 <| J.z 2 <| J.f ?_ ?_
 ·exact SJ.sr 4 <| J.ca 0 fun r58 => J.C 0 F187 (ZfE _) fun r59 => J.z 2 <| J.r
 exact SJ.skip <| SJ.seq <| J.R 12 ZcR <| J.ca 1 fun r60 => J.C 0 F187 (ZfE _) fun r61 => J.T 0 <| J.ca 3 fun r62 => J.C 0 F187 (ZfE _) fun r63 => J.T 0 <| J.z 2 <| J.r
noncomputable def Za3.F1 (b1 : Nat) (b46 : Nat) : LF Int (ByteArray × Int) := ⟨[.inBlock 1, .code (c2 (c2 (c2 (c2 Za3.B))))], c1 (c2 (c1 (c2 (c2 (c2 Za3.B))))), fun s_ => [(1, .pointer (some (pt b1 0))), (4, .pointer (some (pt b46 0))), (30, .int .i64 s_)], fun s_ => [], (rt Za3.out)⟩
noncomputable def Za3.L1 (b1 : Nat) (b46 : Nat) (s47 : Int) : M (LS Int (ByteArray × Int)) :=
 if s47 < 8 then
  draw >>= fun _ =>
  idx (some (Addr.add (pt b1 0) 1)) 16 (IntKind.wrap .i64 (2 * s47)) 1 >>= fun p65 =>
  ld (cI .u8) p65 >>= fun x66 =>
  idx (some (Addr.add (pt b1 0) 1)) 16 (IntKind.wrap .i64 ((IntKind.wrap .i64 (2 * s47)) + 1)) 1 >>= fun p67 =>
  ld (cI .u8) p67 >>= fun x68 =>
  idx (some (pt b46 0)) 8 s47 1 >>= fun p69 =>
  st (cI .i64) p69 (bor .i64 (IntKind.wrap .i64 ((IntKind.wrap .i64 x66) * 2 ^ 8)) (IntKind.wrap .i64 x68)) >>= fun _ =>
  pure (LS.next (IntKind.wrap .i64 (s47 + 1)))
 else
  (Za3.K1 b46) >>= fun b => pure (LS.done b)
theorem Za3.L1_ok (b1 : Nat) (b46 : Nat) : LJ Za3.cx (Za3.F1 b1 b46) (fun s_ => Za3.L1 b1 b46 s_) := by
 rintro s47
 show SJ _ _ _ _ (Za3.L1 b1 b46 s47) _
 unfold Za3.L1
 refine SJ.sr 1 <| J.z 1 <| SJ.seq <| J.f ?_ ?_
 ·exact SJ.skip <| SJ.seq <| SJ.block (id := 2) <| SJ.sr 2 <| J.z 2 <| J.R 18 ZcR <| J.g 4 <| OJ.idxA (d := 37) (T := 64) (y := .tmp 36) (j := .tmp 35) (E := 5) (k := .i64) fun p65 => J.l 0 Ty5 fun x66 => J.g 6 <| OJ.idxA (d := 45) (T := 64) (y := .tmp 44) (j := .tmp 43) (E := 5) (k := .i64) fun p67 => J.l 0 Ty5 fun x68 => J.g 2 <| OJ.idxA (d := 49) (T := 281) (y := .tmp 4) (j := .tmp 33) (E := 3) (k := .i64) fun p69 => J.w 0 Ty3 <| J.z 0 <| SJ.inBlock <| SJ.rg 2 <| J.z 2 <| J.o rfl
 exact SJ.exit (id := 1) (by rfl) <| J.q <| SJ.done <| Za3.K1_ok b46
noncomputable def Za3 (a0 : Zbe) : M (ByteArray × Int) :=
 newv 66 Zbo a0 >>= fun b1 =>
 ld Zbo (pt b1 0) >>= fun x2 =>
 ZeH x2 >>= fun r3 =>
 if ¬ (r3 = true) then
  pure (ByteArray.empty, 40)
 else
  ld (cI .i64) (pt b1 0) >>= fun x26 =>
  if x26 = 4 then
   cut 1 ⟨some (Addr.add (pt b1 0) 1), 16, 16⟩ none (some 4) none >>= fun r37 =>
   ZbB r37 >>= fun r38 =>
   pure (r38, 0)
  else
   cut 1 ⟨some (Addr.add (pt b1 0) 1), 16, 16⟩ none (some 12) none >>= fun r39 =>
   (chk (12 ≤ r39.len) >>= fun _ => nilck r39.a) >>= fun p40 =>
   ld ((cI .u8).arr 12) p40 >>= fun x41 =>
   if x41 = (⟨[0, 0, 0, 0, 0, 0, 0, 0, 0, 0, 255, 255], rfl⟩ : (Vec Int 12)) then
    cut 1 ⟨some (Addr.add (pt b1 0) 1), 16, 16⟩ (some 12) none none >>= fun r44 =>
    ZbB r44 >>= fun r45 =>
    chk (((Znl.size + r45.size : Nat) : Int) ≤ 9223372036854775807) >>= fun _ =>
    pure ((Znl ++ r45), 0)
   else
    newv 281 ((cI .i64).arr 8) (Vec.rep 8 0) >>= fun b46 =>
    Zb9 (fun s_ : Int => Za3.L1 b1 b46 s_) 0
theorem ZgT (a0 : Zbe) : Ref Tryz.prog 156 [Zbo.val a0] (Za3 a0) Za3.out := by
 refine J.Fn Tryz.func156 ?_
 unfold Za3
 refine SJ.sr 3 <| J.B 0 fun b1 => J.z 2 <| SJ.seq <| SJ.block (id := 0) <| SJ.sr 4 <| J.l 0 Ty66 fun x2 => J.C 0 F184 (ZlZ _) fun r3 => J.z 2 <| J.f ?_ ?_
 ·exact SJ.sr 2 <| J.z 2 <| J.r
 refine SJ.sr 4 <| J.l 1 Ty3 fun x26 => J.z 2 <| J.f ?_ ?_
 ·exact SJ.sr 5 <| J.ca 1 fun r37 => J.C 0 F185 (Zhs _) fun r38 => J.z 2 <| J.r
 refine SJ.sr 7 <| J.ca 1 fun r39 => OJ.toArr (d := 22) (t := 280) (E := 5) (y := .tmp 21) (s := r39) fun p40 => J.l 0 Zr0 fun x41 => OJ.build (d := 24) (T := 280) (parts := [(10, .const (.int .u8 255)), (11, .const (.int .u8 255))]) (ps := [(10, (cI .u8).val 255), (11, (cI .u8).val 255)]) (cd := ((cI .u8).arr 12)) (z0 := (Vec.rep 12 0)) (⟨[0, 0, 0, 0, 0, 0, 0, 0, 0, 0, 255, 255], rfl⟩ : (Vec Int 12)) Zr0 rfl (Zb4.cons (cd := (cI .u8)) (q := 255) (o := 10) (by kernel_rfl) (Upd.arr (i := 10) (by decide) (by decide)) (Zb4.cons (cd := (cI .u8)) (q := 255) (o := 11) (by kernel_rfl) (Upd.arr (i := 11) (by decide) (by decide)) Zb4.nil)) <| OJ.eql (d := 25) (T := 280) (yT := 280) (y := .tmp 23) (z := .tmp 24) (cd := ((cI .u8).arr 12)) (p := x41) (q := (⟨[0, 0, 0, 0, 0, 0, 0, 0, 0, 0, 255, 255], rfl⟩ : (Vec Int 12))) rfl Zud <| J.z 1 <| J.f ?_ ?_
 ·exact SJ.sr 6 <| J.ca 1 fun r44 => J.C 0 F185 (Zhs _) fun r45 => J.T 0 <| J.z 2 <| J.r
 exact SJ.skip <| SJ.inBlock <| SJ.sr 1 <| J.A 0 Zt8 fun b46 => J.z 0 <| SJ.seq <| SJ.sr 1 <| J.z 1 <| SJ.block (id := 1) <| J.L (Za3.L1_ok b1 b46)

/-! ### weir/addr.PrintPrefix: function 155 -/
noncomputable def ZcO.out (r_ : (ByteArray × Int)) : Value := .tuple #[.string r_.1, .int .i64 r_.2]
noncomputable def ZcO (a0 : Zap) : M (ByteArray × Int) :=
 slot 117 >>= fun b1 =>
 Zcg a0 >>= fun r2 =>
 if r2 ≠ 0 then
  pure (ByteArray.empty, r2)
 else
  Za3 a0.IP >>= fun r3 =>
  chk (((r3.1.size + Zkt.size : Nat) : Int) ≤ 9223372036854775807) >>= fun _ =>
  ZbH a0.Len >>= fun r4 =>
  chk ((((r3.1 ++ Zkt).size + r4.size : Nat) : Int) ≤ 9223372036854775807) >>= fun _ =>
  pure (((r3.1 ++ Zkt) ++ r4), 0)
theorem ZhI (a0 : Zap) : Ref Tryz.prog 155 [ZaF.val a0] (ZcO a0) ZcO.out := by
 refine J.Fn Tryz.func155 ?_
 unfold ZcO
 refine SJ.sr 3 <| J.b 0 ZaF a0 fun b1 => J.z 2 <| SJ.seq <| SJ.sr 3 <| J.k 0 0 rfl Zcb (At.whole _) <| J.C 0 F152 (Zeh _) fun r2 => J.z 1 <| SJ.sr 2 <| J.z 2 <| J.f ?_ ?_
 ·exact SJ.sr 3 <| J.z 3 <| J.r
 exact SJ.skip <| SJ.sr 8 <| J.k 1 0 rfl Ty66 (Zbq _) <| J.C 0 F156 (ZgT _) fun r3 => J.z 5 <| SJ.sr 8 <| J.T 1 <| J.k 1 0 rfl Ty3 (Zby _) <| J.C 0 F112 (Zcf _) fun r4 => J.T 0 <| J.z 2 <| J.r

/-! ### weir/rules.side: function 114 -/
noncomputable def Zau.B : Code := bod Tryz.f114
noncomputable def Zau.cx : Fx := ⟨Tryz.prog, 114, Tryz.f114, none⟩
noncomputable def Zau.out (r_ : ByteArray) : Value := .string r_
noncomputable def Zau.K1 (s18 : Sl) (j38 : ByteArray) : M ByteArray :=
 if (s18.len : Int) > 0 then
  Zav s18 ZeE >>= fun r40 =>
  chk (((Znj.size + r40.size : Nat) : Int) ≤ 9223372036854775807) >>= fun _ =>
  chk (((j38.size + (Znj ++ r40).size : Nat) : Int) ≤ 9223372036854775807) >>= fun _ =>
  pure (j38 ++ (Znj ++ r40))
 else
  pure j38
theorem Zau.K1_ok (s18 : Sl) (j38 : ByteArray) :
  SJ Zau.cx [.inBlock 4, .code (c2 (c2 (c2 (c2 (c2 (c2 (c2 Zau.B)))))))] [(6, Sl.v s18), (14, .string j38)] [] (Zau.K1 s18 j38) (rt Zau.out) := by
 unfold Zau.K1
 refine SJ.inBlock <| SJ.seq <| SJ.sr 3 <| J.z 3 <| J.f ?_ ?_
 ·exact SJ.rg 6 <| J.C 2 F115 (Zdu _ _) fun r40 => J.T 0 <| J.T 0 <| J.z 1 <| SJ.sr 2 <| J.z 2 <| J.r
 exact SJ.skip <| SJ.sr 2 <| J.z 2 <| J.r
noncomputable def Zau.K2 (s18 : Sl) (j44 : ByteArray) : M ByteArray :=
 Zau.K1 s18 j44
theorem Zau.K2_ok (s18 : Sl) (j44 : ByteArray) :
  SJ Zau.cx [.inBlock 4, .code (c2 (c2 (c2 (c2 (c2 (c2 (c2 Zau.B)))))))] [(6, Sl.v s18), (14, .string j44)] [] (Zau.K2 s18 j44) (rt Zau.out) := by
 unfold Zau.K2
 exact J.q <| Zau.K1_ok s18 j44
noncomputable def Zau.K3 (a0 : ByteArray) (a1 : Zae) (s2 : Sl) (s18 : Sl) : M ByteArray :=
 chk (((str8.size + a0.size : Nat) : Int) ≤ 9223372036854775807) >>= fun _ =>
 chk ((((str8 ++ a0).size + str8.size : Nat) : Int) ≤ 9223372036854775807) >>= fun _ =>
 if (s2.len : Int) = 0 then
  chk (((((str8 ++ a0) ++ str8).size + Zlt.size : Nat) : Int) ≤ 9223372036854775807) >>= fun _ =>
  Zau.K1 s18 (((str8 ++ a0) ++ str8) ++ Zlt)
 else
  if a1.Not = true then
   Zav s2 ZeE >>= fun r45 =>
   chk (((Znk.size + r45.size : Nat) : Int) ≤ 9223372036854775807) >>= fun _ =>
   chk (((((str8 ++ a0) ++ str8).size + (Znk ++ r45).size : Nat) : Int) ≤ 9223372036854775807) >>= fun _ =>
   Zau.K2 s18 (((str8 ++ a0) ++ str8) ++ (Znk ++ r45))
  else
   Zav s2 ZeE >>= fun r46 =>
   chk (((((str8 ++ a0) ++ str8).size + r46.size : Nat) : Int) ≤ 9223372036854775807) >>= fun _ =>
   Zau.K2 s18 (((str8 ++ a0) ++ str8) ++ r46)
theorem Zau.K3_ok (a0 : ByteArray) (a1 : Zae) (b1 : Nat) (s2 : Sl) (s18 : Sl) :
  SJ Zau.cx [.code (c2 (c2 (c2 (c2 (c2 Zau.B)))))] [(0, .string a0), (3, .pointer (some (pt b1 0))), (5, Sl.v s2), (6, Sl.v s18)] [(b1, Zaw.enc a1)] (Zau.K3 a0 a1 s2 s18) (rt Zau.out) := by
 unfold Zau.K3
 refine SJ.sr 4 <| J.T 1 <| J.T 0 <| J.z 1 <| SJ.seq <| SJ.block (id := 4) <| SJ.sr 4 <| J.z 4 <| J.f ?_ ?_
 ·exact SJ.rg 3 <| J.T 1 <| J.z 1 <| SJ.forget (List.Sublist.cons _ List.Sublist.slnil) <| J.q <| Zau.K1_ok s18 (((str8 ++ a0) ++ str8) ++ Zlt)
 refine SJ.sr 3 <| J.k 1 0 rfl Ty4 (Zc5 _) <| J.z 1 <| J.f ?_ ?_
 ·exact SJ.rg 6 <| J.C 2 F115 (Zdu _ _) fun r45 => J.T 0 <| J.T 0 <| J.z 1 <| SJ.forget (List.Sublist.cons _ List.Sublist.slnil) <| J.q <| Zau.K2_ok s18 (((str8 ++ a0) ++ str8) ++ (Znk ++ r45))
 exact SJ.rg 5 <| J.C 2 F115 (Zdu _ _) fun r46 => J.T 0 <| J.z 1 <| SJ.forget (List.Sublist.cons _ List.Sublist.slnil) <| J.q <| Zau.K2_ok s18 (((str8 ++ a0) ++ str8) ++ r46)
noncomputable def Zau.F1 (a0 : ByteArray) (a1 : Zae) (b1 : Nat) (s2 : Sl) : LF (Sl × Int) ByteArray := ⟨[.inBlock 2, .code (c2 (c2 (c2 (c2 (c2 Zau.B)))))], c1 (c2 (c1 (c2 (c2 (c2 (c2 Zau.B)))))), fun s_ => [(0, .string a0), (3, .pointer (some (pt b1 0))), (5, Sl.v s2), (6, Sl.v s_.1), (61, Sl.v a1.Ports), (62, .int .i64 (a1.Ports.len : Int)), (63, .int .i64 s_.2)], fun s_ => [(b1, Zaw.enc a1)], (rt Zau.out)⟩
noncomputable def Zau.L1 (a0 : ByteArray) (a1 : Zae) (s2 : Sl) (s18 : Sl) (s19 : Int) : M (LS (Sl × Int) ByteArray) :=
 if s19 < (a1.Ports.len : Int) then
  idx a1.Ports.a a1.Ports.len s19 2 >>= fun p49 =>
  ld Zbb p49 >>= fun x50 =>
  slot 147 >>= fun b51 =>
  ZbH x50.Lo >>= fun r52 =>
  if x50.Hi ≠ x50.Lo then
   ZbH x50.Hi >>= fun r54 =>
   chk (((ZjF.size + r54.size : Nat) : Int) ≤ 9223372036854775807) >>= fun _ =>
   chk (((r52.size + (ZjF ++ r54).size : Nat) : Int) ≤ 9223372036854775807) >>= fun _ =>
   slot 9 >>= fun b55 =>
   appl cS 9 16 ByteArray.empty s18 [(r52 ++ (ZjF ++ r54))] >>= fun r56 =>
   pure (LS.next (r56, IntKind.wrap .i64 (s19 + 1)))
  else
   slot 9 >>= fun b57 =>
   appl cS 9 16 ByteArray.empty s18 [r52] >>= fun r58 =>
   pure (LS.next (r58, IntKind.wrap .i64 (s19 + 1)))
 else
  (Zau.K3 a0 a1 s2 s18) >>= fun b => pure (LS.done b)
theorem Zau.L1_ok (a0 : ByteArray) (a1 : Zae) (b1 : Nat) (s2 : Sl) : LJ Zau.cx (Zau.F1 a0 a1 b1 s2) (fun s_ => Zau.L1 a0 a1 s2 s_.1 s_.2) := by
 rintro ⟨s18, s19⟩
 show SJ _ _ _ _ (Zau.L1 a0 a1 s2 s18 s19) _
 unfold Zau.L1
 refine SJ.sr 1 <| J.z 1 <| SJ.seq <| J.f ?_ ?_
 ·refine SJ.skip <| SJ.seq <| SJ.block (id := 3) <| SJ.sr 4 <| J.i 0 fun p49 => J.l 0 ZeJ fun x50 => J.a 0 ZeJ fun b51 => J.s 0 0 rfl ZeJ (Upd.w x50) <| J.z 0 <| SJ.sr 4 <| J.k 1 0 rfl Ty3 (Zcc _) <| J.C 0 F112 (Zcf _) fun r52 => J.z 1 <| SJ.seq <| SJ.sr 5 <| J.k 1 0 rfl Ty3 (Zcd _) <| J.k 1 0 rfl Ty3 (Zcc _) <| J.z 1 <| J.f ?_ ?_
  ·exact SJ.rg 7 <| J.k 2 0 rfl Ty3 (Zcd _) <| J.C 0 F112 (Zcf _) fun r54 => J.T 0 <| J.T 0 <| J.z 1 <| SJ.rg 5 <| J.S 2 [(r52 ++ (ZjF ++ r54))] Ty9 fun b55 => J.p 0 0 rfl Ty9 fun r56 => J.z 1 <| SJ.inBlock <| SJ.rg 2 <| J.z 2 <| SJ.forget (List.Sublist.cons _ (List.Sublist.cons _ (List.Sublist.cons_cons _ List.Sublist.slnil))) <| J.o rfl
  exact SJ.skip <| SJ.rg 5 <| J.S 2 [r52] Ty9 fun b57 => J.p 0 0 rfl Ty9 fun r58 => J.z 1 <| SJ.inBlock <| SJ.rg 2 <| J.z 2 <| SJ.forget (List.Sublist.cons _ (List.Sublist.cons _ (List.Sublist.cons_cons _ List.Sublist.slnil))) <| J.o rfl
 exact SJ.exit (id := 2) (by rfl) <| J.q <| SJ.done <| Zau.K3_ok a0 a1 b1 s2 s18
noncomputable def Zau.K4 (a0 : ByteArray) (a1 : Zae) (s2 : Sl) : M ByteArray :=
 Zb9 (fun s_ : (Sl × Int) => Zau.L1 a0 a1 s2 s_.1 s_.2) (Sl.nil, 0)
theorem Zau.K4_ok (a0 : ByteArray) (a1 : Zae) (b1 : Nat) (s2 : Sl) :
  SJ Zau.cx [.code (c2 (c2 (c2 (c2 Zau.B))))] [(0, .string a0), (3, .pointer (some (pt b1 0))), (5, Sl.v s2), (6, Sl.v Sl.nil)] [(b1, Zaw.enc a1)] (Zau.K4 a0 a1 s2) (rt Zau.out) := by
 unfold Zau.K4
 exact SJ.seq <| SJ.sr 4 <| J.k 1 0 rfl Ty24 (ZaH _) <| J.z 2 <| SJ.block (id := 2) <| J.L (Zau.L1_ok a0 a1 b1 s2)
noncomputable def Zau.F2 (a0 : ByteArray) (a1 : Zae) (b1 : Nat) : LF (Sl × Int) ByteArray := ⟨[.inBlock 0, .code (c2 (c2 (c2 (c2 Zau.B))))], c1 (c2 (c1 (c2 (c2 (c2 Zau.B))))), fun s_ => [(0, .string a0), (3, .pointer (some (pt b1 0))), (5, Sl.v s_.1), (6, Sl.v Sl.nil), (24, Sl.v a1.Nets), (25, .int .i64 (a1.Nets.len : Int)), (26, .int .i64 s_.2)], fun s_ => [(b1, Zaw.enc a1)], (rt Zau.out)⟩
noncomputable def Zau.L2 (a0 : ByteArray) (a1 : Zae) (s2 : Sl) (s3 : Int) : M (LS (Sl × Int) ByteArray) :=
 if s3 < (a1.Nets.len : Int) then
  idx a1.Nets.a a1.Nets.len s3 18 >>= fun p61 =>
  ld ZaF p61 >>= fun x62 =>
  slot 117 >>= fun b63 =>
  ZcO x62 >>= fun r64 =>
  (if x62.Len = 32 then
    pure (x62.IP.V == 4)
   else
    pure false) >>= fun y65 =>
  (if y65 = true then
    pure true
   else
    pure (x62.Len == 128)) >>= fun y66 =>
  if y66 = true then
   Za3 x62.IP >>= fun r68 =>
   slot 9 >>= fun b69 =>
   appl cS 9 16 ByteArray.empty s2 [r68.1] >>= fun r70 =>
   pure (LS.next (r70, IntKind.wrap .i64 (s3 + 1)))
  else
   slot 9 >>= fun b71 =>
   appl cS 9 16 ByteArray.empty s2 [r64.1] >>= fun r72 =>
   pure (LS.next (r72, IntKind.wrap .i64 (s3 + 1)))
 else
  (Zau.K4 a0 a1 s2) >>= fun b => pure (LS.done b)
theorem Zau.L2_ok (a0 : ByteArray) (a1 : Zae) (b1 : Nat) : LJ Zau.cx (Zau.F2 a0 a1 b1) (fun s_ => Zau.L2 a0 a1 s_.1 s_.2) := by
 rintro ⟨s2, s3⟩
 show SJ _ _ _ _ (Zau.L2 a0 a1 s2 s3) _
 unfold Zau.L2
 refine SJ.sr 1 <| J.z 1 <| SJ.seq <| J.f ?_ ?_
 ·refine SJ.skip <| SJ.seq <| SJ.block (id := 1) <| SJ.sr 4 <| J.i 0 fun p61 => J.l 0 Zcb fun x62 => J.a 0 Zcb fun b63 => J.s 0 0 rfl Zcb (Upd.w x62) <| J.z 0 <| SJ.sr 7 <| J.k 0 0 rfl Zcb (At.whole _) <| J.C 0 F155 (ZhI _) fun r64 => J.z 5 <| SJ.seq <| SJ.sr 14 <| J.k 1 0 rfl Ty3 (Zby _) <| J.j 2 4 .bool ?_ ?_ fun y65 => ?_
  ·exact J.k 2 0 rfl Ty3 (At.trans (Zbq _) (Zcp _)) <| J.e 2
  ·exact J.e 5
  refine J.j 1 3 .bool ?_ ?_ fun y66 => ?_
  ·exact J.e 4
  ·exact J.k 1 0 rfl Ty3 (Zby _) <| J.e 2
  refine J.z 0 <| J.f ?_ ?_
  ·exact SJ.rg 7 <| J.k 1 0 rfl Ty66 (Zbq _) <| J.C 0 F156 (ZgT _) fun r68 => J.z 4 <| SJ.rg 5 <| J.S 2 [r68.1] Ty9 fun b69 => J.p 0 0 rfl Ty9 fun r70 => J.z 1 <| SJ.inBlock <| SJ.rg 2 <| J.z 2 <| SJ.forget (List.Sublist.cons _ (List.Sublist.cons _ (List.Sublist.cons_cons _ List.Sublist.slnil))) <| J.o rfl
  exact SJ.skip <| SJ.rg 5 <| J.S 2 [r64.1] Ty9 fun b71 => J.p 0 0 rfl Ty9 fun r72 => J.z 1 <| SJ.inBlock <| SJ.rg 2 <| J.z 2 <| SJ.forget (List.Sublist.cons _ (List.Sublist.cons _ (List.Sublist.cons_cons _ List.Sublist.slnil))) <| J.o rfl
 exact SJ.exit (id := 0) (by rfl) <| J.q <| SJ.done <| Zau.K4_ok a0 a1 b1 s2
noncomputable def Zau (a0 : ByteArray) (a1 : Zae) : M ByteArray :=
 slot 26 >>= fun b1 =>
 if (IntKind.wrap .i64 ((a1.Nets.len : Int) + (a1.Ports.len : Int))) = 0 then
  pure ByteArray.empty
 else
  Zb9 (fun s_ : (Sl × Int) => Zau.L2 a0 a1 s_.1 s_.2) (Sl.nil, 0)
theorem ZhW (a0 : ByteArray) (a1 : Zae) : Ref Tryz.prog 114 [.string a0, Zaw.val a1] (Zau a0 a1) Zau.out := by
 refine J.Fn Tryz.func114 ?_
 unfold Zau
 refine SJ.sr 2 <| J.b 0 Zaw a1 fun b1 => J.z 1 <| SJ.seq <| SJ.sr 8 <| J.k 1 0 rfl Ty23 (ZaY _) <| J.k 2 0 rfl Ty24 (ZaH _) <| J.z 3 <| J.f ?_ ?_
 ·exact SJ.sr 1 <| J.z 1 <| J.r
 exact SJ.skip <| SJ.sr 2 <| J.z 2 <| SJ.seq <| SJ.sr 4 <| J.k 1 0 rfl Ty23 (ZaY _) <| J.z 2 <| SJ.block (id := 0) <| J.L (Zau.L2_ok a0 a1 b1)

/-! ### weir/rules.write: function 63 -/
noncomputable def Zai.B : Code := bod Tryz.f63
noncomputable def Zai.cx : Fx := ⟨Tryz.prog, 63, Tryz.f63, none⟩
noncomputable def Zai.out (r_ : ByteArray) : Value := .string r_
noncomputable def Zai.K1 (a0 : Zag) (j34 : ByteArray) : M ByteArray :=
 if a0.Type_ > 0 then
  ZbH (IntKind.wrap .i64 (a0.Type_ - 1)) >>= fun r36 =>
  chk (((ZjE.size + r36.size : Nat) : Int) ≤ 9223372036854775807) >>= fun _ =>
  chk (((j34.size + (ZjE ++ r36).size : Nat) : Int) ≤ 9223372036854775807) >>= fun _ =>
  if a0.Pieces = true then
   chk ((((j34 ++ (ZjE ++ r36)).size + Zlo.size : Nat) : Int) ≤ 9223372036854775807) >>= fun _ =>
   pure ((j34 ++ (ZjE ++ r36)) ++ Zlo)
  else
   pure (j34 ++ (ZjE ++ r36))
 else
  if a0.Pieces = true then
   chk (((j34.size + Zlo.size : Nat) : Int) ≤ 9223372036854775807) >>= fun _ =>
   pure (j34 ++ Zlo)
  else
   pure j34
theorem Zai.K1_ok (a0 : Zag) (b1 : Nat) (j34 : ByteArray) :
  SJ Zai.cx [.code (c2 (c2 (c2 (c2 (c2 (c2 (c2 (c2 (c2 (c2 Zai.B))))))))))] [(1, .pointer (some (pt b1 0))), (3, .string j34)] [(b1, Zak.enc a0)] (Zai.K1 a0 j34) (rt Zai.out) := by
 unfold Zai.K1
 refine SJ.seq <| SJ.sr 3 <| J.k 1 0 rfl Ty3 (ZbT _) <| J.z 1 <| J.f ?_ ?_
 ·refine SJ.rg 8 <| J.k 2 0 rfl Ty3 (ZbT _) <| J.C 1 F112 (Zcf _) fun r36 => J.T 0 <| J.T 0 <| J.z 1 <| SJ.seq <| SJ.sr 2 <| J.k 1 0 rfl Ty4 (ZcL _) <| J.z 0 <| J.f ?_ ?_
  ·exact SJ.rg 3 <| J.T 1 <| J.z 1 <| SJ.sr 2 <| J.z 2 <| J.r
  exact SJ.skip <| SJ.sr 2 <| J.z 2 <| J.r
 refine SJ.skip <| SJ.seq <| SJ.sr 2 <| J.k 1 0 rfl Ty4 (ZcL _) <| J.z 0 <| J.f ?_ ?_
 ·exact SJ.rg 3 <| J.T 1 <| J.z 1 <| SJ.sr 2 <| J.z 2 <| J.r
 exact SJ.skip <| SJ.sr 2 <| J.z 2 <| J.r
noncomputable def Zai.K2 (a0 : Zag) (j11 : ByteArray) (r12 : ByteArray) (r13 : ByteArray) (s15 : Sl) : M ByteArray :=
 if (s15.len : Int) > 0 then
  Zav s15 ZeE >>= fun r40 =>
  chk (((Zni.size + r40.size : Nat) : Int) ≤ 9223372036854775807) >>= fun _ =>
  chk ((((j11 ++ (r12 ++ r13)).size + (Zni ++ r40).size : Nat) : Int) ≤ 9223372036854775807) >>= fun _ =>
  Zai.K1 a0 ((j11 ++ (r12 ++ r13)) ++ (Zni ++ r40))
 else
  Zai.K1 a0 (j11 ++ (r12 ++ r13))
theorem Zai.K2_ok (a0 : Zag) (b1 : Nat) (j11 : ByteArray) (r12 : ByteArray) (r13 : ByteArray) (s15 : Sl) :
  SJ Zai.cx [.code (c2 (c2 (c2 (c2 (c2 (c2 (c2 (c2 (c2 Zai.B)))))))))] [(1, .pointer (some (pt b1 0))), (3, .string (j11 ++ (r12 ++ r13))), (4, Sl.v s15)] [(b1, Zak.enc a0)] (Zai.K2 a0 j11 r12 r13 s15) (rt Zai.out) := by
 unfold Zai.K2
 refine SJ.seq <| SJ.sr 3 <| J.z 3 <| J.f ?_ ?_
 ·exact SJ.rg 6 <| J.C 2 F115 (Zdu _ _) fun r40 => J.T 0 <| J.T 0 <| J.z 1 <| J.q <| Zai.K1_ok a0 b1 ((j11 ++ (r12 ++ r13)) ++ (Zni ++ r40))
 exact SJ.skip <| J.q <| Zai.K1_ok a0 b1 (j11 ++ (r12 ++ r13))
noncomputable def Zai.F1 (a0 : Zag) (b1 : Nat) (j11 : ByteArray) (r12 : ByteArray) (r13 : ByteArray) (x14 : Sl) : LF (Sl × Int) ByteArray := ⟨[.inBlock 0, .code (c2 (c2 (c2 (c2 (c2 (c2 (c2 (c2 (c2 Zai.B)))))))))], c1 (c2 (c1 (c2 (c2 (c2 (c2 (c2 (c2 (c2 (c2 Zai.B)))))))))), fun s_ => [(1, .pointer (some (pt b1 0))), (3, .string (j11 ++ (r12 ++ r13))), (4, Sl.v s_.1), (54, Sl.v x14), (55, .int .i64 (x14.len : Int)), (56, .int .i64 s_.2)], fun s_ => [(b1, Zak.enc a0)], (rt Zai.out)⟩
noncomputable def Zai.K3 (a0 : Zag) (s16 : Int) (x43 : ByteArray) (j46 : Sl) : M (LS (Sl × Int) ByteArray) :=
 chk (0 ≤ (IntKind.wrap .u64 s16)) >>= fun _ =>
 if (band .i64 (Int.fdiv a0.Clear (2 ^ min (Int.toNat (IntKind.wrap .u64 s16)) 64)) 1) = 1 then
  chk (((Zlp.size + x43.size : Nat) : Int) ≤ 9223372036854775807) >>= fun _ =>
  slot 9 >>= fun b49 =>
  appl cS 9 16 ByteArray.empty j46 [(Zlp ++ x43)] >>= fun r50 =>
  pure (LS.next (r50, IntKind.wrap .i64 (s16 + 1)))
 else
  pure (LS.next (j46, IntKind.wrap .i64 (s16 + 1)))
theorem Zai.K3_ok (a0 : Zag) (b1 : Nat) (j11 : ByteArray) (r12 : ByteArray) (r13 : ByteArray) (x14 : Sl) (s16 : Int) (x43 : ByteArray) (j46 : Sl) :
  SJ Zai.cx [.code (c2 (c2 (c1 (c1 (c2 (c2 (c1 (c1 (c2 (c1 (c2 (c2 (c2 (c2 (c2 (c2 (c2 (c2 Zai.B)))))))))))))))))), .inBlock 1, .code (c2 (c2 (c2 (c1 (c1 (c2 (c1 (c2 (c2 (c2 (c2 (c2 (c2 (c2 (c2 Zai.B))))))))))))))), .inLoop (c1 (c1 (c2 (c1 (c2 (c2 (c2 (c2 (c2 (c2 (c2 (c2 Zai.B)))))))))))), .inBlock 0, .code (c2 (c2 (c2 (c2 (c2 (c2 (c2 (c2 (c2 Zai.B)))))))))] [(1, .pointer (some (pt b1 0))), (3, .string (j11 ++ (r12 ++ r13))), (4, Sl.v j46), (54, Sl.v x14), (55, .int .i64 (x14.len : Int)), (56, .int .i64 s16), (5, .int .i64 s16), (6, .string x43)] [(b1, Zak.enc a0)] (Zai.K3 a0 s16 x43 j46) (Zai.F1 a0 b1 j11 r12 r13 x14).f := by
 unfold Zai.K3
 refine SJ.sr 7 <| J.k 1 0 rfl Ty3 (ZbG _) <| J.g 2 <| OJ.shr (d := 76) (T := 3) (yT := 194) (y := .tmp 73) (z := .tmp 75) (k := .i64) (yk := .u64) (p := a0.Clear) (q := (IntKind.wrap .u64 s16)) fun hq52 => J.z 2 <| J.f ?_ ?_
 ·exact SJ.rg 6 <| J.T 2 <| J.S 0 [(Zlp ++ x43)] Ty9 fun b49 => J.p 0 0 rfl Ty9 fun r50 => J.z 1 <| SJ.inBlock <| SJ.rg 2 <| J.z 2 <| SJ.forget (List.Sublist.cons _ (List.Sublist.cons_cons _ List.Sublist.slnil)) <| J.o rfl
 exact SJ.skip <| SJ.inBlock <| SJ.rg 2 <| J.z 2 <| J.o rfl
noncomputable def Zai.L1 (a0 : Zag) (j11 : ByteArray) (r12 : ByteArray) (r13 : ByteArray) (x14 : Sl) (s15 : Sl) (s16 : Int) : M (LS (Sl × Int) ByteArray) :=
 if s16 < (x14.len : Int) then
  idx x14.a x14.len s16 1 >>= fun p42 =>
  ld cS p42 >>= fun x43 =>
  chk (0 ≤ (IntKind.wrap .u64 s16)) >>= fun _ =>
  if (band .i64 (Int.fdiv a0.Set (2 ^ min (Int.toNat (IntKind.wrap .u64 s16)) 64)) 1) = 1 then
   slot 9 >>= fun b53 =>
   appl cS 9 16 ByteArray.empty s15 [x43] >>= fun r54 =>
   Zai.K3 a0 s16 x43 r54
  else
   Zai.K3 a0 s16 x43 s15
 else
  (Zai.K2 a0 j11 r12 r13 s15) >>= fun b => pure (LS.done b)
theorem Zai.L1_ok (a0 : Zag) (b1 : Nat) (j11 : ByteArray) (r12 : ByteArray) (r13 : ByteArray) (x14 : Sl) : LJ Zai.cx (Zai.F1 a0 b1 j11 r12 r13 x14) (fun s_ => Zai.L1 a0 j11 r12 r13 x14 s_.1 s_.2) := by
 rintro ⟨s15, s16⟩
 show SJ _ _ _ _ (Zai.L1 a0 j11 r12 r13 x14 s15 s16) _
 unfold Zai.L1
 refine SJ.sr 1 <| J.z 1 <| SJ.seq <| J.f ?_ ?_
 ·refine SJ.skip <| SJ.seq <| SJ.block (id := 1) <| SJ.sr 5 <| J.i 1 fun p42 => J.l 0 Ty9 fun x43 => J.z 2 <| SJ.seq <| SJ.sr 7 <| J.k 1 0 rfl Ty3 (ZbR _) <| J.g 2 <| OJ.shr (d := 65) (T := 3) (yT := 194) (y := .tmp 62) (z := .tmp 64) (k := .i64) (yk := .u64) (p := a0.Set) (q := (IntKind.wrap .u64 s16)) fun hq56 => J.z 2 <| J.f ?_ ?_
  ·exact SJ.rg 5 <| J.S 2 [x43] Ty9 fun b53 => J.p 0 0 rfl Ty9 fun r54 => J.z 1 <| SJ.forget (List.Sublist.cons _ (List.Sublist.cons_cons _ List.Sublist.slnil)) <| J.q <| Zai.K3_ok a0 b1 j11 r12 r13 x14 s16 x43 r54
  exact SJ.skip <| J.q <| Zai.K3_ok a0 b1 j11 r12 r13 x14 s16 x43 s15
 exact SJ.exit (id := 0) (by rfl) <| J.q <| SJ.done <| Zai.K2_ok a0 b1 j11 r12 r13 s15
noncomputable def Zai.K4 (a0 : Zag) (j11 : ByteArray) : M ByteArray :=
 draw >>= fun _ =>
 Zau Zks a0.From >>= fun r12 =>
 Zau Zmd a0.To >>= fun r13 =>
 chk (((r12.size + r13.size : Nat) : Int) ≤ 9223372036854775807) >>= fun _ =>
 chk (((j11.size + (r12 ++ r13).size : Nat) : Int) ≤ 9223372036854775807) >>= fun _ =>
 ld cL ⟨2, 0, none⟩ >>= fun x14 =>
 Zb9 (fun s_ : (Sl × Int) => Zai.L1 a0 j11 r12 r13 x14 s_.1 s_.2) (Sl.nil, 0)
theorem Zai.K4_ok (a0 : Zag) (b1 : Nat) (j11 : ByteArray) :
  SJ Zai.cx [.code (c2 (c2 (c2 (c2 (c2 (c2 Zai.B))))))] [(1, .pointer (some (pt b1 0))), (3, .string j11)] [(b1, Zak.enc a0)] (Zai.K4 a0 j11) (rt Zai.out) := by
 unfold Zai.K4
 exact SJ.seq <| J.D [0, 1, 2, 4, 5, 3, 6, 7, 8, 9] ZcR <| J.k 2 0 rfl Ty26 (Zcu _) <| J.k 1 0 rfl Ty26 (Zcl _) <| OJ.call (d := 48) (g := 114) (ats := #[9, 26]) (args := [.const (.string Zks), .tmp 47]) (owed := [⟨5, 26, (pt b1 9), Zaw.val a0.To⟩]) F114 (ZhW Zks a0.From) fun r12 => OW.known (j := 0) (q := a0.To) Ty26 rfl (Zcl a0) <| OW.nil <| J.C 0 F114 (ZhW _ _) fun r13 => J.T 0 <| J.T 0 <| J.z 1 <| SJ.sr 1 <| J.z 1 <| SJ.seq <| SJ.sr 3 <| J.l 0 Ty22 fun x14 => J.z 2 <| SJ.block (id := 0) <| J.L (Zai.L1_ok a0 b1 j11 r12 r13 x14)
noncomputable def Zai.K5 (a0 : Zag) (j9 : ByteArray) : M ByteArray :=
 if a0.Vid > 0 then
  ZbH a0.Vid >>= fun r58 =>
  chk (((Zlq.size + r58.size : Nat) : Int) ≤ 9223372036854775807) >>= fun _ =>
  chk (((j9.size + (Zlq ++ r58).size : Nat) : Int) ≤ 9223372036854775807) >>= fun _ =>
  Zai.K4 a0 (j9 ++ (Zlq ++ r58))
 else
  Zai.K4 a0 j9
theorem Zai.K5_ok (a0 : Zag) (b1 : Nat) (j9 : ByteArray) :
  SJ Zai.cx [.code (c2 (c2 (c2 (c2 (c2 Zai.B)))))] [(1, .pointer (some (pt b1 0))), (3, .string j9)] [(b1, Zak.enc a0)] (Zai.K5 a0 j9) (rt Zai.out) := by
 unfold Zai.K5
 refine SJ.seq <| SJ.sr 3 <| J.k 1 0 rfl Ty3 (ZcJ _) <| J.z 1 <| J.f ?_ ?_
 ·exact SJ.rg 7 <| J.k 2 0 rfl Ty3 (ZcJ _) <| J.C 0 F112 (Zcf _) fun r58 => J.T 0 <| J.T 0 <| J.z 1 <| J.q <| Zai.K4_ok a0 b1 (j9 ++ (Zlq ++ r58))
 exact SJ.skip <| J.q <| Zai.K4_ok a0 b1 j9
noncomputable def Zai.K6 (a0 : Zag) (j6 : ByteArray) : M ByteArray :=
 ZbQ a0 >>= fun r7 =>
 chk (((j6.size + r7.size : Nat) : Int) ≤ 9223372036854775807) >>= fun _ =>
 if a0.In > 0 then
  ZbH (IntKind.wrap .i64 (a0.In - 1)) >>= fun r60 =>
  chk (((Zlr.size + r60.size : Nat) : Int) ≤ 9223372036854775807) >>= fun _ =>
  chk ((((j6 ++ r7).size + (Zlr ++ r60).size : Nat) : Int) ≤ 9223372036854775807) >>= fun _ =>
  Zai.K5 a0 ((j6 ++ r7) ++ (Zlr ++ r60))
 else
  Zai.K5 a0 (j6 ++ r7)
theorem Zai.K6_ok (a0 : Zag) (b1 : Nat) (j6 : ByteArray) :
  SJ Zai.cx [.code (c2 (c2 (c2 Zai.B)))] [(1, .pointer (some (pt b1 0))), (3, .string j6)] [(b1, Zak.enc a0)] (Zai.K6 a0 j6) (rt Zai.out) := by
 unfold Zai.K6
 refine SJ.sr 5 <| J.k 1 0 rfl Ty28 (At.whole _) <| J.C 0 F113 (Zly _) fun r7 => J.T 0 <| J.z 1 <| SJ.seq <| SJ.sr 3 <| J.k 1 0 rfl Ty3 (ZcY _) <| J.z 1 <| J.f ?_ ?_
 ·exact SJ.rg 8 <| J.k 2 0 rfl Ty3 (ZcY _) <| J.C 1 F112 (Zcf _) fun r60 => J.T 0 <| J.T 0 <| J.z 1 <| J.q <| Zai.K5_ok a0 b1 ((j6 ++ r7) ++ (Zlr ++ r60))
 exact SJ.skip <| J.q <| Zai.K5_ok a0 b1 (j6 ++ r7)
noncomputable def Zai (a0 : Zag) : M ByteArray :=
 slot 28 >>= fun b1 =>
 ld cL ⟨0, 0, none⟩ >>= fun x2 =>
 idx x2.a x2.len (IntKind.wrap .i64 (a0.Act - 1)) 1 >>= fun p3 =>
 ld cS p3 >>= fun x4 =>
 if a0.Class > 0 then
  ZbH a0.Class >>= fun r62 =>
  chk (((Zls.size + r62.size : Nat) : Int) ≤ 9223372036854775807) >>= fun _ =>
  chk (((x4.size + (Zls ++ r62).size : Nat) : Int) ≤ 9223372036854775807) >>= fun _ =>
  Zai.K6 a0 (x4 ++ (Zls ++ r62))
 else
  Zai.K6 a0 x4
theorem Zku (a0 : Zag) : Ref Tryz.prog 63 [Zak.val a0] (Zai a0) Zai.out := by
 refine J.Fn Tryz.func63 ?_
 unfold Zai
 refine SJ.sr 2 <| J.b 0 Zak a0 fun b1 => J.z 1 <| SJ.sr 7 <| J.l 0 Ty22 fun x2 => J.k 1 0 rfl Ty3 (ZbS _) <| J.i 1 fun p3 => J.l 0 Ty9 fun x4 => J.z 1 <| SJ.seq <| SJ.sr 3 <| J.k 1 0 rfl Ty3 (ZbU _) <| J.z 1 <| J.f ?_ ?_
 ·exact SJ.rg 7 <| J.k 2 0 rfl Ty3 (ZbU _) <| J.C 0 F112 (Zcf _) fun r62 => J.T 0 <| J.T 0 <| J.z 1 <| J.q <| Zai.K6_ok a0 b1 (x4 ++ (Zls ++ r62))
 exact SJ.skip <| J.q <| Zai.K6_ok a0 b1 x4

/-! ### weir/rules.PrintRule: function 22 -/
noncomputable def Zco.out (r_ : (ByteArray × Int)) : Value := .tuple #[.string r_.1, .int .i64 r_.2]
noncomputable def Zco (a0 : Zag) : M (ByteArray × Int) :=
 slot 28 >>= fun b1 =>
 Za2 a0 >>= fun r2 =>
 if r2 ≠ 0 then
  pure (ByteArray.empty, r2)
 else
  Zai a0 >>= fun r3 =>
  pure (r3, 0)
theorem Zfo (a0 : Zag) : Ref Tryz.prog 22 [Zak.val a0] (Zco a0) Zco.out := by
 refine J.Fn Tryz.func22 ?_
 unfold Zco
 refine SJ.sr 3 <| J.b 0 Zak a0 fun b1 => J.z 2 <| SJ.seq <| SJ.sr 3 <| J.k 0 0 rfl Ty28 (At.whole _) <| J.C 0 F21 (ZfA _) fun r2 => J.z 1 <| SJ.sr 2 <| J.z 2 <| J.f ?_ ?_
 ·exact SJ.sr 3 <| J.z 3 <| J.r
 exact SJ.skip <| SJ.sr 4 <| J.k 0 0 rfl Ty28 (At.whole _) <| J.C 0 F63 (Zku _) fun r3 => J.z 2 <| J.r

/-! ### weir/weirref16.out: function 68 -/
noncomputable def ZbM.out (r_ : Bool) : Value := .bool r_
noncomputable def ZbM (a0 : Int) (a1 : Int) (a2 : Int) : M Bool :=
 (if a0 < a1 then
   pure true
  else
   pure (decide (a0 > a2))) >>= fun y1 =>
 pure y1
theorem Zce (a0 : Int) (a1 : Int) (a2 : Int) : Ref Tryz.prog 68 [.int .i64 a0, .int .i64 a1, .int .i64 a2] (ZbM a0 a1 a2) ZbM.out := by
 refine J.Fn Tryz.func68 ?_
 unfold ZbM
 refine SJ.sr 1 <| J.z 1 <| SJ.sr 9 <| J.j 4 3 .bool ?_ ?_ fun y1 => ?_
 ·exact J.e 4
 ·exact J.e 4
 exact J.z 1 <| J.r

/-! ### weir/weirref16.bit: function 118 -/
noncomputable def Zba.B : Code := bod Tryz.f118
noncomputable def Zba.cx : Fx := ⟨Tryz.prog, 118, Tryz.f118, none⟩
noncomputable def Zba.out (r_ : Bool) : Value := .bool r_
noncomputable def Zba.F1 (a1 : Int) : LF (Int × Int) Bool := ⟨[.inBlock 0, .code (c2 (c2 Zba.B))], c1 (c2 (c1 (c2 Zba.B))), fun s_ => [(0, .int .i64 s_.1), (1, .int .i64 a1), (5, .int .i64 s_.2)], fun s_ => [], (rt Zba.out)⟩
noncomputable def Zba.L1 (a1 : Int) (s1 : Int) (s2 : Int) : M (LS (Int × Int) Bool) :=
 if s2 < a1 then
  pure (LS.next (IntKind.wrap .i64 (Int.tdiv s1 2), IntKind.wrap .i64 (s2 + 1)))
 else
  pure (LS.done ((Int.tmod s1 2) == 1))
theorem Zba.L1_ok (a1 : Int) : LJ Zba.cx (Zba.F1 a1) (fun s_ => Zba.L1 a1 s_.1 s_.2) := by
 rintro ⟨s1, s2⟩
 show SJ _ _ _ _ (Zba.L1 a1 s1 s2) _
 unfold Zba.L1
 refine SJ.seq <| SJ.sr 3 <| J.z 3 <| J.f ?_ ?_
 ·exact SJ.skip <| SJ.seq <| SJ.block (id := 1) <| SJ.rg 3 <| J.z 3 <| SJ.inBlock <| SJ.rg 3 <| J.z 3 <| J.o rfl
 exact SJ.exit (id := 0) (by rfl) <| SJ.sr 4 <| J.z 4 <| J.r
noncomputable def Zba (a0 : Int) (a1 : Int) : M Bool :=
 Zb9 (fun s_ : (Int × Int) => Zba.L1 a1 s_.1 s_.2) (a0, 0)
theorem Zed (a0 : Int) (a1 : Int) : Ref Tryz.prog 118 [.int .i64 a0, .int .i64 a1] (Zba a0 a1) Zba.out := by
 refine J.Fn Tryz.func118 ?_
 unfold Zba
 exact SJ.sr 1 <| J.z 1 <| SJ.seq <| SJ.sr 1 <| J.z 1 <| SJ.block (id := 0) <| J.L (Zba.L1_ok a1)

/-! ### weir/weirref16.share: function 69 -/
noncomputable def Za5.B : Code := bod Tryz.f69
noncomputable def Za5.cx : Fx := ⟨Tryz.prog, 69, Tryz.f69, none⟩
noncomputable def Za5.out (r_ : Bool) : Value := .bool r_
noncomputable def Za5.F1 (a0 : Int) (a1 : Int) : LF Int Bool := ⟨[.inBlock 0, .code (c2 (c2 Za5.B))], c1 (c2 (c1 (c2 Za5.B))), fun s_ => [(0, .int .i64 a0), (1, .int .i64 a1), (5, .int .i64 s_)], fun s_ => [], (rt Za5.out)⟩
noncomputable def Za5.L1 (a0 : Int) (a1 : Int) (s1 : Int) : M (LS Int Bool) :=
 if s1 < 8 then
  Zba a0 s1 >>= fun r7 =>
  (if r7 = true then
    Zba a1 s1 >>= fun r8 =>
    pure r8
   else
    pure false) >>= fun y9 =>
  if y9 = true then
   pure (LS.done true)
  else
   pure (LS.next (IntKind.wrap .i64 (s1 + 1)))
 else
  pure (LS.done false)
theorem Za5.L1_ok (a0 : Int) (a1 : Int) : LJ Za5.cx (Za5.F1 a0 a1) (fun s_ => Za5.L1 a0 a1 s_) := by
 rintro s1
 show SJ _ _ _ _ (Za5.L1 a0 a1 s1) _
 unfold Za5.L1
 refine SJ.seq <| SJ.sr 2 <| J.z 2 <| J.f ?_ ?_
 ·refine SJ.skip <| SJ.seq <| SJ.block (id := 1) <| SJ.sr 8 <| J.C 2 F118 (Zed _ _) fun r7 => J.j 1 3 .bool ?_ ?_ fun y9 => ?_
  ·exact J.C 2 F118 (Zed _ _) fun r8 => J.e 1
  ·exact J.e 4
  refine J.z 0 <| J.f ?_ ?_
  ·exact SJ.sr 1 <| J.z 1 <| J.r
  exact SJ.skip <| SJ.inBlock <| SJ.rg 3 <| J.z 3 <| J.o rfl
 exact SJ.exit (id := 0) (by rfl) <| SJ.sr 1 <| J.z 1 <| J.r
noncomputable def Za5 (a0 : Int) (a1 : Int) : M Bool :=
 Zb9 (fun s_ : Int => Za5.L1 a0 a1 s_) 0
theorem ZhQ (a0 : Int) (a1 : Int) : Ref Tryz.prog 69 [.int .i64 a0, .int .i64 a1] (Za5 a0 a1) Za5.out := by
 refine J.Fn Tryz.func69 ?_
 unfold Za5
 exact SJ.sr 1 <| J.z 1 <| SJ.seq <| SJ.sr 1 <| J.z 1 <| SJ.block (id := 0) <| J.L (Za5.L1_ok a0 a1)

/-! ### weir/weirref4.Valid: function 191 -/
noncomputable def Za8.B : Code := bod Tryz.f191
noncomputable def Za8.cx : Fx := ⟨Tryz.prog, 191, Tryz.f191, none⟩
noncomputable def Za8.out (r_ : Bool) : Value := .bool r_
noncomputable def Za8.F1 (a0 : Zbe) (b1 : Nat) : LF Int Bool := ⟨[.inBlock 0, .code (c2 (c2 (c2 Za8.B)))], c1 (c2 (c1 (c2 (c2 Za8.B)))), fun s_ => [(1, .pointer (some (pt b1 0))), (3, .int .i64 s_)], fun s_ => [(b1, Zbo.enc a0)], (rt Za8.out)⟩
noncomputable def Za8.L1 (a0 : Zbe) (s2 : Int) : M (LS Int Bool) :=
 if s2 < 16 then
  chk ((0 : Int) ≤ s2 ∧ s2 < (16 : Nat)) >>= fun _ =>
  if (Vec.g a0.A s2 0) ≠ 0 then
   pure (LS.done false)
  else
   pure (LS.next (IntKind.wrap .i64 (s2 + 1)))
 else
  pure (LS.done true)
theorem Za8.L1_ok (a0 : Zbe) (b1 : Nat) : LJ Za8.cx (Za8.F1 a0 b1) (fun s_ => Za8.L1 a0 s_) := by
 rintro s2
 show SJ _ _ _ _ (Za8.L1 a0 s2) _
 unfold Za8.L1
 refine SJ.seq <| SJ.sr 2 <| J.z 2 <| J.f ?_ ?_
 ·refine SJ.skip <| SJ.seq <| SJ.block (id := 1) <| SJ.sr 5 <| J.y 2 fun hb7 hb8 => J.k 0 0 rfl Ty5 (At.trans (ZbZ _) (At.arr (z := 0) hb7 hb8)) <| J.z 1 <| J.f ?_ ?_
  ·exact SJ.sr 1 <| J.z 1 <| J.r
  exact SJ.skip <| SJ.inBlock <| SJ.rg 3 <| J.z 3 <| J.o rfl
 exact SJ.exit (id := 0) (by rfl) <| SJ.sr 1 <| J.z 1 <| J.r
noncomputable def Za8 (a0 : Zbe) : M Bool :=
 slot 66 >>= fun b1 =>
 if a0.V ≠ 4 then
  pure (a0.V == 6)
 else
  Zb9 (fun s_ : Int => Za8.L1 a0 s_) 4
theorem ZfJ (a0 : Zbe) : Ref Tryz.prog 191 [Zbo.val a0] (Za8 a0) Za8.out := by
 refine J.Fn Tryz.func191 ?_
 unfold Za8
 refine SJ.sr 2 <| J.b 0 Zbo a0 fun b1 => J.z 1 <| SJ.seq <| SJ.sr 3 <| J.k 1 0 rfl Ty3 (Zcp _) <| J.z 1 <| J.f ?_ ?_
 ·exact SJ.sr 4 <| J.k 1 0 rfl Ty3 (Zcp _) <| J.z 2 <| J.r
 exact SJ.skip <| SJ.seq <| SJ.sr 1 <| J.z 1 <| SJ.block (id := 0) <| J.L (Za8.L1_ok a0 b1)

/-! ### weir/weirref4.width: function 196 -/
noncomputable def Zdl.out (r_ : Int) : Value := .int .i64 r_
noncomputable def Zdl (a0 : Zbe) : M Int :=
 slot 66 >>= fun b1 =>
 if a0.V = 4 then
  pure 32
 else
  pure 128
theorem Zio (a0 : Zbe) : Ref Tryz.prog 196 [Zbo.val a0] (Zdl a0) Zdl.out := by
 refine J.Fn Tryz.func196 ?_
 unfold Zdl
 refine SJ.sr 2 <| J.b 0 Zbo a0 fun b1 => J.z 1 <| SJ.seq <| SJ.sr 3 <| J.k 1 0 rfl Ty3 (Zcp _) <| J.z 1 <| J.f ?_ ?_
 ·exact SJ.sr 1 <| J.z 1 <| J.r
 exact SJ.skip <| SJ.sr 1 <| J.z 1 <| J.r

/-! ### weir/weirref4.bit: function 197 -/
noncomputable def Zbr.B : Code := bod Tryz.f197
noncomputable def Zbr.cx : Fx := ⟨Tryz.prog, 197, Tryz.f197, none⟩
noncomputable def Zbr.out (r_ : Int) : Value := .int .i64 r_
noncomputable def Zbr.F1  : LF (Int × Int) Int := ⟨[.inBlock 0, .code (c2 (c2 (c2 Zbr.B)))], c1 (c2 (c1 (c2 (c2 Zbr.B)))), fun s_ => [(5, .int .i64 s_.1), (6, .int .i64 s_.2)], fun s_ => [], (rt Zbr.out)⟩
noncomputable def Zbr.L1 (s4 : Int) (s5 : Int) : M (LS (Int × Int) Int) :=
 if s5 < 7 then
  pure (LS.next (IntKind.wrap .i64 (Int.tdiv s4 2), IntKind.wrap .i64 (s5 + 1)))
 else
  pure (LS.done (Int.tmod s4 2))
theorem Zbr.L1_ok  : LJ Zbr.cx (Zbr.F1) (fun s_ => Zbr.L1 s_.1 s_.2) := by
 rintro ⟨s4, s5⟩
 show SJ _ _ _ _ (Zbr.L1 s4 s5) _
 unfold Zbr.L1
 refine SJ.seq <| SJ.sr 2 <| J.z 2 <| J.f ?_ ?_
 ·exact SJ.skip <| SJ.seq <| SJ.block (id := 1) <| SJ.rg 3 <| J.z 3 <| SJ.inBlock <| SJ.rg 3 <| J.z 3 <| J.o rfl
 exact SJ.exit (id := 0) (by rfl) <| SJ.sr 3 <| J.z 3 <| J.r
noncomputable def Zbr (a0 : Zbe) (a1 : Int) : M Int :=
 slot 66 >>= fun b1 =>
 chk ((0 : Int) ≤ (IntKind.wrap .i64 (Int.tdiv a1 8)) ∧ (IntKind.wrap .i64 (Int.tdiv a1 8)) < (16 : Nat)) >>= fun _ =>
 Zb9 (fun s_ : (Int × Int) => Zbr.L1 s_.1 s_.2) (IntKind.wrap .i64 (Vec.g a0.A (IntKind.wrap .i64 (Int.tdiv a1 8)) 0), Int.tmod a1 8)
theorem Zjx (a0 : Zbe) (a1 : Int) : Ref Tryz.prog 197 [Zbo.val a0, .int .i64 a1] (Zbr a0 a1) Zbr.out := by
 refine J.Fn Tryz.func197 ?_
 unfold Zbr
 exact SJ.sr 2 <| J.b 0 Zbo a0 fun b1 => J.z 1 <| SJ.sr 7 <| J.y 3 fun hb2 hb3 => J.k 0 0 rfl Ty5 (At.trans (ZbZ _) (At.arr (z := 0) hb2 hb3)) <| J.z 2 <| SJ.seq <| SJ.sr 3 <| J.z 3 <| SJ.block (id := 0) <| SJ.forget (List.Sublist.cons _ List.Sublist.slnil) <| J.L (Zbr.L1_ok)

/-! ### weir/weirref4.ValidPrefix: function 162 -/
noncomputable def ZaM.B : Code := bod Tryz.f162
noncomputable def ZaM.cx : Fx := ⟨Tryz.prog, 162, Tryz.f162, none⟩
noncomputable def ZaM.out (r_ : Int) : Value := .int .i64 r_
noncomputable def ZaM.F1 (a0 : Zap) (b1 : Nat) (r3 : Int) : LF Int Int := ⟨[.inBlock 0, .code (c2 (c2 (c2 (c2 (c2 (c2 ZaM.B))))))], c1 (c2 (c1 (c2 (c2 (c2 (c2 (c2 ZaM.B))))))), fun s_ => [(1, .pointer (some (pt b1 0))), (4, .int .i64 r3), (5, .int .i64 s_)], fun s_ => [(b1, ZaF.enc a0)], (rt ZaM.out)⟩
noncomputable def ZaM.L1 (a0 : Zap) (r3 : Int) (s5 : Int) : M (LS Int Int) :=
 if s5 < r3 then
  Zbr a0.IP s5 >>= fun r9 =>
  if r9 = 1 then
   pure (LS.done 46)
  else
   pure (LS.next (IntKind.wrap .i64 (s5 + 1)))
 else
  pure (LS.done 0)
theorem ZaM.L1_ok (a0 : Zap) (b1 : Nat) (r3 : Int) : LJ ZaM.cx (ZaM.F1 a0 b1 r3) (fun s_ => ZaM.L1 a0 r3 s_) := by
 rintro s5
 show SJ _ _ _ _ (ZaM.L1 a0 r3 s5) _
 unfold ZaM.L1
 refine SJ.seq <| SJ.sr 3 <| J.z 3 <| J.f ?_ ?_
 ·refine SJ.skip <| SJ.seq <| SJ.block (id := 1) <| SJ.sr 5 <| J.k 1 0 rfl Ty66 (Zbq _) <| J.C 1 F197 (Zjx _ _) fun r9 => J.z 1 <| J.f ?_ ?_
  ·exact SJ.sr 1 <| J.z 1 <| J.r
  exact SJ.skip <| SJ.inBlock <| SJ.rg 3 <| J.z 3 <| J.o rfl
 exact SJ.exit (id := 0) (by rfl) <| SJ.sr 1 <| J.z 1 <| J.r
noncomputable def ZaM (a0 : Zap) : M Int :=
 slot 117 >>= fun b1 =>
 Za8 a0.IP >>= fun r2 =>
 if ¬ (r2 = true) then
  pure 40
 else
  Zdl a0.IP >>= fun r3 =>
  (if a0.Len < 0 then
    pure true
   else
    pure (decide (a0.Len > r3))) >>= fun y4 =>
  if y4 = true then
   pure 45
  else
   Zb9 (fun s_ : Int => ZaM.L1 a0 r3 s_) a0.Len
theorem Zeo (a0 : Zap) : Ref Tryz.prog 162 [ZaF.val a0] (ZaM a0) ZaM.out := by
 refine J.Fn Tryz.func162 ?_
 unfold ZaM
 refine SJ.sr 2 <| J.b 0 ZaF a0 fun b1 => J.z 1 <| SJ.sr 4 <| J.k 1 0 rfl Ty66 (Zbq _) <| J.C 0 F191 (ZfJ _) fun r2 => J.z 1 <| SJ.seq <| SJ.sr 2 <| J.z 2 <| J.f ?_ ?_
 ·exact SJ.sr 1 <| J.z 1 <| J.r
 refine SJ.skip <| SJ.sr 4 <| J.k 1 0 rfl Ty66 (Zbq _) <| J.C 0 F196 (Zio _) fun r3 => J.z 1 <| SJ.seq <| SJ.sr 9 <| J.k 1 0 rfl Ty3 (Zby _) <| J.j 2 4 .bool ?_ ?_ fun y4 => ?_
 ·exact J.e 5
 ·exact J.k 1 0 rfl Ty3 (Zby _) <| J.e 3
 refine J.z 0 <| J.f ?_ ?_
 ·exact SJ.sr 1 <| J.z 1 <| J.r
 exact SJ.skip <| SJ.seq <| SJ.sr 3 <| J.k 1 0 rfl Ty3 (Zby _) <| J.z 1 <| SJ.block (id := 0) <| J.L (ZaM.L1_ok a0 b1 r3)

/-! ### weir/weirref16.net: function 120 -/
noncomputable def ZdD.out (r_ : Bool) : Value := .bool r_
noncomputable def ZdD (a0 : Int) (a1 : Zap) : M Bool :=
 slot 117 >>= fun b1 =>
 ZaM a1 >>= fun r2 =>
 if r2 ≠ 0 then
  pure false
 else
  (if a0 = 0 then
    pure true
   else
    pure ((a0 == 3) == (a1.IP.V == 6))) >>= fun y3 =>
  pure y3
theorem Zi9 (a0 : Int) (a1 : Zap) : Ref Tryz.prog 120 [.int .i64 a0, ZaF.val a1] (ZdD a0 a1) ZdD.out := by
 refine J.Fn Tryz.func120 ?_
 unfold ZdD
 refine SJ.sr 2 <| J.b 0 ZaF a1 fun b1 => J.z 1 <| SJ.seq <| SJ.sr 3 <| J.k 0 0 rfl Zcb (At.whole _) <| J.C 0 F162 (Zeo _) fun r2 => J.z 1 <| J.f ?_ ?_
 ·exact SJ.sr 1 <| J.z 1 <| J.r
 refine SJ.skip <| SJ.sr 12 <| J.j 3 7 .bool ?_ ?_ fun y3 => ?_
 ·exact J.e 8
 ·exact J.k 4 0 rfl Ty3 (At.trans (Zbq _) (Zcp _)) <| J.e 3
 exact J.z 1 <| J.r
end Go.Proofs.YtpmhinidiplhiaaGreatDoor.Lx
