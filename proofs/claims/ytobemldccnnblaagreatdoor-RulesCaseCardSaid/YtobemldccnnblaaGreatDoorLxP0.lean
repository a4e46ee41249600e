/- Programs of the M-world for Go functions, each with the proof that the Go text does what it says. Printed by lxgen.py. -/
import Derived.Test.YtobemldccnnblaaGreatDoorLxT
set_option linter.unusedVariables false
set_option linter.unusedSimpArgs false
set_option linter.unusedSectionVars false
namespace Go.Proofs.YtobemldccnnblaaGreatDoor.Lx
open Go Go.Proofs
variable [Zej]
/-! ### weir/weirref16.CloneSide: function 37 -/
noncomputable def Zcm.out (r_ : Zaf) : Value := ZaA.val r_
noncomputable def Zcm (a0 : Zaf) : M Zaf :=
 slot 74 >>= fun b1 =>
 slot 74 >>= fun b2 =>
 appS Zav 111 32 ZbN Sl.nil a0.Nets >>= fun r3 =>
 appS Za5 113 16 Zgd Sl.nil a0.Ports >>= fun r4 =>
 pure (⟨a0.Not, r3, r4⟩ : Zaf)
theorem Zgb (a0 : Zaf) : Ref Tryz.prog 37 [ZaA.val a0] (Zcm a0) Zcm.out := by
 refine J.Fn Tryz.func37 ?_
 unfold Zcm
 exact SJ.sr 2 <| J.b 0 ZaA a0 fun b1 => J.a 0 Ty74 fun b2 => J.z 0 <| SJ.sr 1 <| J.z 1 <| SJ.sr 1 <| J.z 1 <| SJ.sr 6 <| J.k 2 1 rfl Ty71 (Zaw _) <| OJ.appS (d := 8) (t := 71) (u := 71) (so := .tmp 5) (xo := .tmp 7) (owed := []) ZcY fun r3 => OW.nil <| J.s 1 1 rfl Ty71 (ZeS _ r3) <| J.z 0 <| SJ.sr 6 <| J.k 2 1 rfl Ty72 (ZaQ _) <| OJ.appS (d := 13) (t := 72) (u := 72) (so := .tmp 10) (xo := .tmp 12) (owed := []) ZgA fun r4 => OW.nil <| J.s 1 1 rfl Ty72 (Zes _ r4) <| J.z 0 <| SJ.sr 2 <| J.k 0 1 rfl Ty74 (At.whole _) <| J.s 0 0 rfl Ty74 (Upd.w (⟨a0.Not, r3, r4⟩ : Zaf)) <| J.z 0 <| J.rc (.c 0 rfl Ty74 .n)

/-! ### weir/weirref16.Clone: function 15 -/
noncomputable def ZdQ.out (r_ : Zae) : Value := Zak.val r_
noncomputable def ZdQ (a0 : Zae) : M Zae :=
 slot 76 >>= fun b1 =>
 slot 76 >>= fun b2 =>
 Zcm a0.From >>= fun r3 =>
 Zcm a0.To >>= fun r4 =>
 pure (⟨a0.Act, a0.Class, a0.Kind, a0.Proto, a0.In, a0.Vid, r3, r4, a0.Set, a0.Clear, a0.Type_, a0.Pieces⟩ : Zae)
theorem Zkf (a0 : Zae) : Ref Tryz.prog 15 [Zak.val a0] (ZdQ a0) ZdQ.out := by
 refine J.Fn Tryz.func15 ?_
 unfold ZdQ
 exact SJ.sr 2 <| J.b 0 Zak a0 fun b1 => J.a 0 Ty76 fun b2 => J.z 0 <| SJ.sr 5 <| J.k 1 1 rfl Ty74 (ZbU _) <| J.C 0 F37 (Zgb _) fun r3 => J.s 1 1 rfl Ty74 (Zd1 _ r3) <| J.z 0 <| SJ.sr 5 <| J.k 1 1 rfl Ty74 (ZbW _) <| J.C 0 F37 (Zgb _) fun r4 => J.s 1 1 rfl Ty74 (ZeY _ r4) <| J.z 0 <| SJ.sr 2 <| J.k 0 1 rfl Ty76 (At.whole _) <| J.s 0 0 rfl Ty76 (Upd.w (⟨a0.Act, a0.Class, a0.Kind, a0.Proto, a0.In, a0.Vid, r3, r4, a0.Set, a0.Clear, a0.Type_, a0.Pieces⟩ : Zae)) <| J.z 0 <| J.rc (.c 0 rfl Ty76 .n)

/-! ### weir/weirref16.CloneAll: function 5 -/
noncomputable def ZaU.B : Code := bod Tryz.f5
noncomputable def ZaU.cx : Fx := ⟨Tryz.prog, 5, Tryz.f5, none⟩
noncomputable def ZaU.out (r_ : Sl) : Value := Sl.v r_
noncomputable def ZaU.F1 (a0 : Sl) : LF (Sl × Int) Sl := ⟨[.inBlock 0, .code (c2 (c2 (c2 ZaU.B)))], c1 (c2 (c1 (c2 (c2 ZaU.B)))), fun s_ => [(0, Sl.v a0), (3, Sl.v s_.1), (4, .int .i64 s_.2)], fun s_ => [], (rt ZaU.out)⟩
noncomputable def ZaU.L1 (a0 : Sl) (s1 : Sl) (s2 : Int) : M (LS (Sl × Int) Sl) :=
 if s2 < (a0.len : Int) then
  idx a0.a a0.len s2 16 >>= fun p9 =>
  ld Zak p9 >>= fun x10 =>
  ZdQ x10 >>= fun r11 =>
  slot 76 >>= fun b12 =>
  appl Zak 76 192 ZaH s1 [r11] >>= fun r13 =>
  pure (LS.next (r13, IntKind.wrap .i64 (s2 + 1)))
 else
  pure (LS.done s1)
theorem ZaU.L1_ok (a0 : Sl) : LJ ZaU.cx (ZaU.F1 a0) (fun s_ => ZaU.L1 a0 s_.1 s_.2) := by
 rintro ⟨s1, s2⟩
 show SJ _ _ _ _ (ZaU.L1 a0 s1 s2) _
 unfold ZaU.L1
 refine SJ.seq <| SJ.sr 4 <| J.z 4 <| J.f ?_ ?_
 ·exact SJ.skip <| SJ.seq <| SJ.block (id := 1) <| SJ.rg 9 <| J.i 3 fun p9 => J.l 0 Ty76 fun x10 => J.C 0 F15 (Zkf _) fun r11 => J.S 0 [r11] Ty76 fun b12 => J.p 0 0 rfl Ty76 fun r13 => J.z 1 <| SJ.inBlock <| SJ.rg 3 <| J.z 3 <| SJ.forget (List.Sublist.cons _ List.Sublist.slnil) <| J.o rfl
 exact SJ.exit (id := 0) (by rfl) <| SJ.sr 2 <| J.z 2 <| J.r
noncomputable def ZaU (a0 : Sl) : M Sl :=
 ZcI (fun s_ : (Sl × Int) => ZaU.L1 a0 s_.1 s_.2) (Sl.nil, 0)
theorem ZiA (a0 : Sl) : Ref Tryz.prog 5 [Sl.v a0] (ZaU a0) ZaU.out := by
 refine J.Fn Tryz.func5 ?_
 unfold ZaU
 exact SJ.sr 1 <| J.z 1 <| SJ.sr 1 <| J.z 1 <| SJ.seq <| SJ.sr 1 <| J.z 1 <| SJ.block (id := 0) <| J.L (ZaU.L1_ok a0)

/-! ### weir/rules.within: function 32 -/
noncomputable def Zb0.out (r_ : Bool) : Value := .bool r_
noncomputable def Zb0 (a0 : Int) (a1 : Int) (a2 : Int) : M Bool :=
 (if a0 ≥ a1 then
   pure (decide (a0 ≤ a2))
  else
   pure false) >>= fun y1 =>
 pure y1
theorem Zcn (a0 : Int) (a1 : Int) (a2 : Int) : Ref Tryz.prog 32 [.int .i64 a0, .int .i64 a1, .int .i64 a2] (Zb0 a0 a1 a2) Zb0.out := by
 refine J.Fn Tryz.func32 ?_
 unfold Zb0
 refine SJ.sr 1 <| J.z 1 <| SJ.sr 9 <| J.j 4 3 .bool ?_ ?_ fun y1 => ?_
 ·exact J.e 4
 ·exact J.e 4
 exact J.z 1 <| J.r

/-! ### weir/rules.typed: function 33 -/
noncomputable def ZeG.out (r_ : Bool) : Value := .bool r_
noncomputable def ZeG (a0 : Int) : M Bool :=
 (if a0 = 1 then
   pure true
  else
   pure (a0 == 58)) >>= fun y1 =>
 pure y1
theorem Zjz (a0 : Int) : Ref Tryz.prog 33 [.int .i64 a0] (ZeG a0) ZeG.out := by
 refine J.Fn Tryz.func33 ?_
 unfold ZeG
 refine SJ.sr 1 <| J.z 1 <| SJ.sr 7 <| J.j 3 2 .bool ?_ ?_ fun y1 => ?_
 ·exact J.e 3
 ·exact J.e 3
 exact J.z 1 <| J.r

/-! ### weir/rules.version: function 79 -/
noncomputable def Zfo.out (r_ : Int) : Value := .int .i64 r_
noncomputable def Zfo (a0 : Int) : M Int :=
 if a0 = 1 then
  if a0 = 1 then
   pure 4
  else
   if a0 = 3 then
    pure 6
   else
    pure 0
 else
  if a0 = 2 then
   pure 4
  else
   if a0 = 3 then
    pure 6
   else
    pure 0
theorem ZlR (a0 : Int) : Ref Tryz.prog 79 [.int .i64 a0] (Zfo a0) Zfo.out := by
 refine J.Fn Tryz.func79 ?_
 unfold Zfo
 refine SJ.sr 1 <| J.z 1 <| SJ.seq <| SJ.sr 1 <| J.z 1 <| SJ.block (id := 0) <| SJ.seq <| SJ.sr 2 <| J.z 2 <| J.f ?_ ?_
 ·refine SJ.skip <| J.f ?_ ?_
  ·exact SJ.sr 1 <| J.z 1 <| J.r
  refine SJ.sr 2 <| J.z 2 <| J.f ?_ ?_
  ·exact SJ.sr 1 <| J.z 1 <| J.r
  exact SJ.skip <| SJ.inBlock <| SJ.sr 1 <| J.z 1 <| J.r
 refine SJ.rg 2 <| J.z 2 <| J.f ?_ ?_
 ·exact SJ.sr 1 <| J.z 1 <| J.r
 refine SJ.sr 2 <| J.z 2 <| J.f ?_ ?_
 ·exact SJ.sr 1 <| J.z 1 <| J.r
 exact SJ.skip <| SJ.inBlock <| SJ.sr 1 <| J.z 1 <| J.r

/-! ### weir/addr.size: function 110 -/
noncomputable def Zf0.out (r_ : Int) : Value := .int .i64 r_
noncomputable def Zf0 (a0 : Zba) : M Int :=
 newv 28 ZaG a0 >>= fun b1 =>
 ld (cI .i64) (pt b1 0) >>= fun x2 =>
 if x2 = 6 then
  pure 128
 else
  ld (cI .i64) (pt b1 0) >>= fun x3 =>
  (if x3 ≠ 4 then
    pure true
   else
    cut 1 ⟨some (Addr.add (pt b1 0) 1), 16, 16⟩ (some 4) none none >>= fun r4 =>
    (chk (12 ≤ r4.len) >>= fun _ => nilck r4.a) >>= fun p5 =>
    ld ((cI .u8).arr 12) p5 >>= fun x6 =>
    pure (!eqv x6 (⟨[0, 0, 0, 0, 0, 0, 0, 0, 0, 0, 0, 0], rfl⟩ : (Vec Int 12)))) >>= fun y7 =>
  if y7 = true then
   pure 0
  else
   pure 32
theorem ZiY (a0 : Zba) : Ref Tryz.prog 110 [ZaG.val a0] (Zf0 a0) Zf0.out := by
 refine J.Fn Tryz.func110 ?_
 unfold Zf0
 refine SJ.sr 2 <| J.B 0 fun b1 => J.z 1 <| SJ.seq <| SJ.sr 3 <| J.l 1 Ty3 fun x2 => J.z 1 <| J.f ?_ ?_
 ·exact SJ.sr 1 <| J.z 1 <| J.r
 refine SJ.skip <| SJ.seq <| SJ.sr 11 <| J.l 1 Ty3 fun x3 => J.j 2 6 .bool ?_ ?_ fun y7 => ?_
 ·exact J.e 7
 ·exact J.ca 1 fun r4 => OJ.toArr (d := 12) (t := 212) (E := 5) (y := .tmp 11) (s := r4) fun p5 => J.l 0 ZwF fun x6 => J.u 0 ZwF .nil <| OJ.neq (d := 15) (T := 212) (yT := 212) (y := .tmp 13) (z := .tmp 14) (cd := ((cI .u8).arr 12)) (p := x6) (q := (⟨[0, 0, 0, 0, 0, 0, 0, 0, 0, 0, 0, 0], rfl⟩ : (Vec Int 12))) rfl Zw7 <| J.e 1
 refine J.z 0 <| J.f ?_ ?_
 ·exact SJ.sr 1 <| J.z 1 <| J.r
 exact SJ.skip <| SJ.sr 1 <| J.z 1 <| J.r

/-! ### weir/addr.masked: function 111 -/
noncomputable def ZbM.B : Code := bod Tryz.f111
noncomputable def ZbM.cx : Fx := ⟨Tryz.prog, 111, Tryz.f111, none⟩
noncomputable def ZbM.out (r_ : (Vec Int 16)) : Value := ((cI .u8).arr 16).val r_
noncomputable def ZbM.F1 (a0 : (Vec Int 16)) (a1 : Int) (b1 : Nat) (b2 : Nat) (b3 : Nat) : LF (Int × (Vec Int 16)) (Vec Int 16) := ⟨[.inBlock 0, .code (c2 (c2 (c2 ZbM.B)))], c1 (c2 (c1 (c2 (c2 ZbM.B)))), fun s_ => [(1, .int .i64 a1), (2, .pointer (some (pt b1 0))), (4, .pointer (some (pt b2 0))), (5, .pointer (some (pt b3 0))), (8, .int .i64 s_.1)], fun s_ => [(b3, ((cI .u8).arr 16).enc s_.2), (b2, ((cI .u8).arr 16).enc (Vec.rep 16 0)), (b1, ((cI .u8).arr 16).enc a0)], (rt ZbM.out)⟩
noncomputable def ZbM.L1 (a0 : (Vec Int 16)) (a1 : Int) (s4 : Int) (s5 : (Vec Int 16)) : M (LS (Int × (Vec Int 16)) (Vec Int 16)) :=
 if s4 < 16 then
  chk ((0 : Int) ≤ s4 ∧ s4 < (16 : Nat)) >>= fun _ =>
  chk (0 ≤ (IntKind.wrap .u64 (if (if 0 < (IntKind.wrap .i64 (a1 - (IntKind.wrap .i64 (8 * s4)))) then (IntKind.wrap .i64 (a1 - (IntKind.wrap .i64 (8 * s4)))) else 0) < 8 then (if 0 < (IntKind.wrap .i64 (a1 - (IntKind.wrap .i64 (8 * s4)))) then (IntKind.wrap .i64 (a1 - (IntKind.wrap .i64 (8 * s4)))) else 0) else 8))) >>= fun _ =>
  chk ((0 : Int) ≤ s4 ∧ s4 < (16 : Nat)) >>= fun _ =>
  pure (LS.next (IntKind.wrap .i64 (s4 + 1), (Vec.s s5 s4 (band .u8 (Vec.g a0 s4 0) (IntKind.wrap .u8 (Int.fdiv 65280 (2 ^ min (Int.toNat (IntKind.wrap .u64 (if (if 0 < (IntKind.wrap .i64 (a1 - (IntKind.wrap .i64 (8 * s4)))) then (IntKind.wrap .i64 (a1 - (IntKind.wrap .i64 (8 * s4)))) else 0) < 8 then (if 0 < (IntKind.wrap .i64 (a1 - (IntKind.wrap .i64 (8 * s4)))) then (IntKind.wrap .i64 (a1 - (IntKind.wrap .i64 (8 * s4)))) else 0) else 8))) 64)))))))
 else
  pure (LS.done s5)
theorem ZbM.L1_ok (a0 : (Vec Int 16)) (a1 : Int) (b1 : Nat) (b2 : Nat) (b3 : Nat) : LJ ZbM.cx (ZbM.F1 a0 a1 b1 b2 b3) (fun s_ => ZbM.L1 a0 a1 s_.1 s_.2) := by
 rintro ⟨s4, s5⟩
 show SJ _ _ _ _ (ZbM.L1 a0 a1 s4 s5) _
 unfold ZbM.L1
 refine SJ.sr 1 <| J.z 1 <| SJ.seq <| J.f ?_ ?_
 ·exact SJ.skip <| SJ.seq <| SJ.block (id := 1) <| SJ.sr 2 <| J.z 2 <| SJ.sr 7 <| J.g 4 <| OJ.max (d := 15) (t := 3) (u := 3) (so := .const (.int .i64 0)) (xo := .tmp 14) (k := .i64) (p := 0) (q := (IntKind.wrap .i64 (a1 - (IntKind.wrap .i64 (8 * s4))))) <| OJ.min (d := 16) (t := 3) (u := 3) (so := .const (.int .i64 8)) (xo := .tmp 15) (k := .i64) (p := 8) (q := (if 0 < (IntKind.wrap .i64 (a1 - (IntKind.wrap .i64 (8 * s4)))) then (IntKind.wrap .i64 (a1 - (IntKind.wrap .i64 (8 * s4)))) else 0)) <| J.z 1 <| SJ.rg 11 <| J.y 2 fun hb12 hb13 => J.k 0 2 rfl Ty5 (At.zero (At.arr (z := 0) hb12 hb13)) <| J.g 2 <| OJ.shr (d := 23) (T := 3) (yT := 164) (y := .const (.int .i64 65280)) (z := .tmp 22) (k := .i64) (yk := .u64) (p := 65280) (q := (IntKind.wrap .u64 (if (if 0 < (IntKind.wrap .i64 (a1 - (IntKind.wrap .i64 (8 * s4)))) then (IntKind.wrap .i64 (a1 - (IntKind.wrap .i64 (8 * s4)))) else 0) < 8 then (if 0 < (IntKind.wrap .i64 (a1 - (IntKind.wrap .i64 (8 * s4)))) then (IntKind.wrap .i64 (a1 - (IntKind.wrap .i64 (8 * s4)))) else 0) else 8))) fun hq16 => J.y 2 fun hb14 hb15 => J.s (u := (band .u8 (Vec.g a0 s4 0) (IntKind.wrap .u8 (Int.fdiv 65280 (2 ^ min (Int.toNat (IntKind.wrap .u64 (if (if 0 < (IntKind.wrap .i64 (a1 - (IntKind.wrap .i64 (8 * s4)))) then (IntKind.wrap .i64 (a1 - (IntKind.wrap .i64 (8 * s4)))) else 0) < 8 then (if 0 < (IntKind.wrap .i64 (a1 - (IntKind.wrap .i64 (8 * s4)))) then (IntKind.wrap .i64 (a1 - (IntKind.wrap .i64 (8 * s4)))) else 0) else 8))) 64))))) 0 0 rfl Ty5 (Upd.zero (Upd.arr hb14 hb15)) <| J.z 0 <| SJ.inBlock <| SJ.rg 2 <| J.z 2 <| J.o rfl
 exact SJ.exit (id := 0) (by rfl) <| SJ.sr 2 <| J.k 0 0 rfl Ty26 (At.whole _) <| J.s 0 1 rfl Ty26 (Upd.w s5) <| J.z 0 <| J.rc (.c 1 rfl Ty26 .n)
noncomputable def ZbM (a0 : (Vec Int 16)) (a1 : Int) : M (Vec Int 16) :=
 slot 26 >>= fun b1 =>
 slot 26 >>= fun b2 =>
 slot 26 >>= fun b3 =>
 ZcI (fun s_ : (Int × (Vec Int 16)) => ZbM.L1 a0 a1 s_.1 s_.2) (0, (Vec.rep 16 0))
theorem ZjC (a0 : (Vec Int 16)) (a1 : Int) : Ref Tryz.prog 111 [((cI .u8).arr 16).val a0, .int .i64 a1] (ZbM a0 a1) ZbM.out := by
 refine J.Fn Tryz.func111 ?_
 unfold ZbM
 exact SJ.sr 2 <| J.b 0 ((cI .u8).arr 16) a0 fun b1 => J.a 0 Ty26 fun b2 => J.z 0 <| SJ.sr 1 <| J.a 0 Ty26 fun b3 => J.z 0 <| SJ.seq <| SJ.sr 1 <| J.z 1 <| SJ.block (id := 0) <| J.L (ZbM.L1_ok a0 a1 b1 b2 b3)

/-! ### weir/addr.ValidPrefix: function 80 -/
noncomputable def Zcr.out (r_ : Int) : Value := .int .i64 r_
noncomputable def Zcr (a0 : Zad) : M Int :=
 slot 111 >>= fun b1 =>
 Zf0 a0.IP >>= fun r2 =>
 if r2 = 0 then
  pure 40
 else
  (if a0.Len < 0 then
    pure true
   else
    pure (decide (a0.Len > r2))) >>= fun y9 =>
  if y9 = true then
   pure 45
  else
   draw >>= fun _ =>
   ZbM a0.IP.A a0.Len >>= fun r12 =>
   if ¬ (r12 = a0.IP.A) then
    pure 46
   else
    pure 0
theorem ZeL (a0 : Zad) : Ref Tryz.prog 80 [Zav.val a0] (Zcr a0) Zcr.out := by
 refine J.Fn Tryz.func80 ?_
 unfold Zcr
 refine SJ.sr 2 <| J.b 0 Zav a0 fun b1 => J.z 1 <| SJ.seq <| SJ.sr 4 <| J.k 1 0 rfl Ty28 (Zbz _) <| J.C 0 F110 (ZiY _) fun r2 => J.z 1 <| SJ.block (id := 0) <| SJ.sr 3 <| J.z 3 <| J.f ?_ ?_
 ·exact SJ.sr 1 <| J.z 1 <| J.r
 refine SJ.sr 10 <| J.k 1 0 rfl Ty3 (ZbS _) <| J.j 2 4 .bool ?_ ?_ fun y9 => ?_
 ·exact J.e 5
 ·exact J.k 1 0 rfl Ty3 (ZbS _) <| J.e 3
 refine J.z 1 <| J.f ?_ ?_
 ·exact SJ.sr 1 <| J.z 1 <| J.r
 refine SJ.seq <| J.D [0, 1, 2, 3, 4, 6, 7, 8, 5, 9, 10] Zcs <| J.k 2 0 rfl Ty26 (At.trans (Zbz _) (ZdE _)) <| J.k 1 0 rfl Ty3 (ZbS _) <| J.k 2 0 rfl Ty26 (At.trans (Zbz _) (ZdE _)) <| OJ.call (d := 26) (g := 111) (ats := #[26, 3]) (args := [.tmp 23, .tmp 25]) (owed := [⟨8, 26, (pt b1 1), ((cI .u8).arr 16).val a0.IP.A⟩]) F111 (ZjC a0.IP.A a0.Len) fun r12 => OW.known (j := 0) (q := a0.IP.A) Ty26 rfl (At.trans (Zbz a0) (ZdE a0.IP)) <| OW.nil <| OJ.neq (d := 30) (T := 26) (yT := 26) (y := .tmp 26) (z := .tmp 29) (cd := ((cI .u8).arr 16)) (p := r12) (q := a0.IP.A) rfl Eq26 <| J.z 1 <| J.f ?_ ?_
 ·exact SJ.sr 1 <| J.z 1 <| J.r
 exact SJ.skip <| SJ.inBlock <| SJ.sr 1 <| J.z 1 <| J.r

/-! ### weir/rules.netFits: function 58 -/
noncomputable def Zd7.out (r_ : Bool) : Value := .bool r_
noncomputable def Zd7 (a0 : Zad) (a1 : Int) : M Bool :=
 slot 111 >>= fun b1 =>
 Zfo a1 >>= fun r2 =>
 Zcr a0 >>= fun r3 =>
 (if r3 = 0 then
   (if r2 = 0 then
     pure true
    else
     pure (a0.IP.V == r2)) >>= fun y4 =>
   pure y4
  else
   pure false) >>= fun y5 =>
 pure y5
theorem Zif (a0 : Zad) (a1 : Int) : Ref Tryz.prog 58 [Zav.val a0, .int .i64 a1] (Zd7 a0 a1) Zd7.out := by
 refine J.Fn Tryz.func58 ?_
 unfold Zd7
 refine SJ.sr 2 <| J.b 0 Zav a0 fun b1 => J.z 1 <| SJ.sr 3 <| J.C 1 F79 (ZlR _) fun r2 => J.z 1 <| SJ.sr 15 <| J.k 0 0 rfl ZcY (At.whole _) <| J.C 0 F80 (ZeL _) fun r3 => J.g 2 <| OJ.join (b := (r3 == 0)) [4, 5, 6, 7, 8, 9, 10, 11, 12, 13] [14] [21] (fun y5 => [(21, .bool y5)]) [] [] (t := 11) beq_iff_eq (fun hp_ => ?_) (fun hp_ => ?_) (fun _ _ _ _ _ _ h_ => h_) fun y5 => ?_
 ·refine J.g 3 <| OJ.join (b := (r2 == 0)) [7, 8, 9, 10, 11, 12] [13] [11, 20] (fun y4 => [(11, .bool true), (20, .bool y4)]) [] [] (t := 14) beq_iff_eq (fun hp_ => ?_) (fun hp_ => ?_) (fun _ _ _ _ _ hq_ h_ => ⟨fun e_ he_ => (hq_ e_ he_).elim (fun h => h_.1 e_ h) (fun h => nomatch h), h_.2⟩) fun y4 => ?_
  ·exact J.g 6 <| OJ.nil ⟨(Cov.mem Cov.nil), rfl, _, rfl, by kernel_rfl⟩
  ·exact J.k 2 0 rfl Ty3 (At.trans (Zbz _) (ZcP _)) <| J.g 3 <| OJ.nil ⟨(Cov.mem Cov.nil), rfl, _, rfl, by kernel_rfl⟩
  exact J.g 1 <| OJ.nil ⟨(Cov.mem Cov.nil), rfl, _, rfl, by kernel_rfl⟩
 ·exact J.g 10 <| OJ.nil ⟨(Cov.mem Cov.nil), rfl, _, rfl, by kernel_rfl⟩
 exact J.z 1 <| J.r

/-! ### weir/rules.ported: function 59 -/
noncomputable def ZeA.out (r_ : Bool) : Value := .bool r_
noncomputable def ZeA (a0 : Int) : M Bool :=
 (if a0 = 6 then
   pure true
  else
   pure (a0 == 17)) >>= fun y1 =>
 pure y1
theorem ZiF (a0 : Int) : Ref Tryz.prog 59 [.int .i64 a0] (ZeA a0) ZeA.out := by
 refine J.Fn Tryz.func59 ?_
 unfold ZeA
 refine SJ.sr 1 <| J.z 1 <| SJ.sr 7 <| J.j 3 2 .bool ?_ ?_ fun y1 => ?_
 ·exact J.e 3
 ·exact J.e 3
 exact J.z 1 <| J.r

/-! ### weir/rules.checkSide: function 34 -/
noncomputable def Zal.B : Code := bod Tryz.f34
noncomputable def Zal.cx : Fx := ⟨Tryz.prog, 34, Tryz.f34, none⟩
noncomputable def Zal.out (r_ : Int) : Value := .int .i64 r_
noncomputable def Zal.K1 (a0 : Zaf) (a2 : Int) : M Int :=
 (if (a0.Ports.len : Int) > 0 then
   ZeA a2 >>= fun r19 =>
   pure (!r19)
  else
   pure false) >>= fun y20 =>
 if y20 = true then
  pure 165
 else
  pure 0
theorem Zal.K1_ok (a0 : Zaf) (a2 : Int) (b1 : Nat) :
  SJ Zal.cx [.code (c2 (c2 (c2 (c2 (c2 Zal.B)))))] [(2, .int .i64 a2), (3, .pointer (some (pt b1 0)))] [(b1, ZaA.enc a0)] (Zal.K1 a0 a2) (rt Zal.out) := by
 unfold Zal.K1
 refine SJ.seq <| SJ.sr 9 <| J.k 1 0 rfl Ty72 (ZaQ _) <| J.j 3 3 .bool ?_ ?_ fun y20 => ?_
 ·exact J.C 1 F59 (ZiF _) fun r19 => J.e 2
 ·exact J.e 4
 refine J.z 0 <| J.f ?_ ?_
 ·exact SJ.sr 1 <| J.z 1 <| J.r
 exact SJ.skip <| SJ.sr 1 <| J.z 1 <| J.r
noncomputable def Zal.F1 (a0 : Zaf) (a2 : Int) (b1 : Nat) : LF Int Int := ⟨[.inBlock 2, .code (c2 (c2 (c2 (c2 (c2 Zal.B)))))], c1 (c2 (c1 (c2 (c2 (c2 (c2 Zal.B)))))), fun s_ => [(2, .int .i64 a2), (3, .pointer (some (pt b1 0))), (42, Sl.v a0.Ports), (43, .int .i64 (a0.Ports.len : Int)), (44, .int .i64 s_)], fun s_ => [(b1, ZaA.enc a0)], (rt Zal.out)⟩
noncomputable def Zal.L1 (a0 : Zaf) (a2 : Int) (s11 : Int) : M (LS Int Int) :=
 if s11 < (a0.Ports.len : Int) then
  idx a0.Ports.a a0.Ports.len s11 2 >>= fun p22 =>
  ld Za5 p22 >>= fun x23 =>
  slot 113 >>= fun b24 =>
  (if x23.Lo < 0 then
    pure true
   else
    pure (decide (x23.Hi > 65535))) >>= fun y25 =>
  (if y25 = true then
    pure true
   else
    pure (decide (x23.Lo > x23.Hi))) >>= fun y26 =>
  if y26 = true then
   pure (LS.done 164)
  else
   pure (LS.next (IntKind.wrap .i64 (s11 + 1)))
 else
  (Zal.K1 a0 a2) >>= fun b => pure (LS.done b)
theorem Zal.L1_ok (a0 : Zaf) (a2 : Int) (b1 : Nat) : LJ Zal.cx (Zal.F1 a0 a2 b1) (fun s_ => Zal.L1 a0 a2 s_) := by
 rintro s11
 show SJ _ _ _ _ (Zal.L1 a0 a2 s11) _
 unfold Zal.L1
 refine SJ.sr 1 <| J.z 1 <| SJ.seq <| J.f ?_ ?_
 ·refine SJ.skip <| SJ.seq <| SJ.block (id := 3) <| SJ.sr 4 <| J.i 0 fun p22 => J.l 0 ZgA fun x23 => J.a 0 ZgA fun b24 => J.s 0 0 rfl ZgA (Upd.w x23) <| J.z 0 <| SJ.sr 15 <| J.k 1 0 rfl Ty3 (Zdu _) <| J.j 2 3 .bool ?_ ?_ fun y25 => ?_
  ·exact J.e 4
  ·exact J.k 1 0 rfl Ty3 (ZdW _) <| J.e 2
  refine J.j 1 5 .bool ?_ ?_ fun y26 => ?_
  ·exact J.e 6
  ·exact J.k 1 0 rfl Ty3 (Zdu _) <| J.k 1 0 rfl Ty3 (ZdW _) <| J.e 2
  refine J.z 0 <| J.f ?_ ?_
  ·exact SJ.sr 1 <| J.z 1 <| J.r
  exact SJ.skip <| SJ.inBlock <| SJ.rg 2 <| J.z 2 <| SJ.forget (List.Sublist.cons _ (List.Sublist.cons_cons _ List.Sublist.slnil)) <| J.o rfl
 exact SJ.exit (id := 2) (by rfl) <| J.q <| SJ.done <| Zal.K1_ok a0 a2 b1
noncomputable def Zal.K2 (a0 : Zaf) (a2 : Int) : M Int :=
 if (a0.Ports.len : Int) > 16 then
  pure 164
 else
  ZcI (fun s_ : Int => Zal.L1 a0 a2 s_) 0
theorem Zal.K2_ok (a0 : Zaf) (a2 : Int) (b1 : Nat) :
  SJ Zal.cx [.code (c2 (c2 (c2 Zal.B)))] [(2, .int .i64 a2), (3, .pointer (some (pt b1 0)))] [(b1, ZaA.enc a0)] (Zal.K2 a0 a2) (rt Zal.out) := by
 unfold Zal.K2
 refine SJ.seq <| SJ.sr 4 <| J.k 1 0 rfl Ty72 (ZaQ _) <| J.z 2 <| J.f ?_ ?_
 ·exact SJ.sr 1 <| J.z 1 <| J.r
 exact SJ.skip <| SJ.seq <| SJ.sr 4 <| J.k 1 0 rfl Ty72 (ZaQ _) <| J.z 2 <| SJ.block (id := 2) <| J.L (Zal.L1_ok a0 a2 b1)
noncomputable def Zal.F2 (a0 : Zaf) (a1 : Int) (a2 : Int) (b1 : Nat) : LF Int Int := ⟨[.inBlock 0, .code (c2 (c2 (c2 Zal.B)))], c1 (c2 (c1 (c2 (c2 Zal.B)))), fun s_ => [(1, .int .i64 a1), (2, .int .i64 a2), (3, .pointer (some (pt b1 0))), (26, Sl.v a0.Nets), (27, .int .i64 (a0.Nets.len : Int)), (28, .int .i64 s_)], fun s_ => [(b1, ZaA.enc a0)], (rt Zal.out)⟩
noncomputable def Zal.L2 (a0 : Zaf) (a1 : Int) (a2 : Int) (s4 : Int) : M (LS Int Int) :=
 if s4 < (a0.Nets.len : Int) then
  idx a0.Nets.a a0.Nets.len s4 18 >>= fun p30 =>
  ld Zav p30 >>= fun x31 =>
  slot 111 >>= fun b32 =>
  Zd7 x31 a1 >>= fun r33 =>
  if ¬ (r33 = true) then
   pure (LS.done 163)
  else
   pure (LS.next (IntKind.wrap .i64 (s4 + 1)))
 else
  (Zal.K2 a0 a2) >>= fun b => pure (LS.done b)
theorem Zal.L2_ok (a0 : Zaf) (a1 : Int) (a2 : Int) (b1 : Nat) : LJ Zal.cx (Zal.F2 a0 a1 a2 b1) (fun s_ => Zal.L2 a0 a1 a2 s_) := by
 rintro s4
 show SJ _ _ _ _ (Zal.L2 a0 a1 a2 s4) _
 unfold Zal.L2
 refine SJ.sr 1 <| J.z 1 <| SJ.seq <| J.f ?_ ?_
 ·refine SJ.skip <| SJ.seq <| SJ.block (id := 1) <| SJ.sr 4 <| J.i 0 fun p30 => J.l 0 ZcY fun x31 => J.a 0 ZcY fun b32 => J.s 0 0 rfl ZcY (Upd.w x31) <| J.z 0 <| SJ.sr 4 <| J.k 0 0 rfl ZcY (At.whole _) <| J.C 1 F58 (Zif _ _) fun r33 => J.z 1 <| J.f ?_ ?_
  ·exact SJ.sr 1 <| J.z 1 <| J.r
  exact SJ.skip <| SJ.inBlock <| SJ.rg 2 <| J.z 2 <| SJ.forget (List.Sublist.cons _ (List.Sublist.cons_cons _ List.Sublist.slnil)) <| J.o rfl
 exact SJ.exit (id := 0) (by rfl) <| J.q <| SJ.done <| Zal.K2_ok a0 a2 b1
noncomputable def Zal (a0 : Zaf) (a1 : Int) (a2 : Int) : M Int :=
 slot 74 >>= fun b1 =>
 (if (a0.Nets.len : Int) > 16 then
   pure true
  else
   (if a0.Not = true then
     pure ((a0.Nets.len : Int) == 0)
    else
     pure false) >>= fun y2 =>
   pure y2) >>= fun y3 =>
 if y3 = true then
  pure 163
 else
  ZcI (fun s_ : Int => Zal.L2 a0 a1 a2 s_) 0
theorem Zhe (a0 : Zaf) (a1 : Int) (a2 : Int) : Ref Tryz.prog 34 [ZaA.val a0, .int .i64 a1, .int .i64 a2] (Zal a0 a1 a2) Zal.out := by
 refine J.Fn Tryz.func34 ?_
 unfold Zal
 refine SJ.sr 2 <| J.b 0 ZaA a0 fun b1 => J.z 1 <| SJ.seq <| SJ.sr 14 <| J.k 1 0 rfl Ty71 (Zaw _) <| J.g 3 <| OJ.join (b := decide ((a0.Nets.len : Int) > 16)) [5, 6, 7, 8, 9, 10, 11, 12, 13] [] [1, 2, 3, 24] (fun y3 => [(1, .int .i64 a1), (2, .int .i64 a2), (3, .pointer (some (pt b1 0))), (24, .bool y3)]) [] [] (t := 15) decide_eq_true_iff (fun hp_ => ?_) (fun hp_ => ?_) (fun _ _ _ _ _ _ h_ => h_) fun y3 => ?_
 ·exact J.g 9 <| OJ.nil ⟨(Cov.mem Cov.nil), rfl, _, rfl, by kernel_rfl⟩
 ·refine J.k 1 0 rfl Ty4 (ZaL _) <| J.g 1 <| OJ.join (b := a0.Not) [8, 9, 10, 11, 12] [13] [1, 2, 3, 15, 23] (fun y2 => [(1, .int .i64 a1), (2, .int .i64 a2), (3, .pointer (some (pt b1 0))), (15, .bool false), (23, .bool y2)]) [] [] (t := 18) Iff.rfl (fun hp_ => ?_) (fun hp_ => ?_) (fun _ _ _ _ _ hq_ h_ => ⟨fun e_ he_ => (hq_ e_ he_).elim (fun h => h_.1 e_ h) (fun h => nomatch h), h_.2⟩) fun y2 => ?_
  ·exact J.k 1 0 rfl Ty71 (Zaw _) <| J.g 3 <| OJ.nil ⟨(Cov.mem Cov.nil), rfl, _, rfl, by kernel_rfl⟩
  ·exact J.g 5 <| OJ.nil ⟨(Cov.mem Cov.nil), rfl, _, rfl, by kernel_rfl⟩
  exact J.g 1 <| OJ.nil ⟨(Cov.mem Cov.nil), rfl, _, rfl, by kernel_rfl⟩
 refine J.z 0 <| J.f ?_ ?_
 ·exact SJ.sr 1 <| J.z 1 <| J.r
 exact SJ.skip <| SJ.seq <| SJ.sr 4 <| J.k 1 0 rfl Ty71 (Zaw _) <| J.z 2 <| SJ.block (id := 0) <| J.L (Zal.L2_ok a0 a1 a2 b1)

/-! ### weir/rules.Check: function 13 -/
noncomputable def Za1.B : Code := bod Tryz.f13
noncomputable def Za1.cx : Fx := ⟨Tryz.prog, 13, Tryz.f13, none⟩
noncomputable def Za1.out (r_ : Int) : Value := .int .i64 r_
noncomputable def Za1.K1 (a0 : Zae) (j56 : Bool) : M Int :=
 if j56 = true then
  pure 165
 else
  Zal a0.From a0.Kind a0.Proto >>= fun r57 =>
  if r57 ≠ 0 then
   pure r57
  else
   Zal a0.To a0.Kind a0.Proto >>= fun r58 =>
   pure r58
theorem Za1.K1_ok (a0 : Zae) (b1 : Nat) (j56 : Bool) :
  SJ Za1.cx [.code (c2 (c2 (c2 (c2 (c2 (c1 (c1 (c2 (c2 (c2 Za1.B)))))))))), .inBlock 0, .code (c2 (c2 (c2 (c2 Za1.B))))] [(1, .pointer (some (pt b1 0))), (77, .bool j56)] [(b1, Zak.enc a0)] (Za1.K1 a0 j56) (rt Za1.out) := by
 unfold Za1.K1
 refine J.f ?_ ?_
 ·exact SJ.sr 1 <| J.z 1 <| J.r
 refine SJ.skip <| SJ.inBlock <| SJ.seq <| SJ.sr 8 <| J.k 1 0 rfl Ty74 (ZbU _) <| J.k 1 0 rfl Ty3 (Zb7 _) <| J.k 1 0 rfl Ty3 (ZbE _) <| J.C 0 F34 (Zhe _ _ _) fun r57 => J.z 1 <| SJ.sr 2 <| J.z 2 <| J.f ?_ ?_
 ·exact SJ.sr 2 <| J.z 2 <| J.r
 exact SJ.skip <| SJ.sr 8 <| J.k 1 0 rfl Ty74 (ZbW _) <| J.k 1 0 rfl Ty3 (Zb7 _) <| J.k 1 0 rfl Ty3 (ZbE _) <| J.C 0 F34 (Zhe _ _ _) fun r58 => J.z 1 <| J.r
noncomputable def Za1.K2 (a0 : Zae) (j44 : Bool) : M Int :=
 if j44 = true then
  pure 165
 else
  (if (bor .i64 a0.Set a0.Clear) ≠ 0 then
    pure (a0.Proto != 6)
   else
    pure false) >>= fun y53 =>
  if y53 = true then
   Za1.K1 a0 y53
  else
   (if a0.Type_ ≠ 0 then
     ZeG a0.Proto >>= fun r61 =>
     pure (!r61)
    else
     pure false) >>= fun y62 =>
   Za1.K1 a0 y62
theorem Za1.K2_ok (a0 : Zae) (b1 : Nat) (j44 : Bool) :
  SJ Za1.cx [.code (c2 (c2 (c2 (c1 (c1 (c2 (c2 (c2 Za1.B)))))))), .inBlock 0, .code (c2 (c2 (c2 (c2 Za1.B))))] [(1, .pointer (some (pt b1 0))), (60, .bool j44)] [(b1, Zak.enc a0)] (Za1.K2 a0 j44) (rt Za1.out) := by
 unfold Za1.K2
 refine J.f ?_ ?_
 ·exact SJ.sr 1 <| J.z 1 <| J.r
 refine SJ.seq <| SJ.sr 12 <| J.k 1 0 rfl Ty3 (Zce _) <| J.k 1 0 rfl Ty3 (ZbY _) <| J.j 3 3 .bool ?_ ?_ fun y53 => ?_
 ·exact J.k 1 0 rfl Ty3 (ZbE _) <| J.e 2
 ·exact J.e 4
 refine J.z 1 <| J.f ?_ ?_
 ·exact SJ.skip <| J.q <| Za1.K1_ok a0 b1 y53
 refine SJ.rg 10 <| J.k 1 0 rfl Ty3 (ZcA _) <| J.j 2 4 .bool ?_ ?_ fun y62 => ?_
 ·exact J.k 1 0 rfl Ty3 (ZbE _) <| J.C 0 F33 (Zjz _) fun r61 => J.e 2
 ·exact J.e 5
 exact J.z 1 <| J.q <| Za1.K1_ok a0 b1 y62
noncomputable def Za1 (a0 : Zae) : M Int :=
 slot 76 >>= fun b1 =>
 Zb0 a0.Act 1 3 >>= fun r2 =>
 (if r2 = true then
   Zb0 a0.Class 0 7 >>= fun r3 =>
   pure r3
  else
   pure false) >>= fun y4 =>
 (if y4 = true then
   Zb0 a0.Kind 0 3 >>= fun r5 =>
   pure r5
  else
   pure false) >>= fun y6 =>
 (if y6 = true then
   Zb0 a0.Proto 0 255 >>= fun r7 =>
   pure r7
  else
   pure false) >>= fun y8 =>
 (if y8 = true then
   Zb0 a0.In 0 8 >>= fun r9 =>
   pure r9
  else
   pure false) >>= fun y10 =>
 (if y10 = true then
   Zb0 a0.Vid 0 4094 >>= fun r11 =>
   pure r11
  else
   pure false) >>= fun y12 =>
 (if y12 = true then
   Zb0 a0.Set 0 255 >>= fun r13 =>
   pure r13
  else
   pure false) >>= fun y14 =>
 (if y14 = true then
   Zb0 a0.Clear 0 255 >>= fun r15 =>
   pure r15
  else
   pure false) >>= fun y16 =>
 (if y16 = true then
   Zb0 a0.Type_ 0 256 >>= fun r17 =>
   pure r17
  else
   pure false) >>= fun y18 =>
 (if y18 = true then
   pure ((band .i64 a0.Set a0.Clear) == 0)
  else
   pure false) >>= fun y19 =>
 if ¬ (y19 = true) then
  pure 166
 else
  (if a0.Class ≠ 0 then
    pure (a0.Act != 1)
   else
    pure false) >>= fun y42 =>
  if y42 = true then
   Za1.K2 a0 y42
  else
   (if a0.Proto ≠ 0 then
     pure (a0.Kind == 1)
    else
     pure false) >>= fun y65 =>
   Za1.K2 a0 y65
theorem Zhq (a0 : Zae) : Ref Tryz.prog 13 [Zak.val a0] (Za1 a0) Za1.out := by
 refine J.Fn Tryz.func13 ?_
 unfold Za1
 refine SJ.sr 2 <| J.b 0 Zak a0 fun b1 => J.z 1 <| SJ.sr 24 <| J.k 1 0 rfl Ty3 (Zcq _) <| J.C 0 F32 (Zcn _ _ _) fun r2 => J.j 1 3 .bool ?_ ?_ fun y4 => ?_
 ·exact J.k 1 0 rfl Ty3 (Zdj _) <| J.C 0 F32 (Zcn _ _ _) fun r3 => J.e 1
 ·exact J.e 4
 refine J.j 1 3 .bool ?_ ?_ fun y6 => ?_
 ·exact J.k 1 0 rfl Ty3 (Zb7 _) <| J.C 0 F32 (Zcn _ _ _) fun r5 => J.e 1
 ·exact J.e 4
 refine J.j 1 3 .bool ?_ ?_ fun y8 => ?_
 ·exact J.k 1 0 rfl Ty3 (ZbE _) <| J.C 0 F32 (Zcn _ _ _) fun r7 => J.e 1
 ·exact J.e 4
 refine J.j 1 3 .bool ?_ ?_ fun y10 => ?_
 ·exact J.k 1 0 rfl Ty3 (ZdM _) <| J.C 0 F32 (Zcn _ _ _) fun r9 => J.e 1
 ·exact J.e 4
 refine J.z 1 <| SJ.sr 30 <| J.j 2 3 .bool ?_ ?_ fun y12 => ?_
 ·exact J.k 1 0 rfl Ty3 (Zdt _) <| J.C 0 F32 (Zcn _ _ _) fun r11 => J.e 1
 ·exact J.e 4
 refine J.j 1 3 .bool ?_ ?_ fun y14 => ?_
 ·exact J.k 1 0 rfl Ty3 (Zce _) <| J.C 0 F32 (Zcn _ _ _) fun r13 => J.e 1
 ·exact J.e 4
 refine J.j 1 3 .bool ?_ ?_ fun y16 => ?_
 ·exact J.k 1 0 rfl Ty3 (ZbY _) <| J.C 0 F32 (Zcn _ _ _) fun r15 => J.e 1
 ·exact J.e 4
 refine J.j 1 3 .bool ?_ ?_ fun y18 => ?_
 ·exact J.k 1 0 rfl Ty3 (ZcA _) <| J.C 0 F32 (Zcn _ _ _) fun r17 => J.e 1
 ·exact J.e 4
 refine J.j 1 6 .bool ?_ ?_ fun y19 => ?_
 ·exact J.k 1 0 rfl Ty3 (Zce _) <| J.k 1 0 rfl Ty3 (ZbY _) <| J.e 3
 ·exact J.e 7
 refine J.z 1 <| SJ.seq <| SJ.block (id := 0) <| SJ.sr 3 <| J.z 3 <| J.f ?_ ?_
 ·exact SJ.sr 1 <| J.z 1 <| J.r
 refine SJ.seq <| SJ.sr 9 <| J.k 1 0 rfl Ty3 (Zdj _) <| J.j 2 3 .bool ?_ ?_ fun y42 => ?_
 ·exact J.k 1 0 rfl Ty3 (Zcq _) <| J.e 2
 ·exact J.e 4
 refine J.z 1 <| J.f ?_ ?_
 ·exact SJ.skip <| J.q <| Za1.K2_ok a0 b1 y42
 refine SJ.rg 9 <| J.k 1 0 rfl Ty3 (ZbE _) <| J.j 2 3 .bool ?_ ?_ fun y65 => ?_
 ·exact J.k 1 0 rfl Ty3 (Zb7 _) <| J.e 2
 ·exact J.e 4
 exact J.z 1 <| J.q <| Za1.K2_ok a0 b1 y65

/-! ### slices.Clone[[]weir/api.Prefix,weir/api.Prefix]: function 82 -/
noncomputable def ZaI.out (r_ : Sl) : Value := Sl.v r_
noncomputable def ZaI (a0 : Sl) : M Sl :=
 if a0.a = none then
  pure Sl.nil
 else
  newv 111 (Zav.arr 0) (⟨[], rfl⟩ : Vec Zad 0) >>= fun b1 =>
  appS Zav 111 32 ZbN (⟨some (pt b1 0), 0, 0⟩ : Sl) a0 >>= fun r2 =>
  pure r2
theorem Zbi (a0 : Sl) : Ref Tryz.prog 82 [Sl.v a0] (ZaI a0) ZaI.out := by
 refine J.Fn Tryz.func82 ?_
 unfold ZaI
 refine SJ.sr 1 <| J.z 1 <| SJ.seq <| SJ.sr 2 <| J.z 2 <| J.f ?_ ?_
 ·exact SJ.sr 1 <| J.z 1 <| J.r
 exact SJ.skip <| SJ.sr 4 <| J.N 0 ZcY fun b1 => J.g 1 <| OJ.appS (d := 7) (t := 71) (u := 71) (so := .tmp 5) (xo := .tmp 6) (owed := []) ZcY fun r2 => OW.nil <| J.z 1 <| J.r

/-! ### slices.Clip[[]weir/api.Prefix,weir/api.Prefix]: function 81 -/
noncomputable def ZbZ.out (r_ : Sl) : Value := Sl.v r_
noncomputable def ZbZ (a0 : Sl) : M Sl :=
 cut 18 a0 none (some (a0.len : Int)) (some (a0.len : Int)) >>= fun r1 =>
 pure r1
theorem Zfy (a0 : Sl) : Ref Tryz.prog 81 [Sl.v a0] (ZbZ a0) ZbZ.out := by
 refine J.Fn Tryz.func81 ?_
 unfold ZbZ
 exact SJ.sr 1 <| J.z 1 <| SJ.sr 7 <| J.cs 5 fun r1 => J.z 1 <| J.r

/-! ### slices.Clone[[]weir/api.Range,weir/api.Range]: function 84 -/
noncomputable def Zbm.out (r_ : Sl) : Value := Sl.v r_
noncomputable def Zbm (a0 : Sl) : M Sl :=
 if a0.a = none then
  pure Sl.nil
 else
  newv 113 (Za5.arr 0) (⟨[], rfl⟩ : Vec ZaE 0) >>= fun b1 =>
  appS Za5 113 16 Zgd (⟨some (pt b1 0), 0, 0⟩ : Sl) a0 >>= fun r2 =>
  pure r2
theorem ZdT (a0 : Sl) : Ref Tryz.prog 84 [Sl.v a0] (Zbm a0) Zbm.out := by
 refine J.Fn Tryz.func84 ?_
 unfold Zbm
 refine SJ.sr 1 <| J.z 1 <| SJ.seq <| SJ.sr 2 <| J.z 2 <| J.f ?_ ?_
 ·exact SJ.sr 1 <| J.z 1 <| J.r
 exact SJ.skip <| SJ.sr 4 <| J.N 0 ZgA fun b1 => J.g 1 <| OJ.appS (d := 7) (t := 72) (u := 72) (so := .tmp 5) (xo := .tmp 6) (owed := []) ZgA fun r2 => OW.nil <| J.z 1 <| J.r

/-! ### slices.Clip[[]weir/api.Range,weir/api.Range]: function 83 -/
noncomputable def Zb8.out (r_ : Sl) : Value := Sl.v r_
noncomputable def Zb8 (a0 : Sl) : M Sl :=
 cut 2 a0 none (some (a0.len : Int)) (some (a0.len : Int)) >>= fun r1 =>
 pure r1
theorem ZfP (a0 : Sl) : Ref Tryz.prog 83 [Sl.v a0] (Zb8 a0) Zb8.out := by
 refine J.Fn Tryz.func83 ?_
 unfold Zb8
 exact SJ.sr 1 <| J.z 1 <| SJ.sr 7 <| J.cs 5 fun r1 => J.z 1 <| J.r

/-! ### weir/rules.cloneSide: function 60 -/
noncomputable def Zdq.out (r_ : Zaf) : Value := ZaA.val r_
noncomputable def Zdq (a0 : Zaf) : M Zaf :=
 slot 74 >>= fun b1 =>
 slot 74 >>= fun b2 =>
 draw >>= fun _ =>
 ZaI a0.Nets >>= fun r3 =>
 ZbZ r3 >>= fun r4 =>
 Zbm a0.Ports >>= fun r5 =>
 Zb8 r5 >>= fun r6 =>
 pure (⟨a0.Not, r4, r6⟩ : Zaf)
theorem Zhd (a0 : Zaf) : Ref Tryz.prog 60 [ZaA.val a0] (Zdq a0) Zdq.out := by
 refine J.Fn Tryz.func60 ?_
 unfold Zdq
 exact SJ.sr 2 <| J.b 0 ZaA a0 fun b1 => J.a 0 Ty74 fun b2 => J.z 0 <| SJ.seq <| J.D [0, 1, 4, 5, 2, 3, 6, 7, 8, 9, 10, 11] Zcs <| J.k 1 1 rfl Ty71 (Zaw _) <| J.k 1 1 rfl Ty72 (ZaQ _) <| OJ.call (d := 5) (g := 82) (ats := #[71]) (args := [.tmp 4]) (owed := [⟨5, 72, (pt b1 2), cL.val a0.Ports⟩]) F82 (Zbi a0.Nets) fun r3 => OW.known (j := 1) (q := a0.Ports) Ty72 rfl (ZaQ a0) <| OW.nil <| OJ.call (d := 6) (g := 81) (ats := #[71]) (args := [.tmp 5]) (owed := [⟨5, 72, (pt b1 2), cL.val a0.Ports⟩]) F81 (Zfy r3) fun r4 => OW.known (j := 1) (q := a0.Ports) Ty72 rfl (ZaQ a0) <| OW.nil <| J.C 0 F84 (ZdT _) fun r5 => J.C 0 F83 (ZfP _) fun r6 => J.s 1 1 rfl Ty71 (ZeS _ r4) <| J.s 1 1 rfl Ty72 (Zes _ r6) <| J.z 0 <| SJ.sr 2 <| J.k 0 1 rfl Ty74 (At.whole _) <| J.s 0 0 rfl Ty74 (Upd.w (⟨a0.Not, r4, r6⟩ : Zaf)) <| J.z 0 <| J.rc (.c 0 rfl Ty74 .n)

/-! ### weir/rules.clone: function 35 -/
noncomputable def ZfI.out (r_ : Zae) : Value := Zak.val r_
noncomputable def ZfI (a0 : Zae) : M Zae :=
 slot 76 >>= fun b1 =>
 slot 76 >>= fun b2 =>
 draw >>= fun _ =>
 Zdq a0.From >>= fun r3 =>
 Zdq a0.To >>= fun r4 =>
 pure (⟨a0.Act, a0.Class, a0.Kind, a0.Proto, a0.In, a0.Vid, r3, r4, a0.Set, a0.Clear, a0.Type_, a0.Pieces⟩ : Zae)
theorem Znq (a0 : Zae) : Ref Tryz.prog 35 [Zak.val a0] (ZfI a0) ZfI.out := by
 refine J.Fn Tryz.func35 ?_
 unfold ZfI
 exact SJ.sr 2 <| J.b 0 Zak a0 fun b1 => J.a 0 Ty76 fun b2 => J.z 0 <| SJ.seq <| J.D [0, 1, 3, 4, 2, 5, 6, 7, 8, 9] Zcs <| J.k 1 1 rfl Ty74 (ZbU _) <| J.k 1 1 rfl Ty74 (ZbW _) <| OJ.call (d := 5) (g := 60) (ats := #[74]) (args := [.tmp 4]) (owed := [⟨4, 74, (pt b1 9), ZaA.val a0.To⟩]) F60 (Zhd a0.From) fun r3 => OW.known (j := 1) (q := a0.To) Ty74 rfl (ZbW a0) <| OW.nil <| J.C 0 F60 (Zhd _) fun r4 => J.s 1 1 rfl Ty74 (Zd1 _ r3) <| J.s 1 1 rfl Ty74 (ZeY _ r4) <| J.z 0 <| SJ.sr 2 <| J.k 0 1 rfl Ty76 (At.whole _) <| J.s 0 0 rfl Ty76 (Upd.w (⟨a0.Act, a0.Class, a0.Kind, a0.Proto, a0.In, a0.Vid, r3, r4, a0.Set, a0.Clear, a0.Type_, a0.Pieces⟩ : Zae)) <| J.z 0 <| J.rc (.c 0 rfl Ty76 .n)

/-! ### weir/rules.tests$1: function 61 -/
noncomputable def ZbV.out (r_ : Unit) : Value := .tuple #[]
noncomputable def ZbV (a0 : Bool) (a1 : Any) (a2 : Addr) : M Unit :=
 if a0 = true then
  ld cL a2 >>= fun x4 =>
  slot 93 >>= fun b5 =>
  appl cV 93 16 ⟨.nilIface, rfl⟩ x4 [a1] >>= fun r6 =>
  st cL a2 r6 >>= fun _ =>
  pure ()
 else
  pure ()
theorem Zcb (a0 : Bool) (a1 : Any) (a2 : Addr) : Ref Tryz.prog 61 [.bool a0, a1.v, .pointer (some a2)] (ZbV a0 a1 a2) ZbV.out := by
 refine J.Fn Tryz.func61 ?_
 unfold ZbV
 refine SJ.sr 1 <| J.z 1 <| J.f ?_ ?_
 ·exact SJ.rg 5 <| J.l 0 Ty90 fun x4 => J.S 1 [a1] Ty93 fun b5 => J.p 0 0 rfl Ty93 fun r6 => J.w 0 Ty90 <| J.z 0 <| SJ.end_ rfl (Res.run (ys := []) .nil rfl)
 exact SJ.skip <| SJ.end_ rfl (Res.run (ys := []) .nil rfl)

/-! ### weir/rules.address: function 86 -/
noncomputable def ZeH.out (r_ : (Zba × Bool)) : Value := .tuple #[ZaG.val r_.1, .bool r_.2]
noncomputable def ZeH (a0 : Zac) (a1 : Bool) : M (Zba × Bool) :=
 slot 47 >>= fun b1 =>
 slot 28 >>= fun b2 =>
 slot 28 >>= fun b3 =>
 slot 28 >>= fun b4 =>
 if a0.Kind = 1 then
  draw >>= fun _ =>
  if a1 = true then
   pure (a0.Arp.TIP, true)
  else
   pure (a0.Arp.SIP, true)
 else
  if a0.Kind = 2 then
   draw >>= fun _ =>
   if a1 = true then
    pure (a0.Ip4.Dst, true)
   else
    pure (a0.Ip4.Src, true)
  else
   if a0.Kind = 3 then
    draw >>= fun _ =>
    if a1 = true then
     pure (a0.Ip6.Dst, true)
    else
     pure (a0.Ip6.Src, true)
   else
    pure (Zci, false)
theorem ZlS (a0 : Zac) (a1 : Bool) : Ref Tryz.prog 86 [Zag.val a0, .bool a1] (ZeH a0 a1) ZeH.out := by
 refine J.Fn Tryz.func86 ?_
 unfold ZeH
 refine SJ.sr 3 <| J.b 0 Zag a0 fun b1 => J.a 0 Ty28 fun b2 => J.z 1 <| SJ.sr 2 <| J.a 0 Ty28 fun b3 => J.a 0 Ty28 fun b4 => J.z 0 <| SJ.seq <| SJ.sr 2 <| J.k 1 3 rfl Ty3 (ZbC _) <| J.z 0 <| SJ.block (id := 0) <| SJ.sr 2 <| J.z 2 <| J.f ?_ ?_
 ·refine J.R 8 Zcs <| J.k 2 3 rfl Ty28 (At.trans (ZcV _) (Zgq _)) <| J.k 2 3 rfl Ty28 (At.trans (ZcV _) (Ze1 _)) <| OJ.kst (y := .tmp 6) (z := .tmp 15) (cd := ZaG) (u := a0.Arp.SIP) (j := 1) (b := b3) (o := 0) (ZaG.enc a0.Arp.SIP) (owed := [⟨5, 28, (pt b1 44), ZaG.val a0.Arp.TIP⟩]) Ty28 rfl (Upd.whole ((Cod.len _ _).trans (Cod.len _ _).symm)) rfl <| OW.known (j := 3) (q := a0.Arp.TIP) Ty28 rfl (At.trans (ZcV a0) (Ze1 a0.Arp)) <| OW.nil <| J.s 0 0 rfl Ty28 (Upd.w a0.Arp.TIP) <| J.z 0 <| SJ.inBlock <| SJ.seq <| SJ.sr 1 <| J.z 1 <| J.f ?_ ?_
  ·exact SJ.sr 3 <| J.k 0 0 rfl Ty28 (At.whole _) <| J.s 0 2 rfl Ty28 (Upd.w a0.Arp.TIP) <| J.z 1 <| J.rc (.c 2 rfl Ty28 .n)
  exact SJ.skip <| SJ.sr 3 <| J.k 0 1 rfl Ty28 (At.whole _) <| J.s 0 2 rfl Ty28 (Upd.w a0.Arp.SIP) <| J.z 1 <| J.rc (.c 2 rfl Ty28 .n)
 refine SJ.sr 2 <| J.z 2 <| J.f ?_ ?_
 ·refine J.R 8 Zcs <| J.k 2 3 rfl Ty28 (At.trans (Za4 _) (Zgo _)) <| J.k 2 3 rfl Ty28 (At.trans (Za4 _) (Ze0 _)) <| OJ.kst (y := .tmp 6) (z := .tmp 23) (cd := ZaG) (u := a0.Ip4.Src) (j := 1) (b := b3) (o := 0) (ZaG.enc a0.Ip4.Src) (owed := [⟨5, 28, (pt b1 85), ZaG.val a0.Ip4.Dst⟩]) Ty28 rfl (Upd.whole ((Cod.len _ _).trans (Cod.len _ _).symm)) rfl <| OW.known (j := 3) (q := a0.Ip4.Dst) Ty28 rfl (At.trans (Za4 a0) (Ze0 a0.Ip4)) <| OW.nil <| J.s 0 0 rfl Ty28 (Upd.w a0.Ip4.Dst) <| J.z 0 <| SJ.inBlock <| SJ.seq <| SJ.sr 1 <| J.z 1 <| J.f ?_ ?_
  ·exact SJ.sr 3 <| J.k 0 0 rfl Ty28 (At.whole _) <| J.s 0 2 rfl Ty28 (Upd.w a0.Ip4.Dst) <| J.z 1 <| J.rc (.c 2 rfl Ty28 .n)
  exact SJ.skip <| SJ.sr 3 <| J.k 0 1 rfl Ty28 (At.whole _) <| J.s 0 2 rfl Ty28 (Upd.w a0.Ip4.Src) <| J.z 1 <| J.rc (.c 2 rfl Ty28 .n)
 refine SJ.sr 2 <| J.z 2 <| J.f ?_ ?_
 ·refine J.R 8 Zcs <| J.k 2 3 rfl Ty28 (At.trans (Zbh _) (Zgn _)) <| J.k 2 3 rfl Ty28 (At.trans (Zbh _) (ZeZ _)) <| OJ.kst (y := .tmp 6) (z := .tmp 31) (cd := ZaG) (u := a0.Ip6.Src) (j := 1) (b := b3) (o := 0) (ZaG.enc a0.Ip6.Src) (owed := [⟨5, 28, (pt b1 124), ZaG.val a0.Ip6.Dst⟩]) Ty28 rfl (Upd.whole ((Cod.len _ _).trans (Cod.len _ _).symm)) rfl <| OW.known (j := 3) (q := a0.Ip6.Dst) Ty28 rfl (At.trans (Zbh a0) (ZeZ a0.Ip6)) <| OW.nil <| J.s 0 0 rfl Ty28 (Upd.w a0.Ip6.Dst) <| J.z 0 <| SJ.inBlock <| SJ.seq <| SJ.sr 1 <| J.z 1 <| J.f ?_ ?_
  ·exact SJ.sr 3 <| J.k 0 0 rfl Ty28 (At.whole _) <| J.s 0 2 rfl Ty28 (Upd.w a0.Ip6.Dst) <| J.z 1 <| J.rc (.c 2 rfl Ty28 .n)
  exact SJ.skip <| SJ.sr 3 <| J.k 0 1 rfl Ty28 (At.whole _) <| J.s 0 2 rfl Ty28 (Upd.w a0.Ip6.Src) <| J.z 1 <| J.rc (.c 2 rfl Ty28 .n)
 exact SJ.sr 3 <| J.u 0 Ty28 .nil <| J.s 0 2 rfl Ty28 (Upd.w Zci) <| J.z 1 <| J.rc (.c 2 rfl Ty28 .n)

/-! ### weir/addr.Valid: function 113 -/
noncomputable def ZfO.out (r_ : Bool) : Value := .bool r_
noncomputable def ZfO (a0 : Zba) : M Bool :=
 slot 28 >>= fun b1 =>
 Zf0 a0 >>= fun r2 =>
 pure (decide (r2 > 0))
theorem ZkG (a0 : Zba) : Ref Tryz.prog 113 [ZaG.val a0] (ZfO a0) ZfO.out := by
 refine J.Fn Tryz.func113 ?_
 unfold ZfO
 exact SJ.sr 2 <| J.b 0 ZaG a0 fun b1 => J.z 1 <| SJ.sr 4 <| J.k 0 0 rfl Ty28 (At.whole _) <| J.C 0 F110 (ZiY _) fun r2 => J.z 2 <| J.r

/-! ### weir/addr.Contains: function 89 -/
noncomputable def ZeM.out (r_ : Bool) : Value := .bool r_
noncomputable def ZeM (a0 : Zad) (a1 : Zba) : M Bool :=
 slot 111 >>= fun b1 =>
 slot 28 >>= fun b2 =>
 Zcr a0 >>= fun r3 =>
 (if r3 ≠ 0 then
   pure true
  else
   ZfO a1 >>= fun r4 =>
   pure (!r4)) >>= fun y5 =>
 (if y5 = true then
   pure true
  else
   pure (a0.IP.V != a1.V)) >>= fun y6 =>
 if y6 = true then
  pure false
 else
  draw >>= fun _ =>
  ZbM a1.A a0.Len >>= fun r7 =>
  pure (eqv r7 a0.IP.A)
theorem ZlW (a0 : Zad) (a1 : Zba) : Ref Tryz.prog 89 [Zav.val a0, ZaG.val a1] (ZeM a0 a1) ZeM.out := by
 refine J.Fn Tryz.func89 ?_
 unfold ZeM
 refine SJ.sr 3 <| J.b 0 Zav a0 fun b1 => J.b 0 ZaG a1 fun b2 => J.z 1 <| SJ.seq <| SJ.sr 16 <| J.k 0 1 rfl ZcY (At.whole _) <| J.C 0 F80 (ZeL _) fun r3 => J.j 2 3 .bool ?_ ?_ fun y5 => ?_
 ·exact J.e 4
 ·exact J.k 0 0 rfl Ty28 (At.whole _) <| J.C 0 F113 (ZkG _) fun r4 => J.e 2
 refine J.j 1 6 .bool ?_ ?_ fun y6 => ?_
 ·exact J.e 7
 ·exact J.k 2 1 rfl Ty3 (At.trans (Zbz _) (ZcP _)) <| J.k 1 0 rfl Ty3 (ZcP _) <| J.e 2
 refine J.z 0 <| J.f ?_ ?_
 ·exact SJ.sr 1 <| J.z 1 <| J.r
 exact SJ.skip <| SJ.seq <| J.D [0, 1, 2, 3, 5, 6, 7, 4, 8, 9] Zcs <| J.k 1 0 rfl Ty26 (ZdE _) <| J.k 1 1 rfl Ty3 (ZbS _) <| J.k 2 1 rfl Ty26 (At.trans (Zbz _) (ZdE _)) <| OJ.call (d := 25) (g := 111) (ats := #[26, 3]) (args := [.tmp 22, .tmp 24]) (owed := [⟨7, 26, (pt b1 1), ((cI .u8).arr 16).val a0.IP.A⟩]) F111 (ZjC a1.A a0.Len) fun r7 => OW.known (j := 1) (q := a0.IP.A) Ty26 rfl (At.trans (Zbz a0) (ZdE a0.IP)) <| OW.nil <| OJ.eql (d := 29) (T := 26) (yT := 26) (y := .tmp 25) (z := .tmp 28) (cd := ((cI .u8).arr 16)) (p := r7) (q := a0.IP.A) rfl Eq26 <| J.z 1 <| J.r

/-! ### weir/rules.netsTest$1$1: function 88 -/
noncomputable def Zc5.out (r_ : Bool) : Value := .bool r_
noncomputable def Zc5 (a0 : Zad) (a1 : Addr) : M Bool :=
 slot 111 >>= fun b1 =>
 ld ZaG a1 >>= fun x2 =>
 ZeM a0 x2 >>= fun r3 =>
 pure r3
theorem ZiG (a0 : Zad) (a1 : Addr) : Ref Tryz.prog 88 [Zav.val a0, .pointer (some a1)] (Zc5 a0 a1) Zc5.out := by
 refine J.Fn Tryz.func88 ?_
 unfold Zc5
 exact SJ.sr 2 <| J.b 0 Zav a0 fun b1 => J.z 1 <| SJ.sr 4 <| J.k 0 0 rfl ZcY (At.whole _) <| J.l 0 Ty28 fun x2 => J.C 0 F89 (ZlW _ _) fun r3 => J.z 1 <| J.r

/-! ### slices.IndexFunc[[]weir/api.Prefix,weir/api.Prefix]: function 112 -/
noncomputable def Zaj.B : Code := bod Tryz.f112
noncomputable def Zaj.cx : Fx := ⟨Tryz.prog, 112, Tryz.f112, none⟩
noncomputable def Zaj.out (r_ : Int) : Value := .int .i64 r_
noncomputable def Zaj.F1 (a0 : Sl) (a1v : Any) : LF Int Int := ⟨[.inBlock 0, .code (c2 (c2 Zaj.B))], c1 (c2 (c1 (c2 Zaj.B))), fun s_ => [(0, Sl.v a0), (1, a1v.v), (7, .int .i64 (a0.len : Int)), (8, .int .i64 s_)], fun s_ => [], (rt Zaj.out)⟩
noncomputable def Zaj.L1 (a0 : Sl) (a1 : Zad → M Bool) (s1 : Int) : M (LS Int Int) :=
 if s1 < (a0.len : Int) then
  idx a0.a a0.len s1 18 >>= fun p7 =>
  ld Zav p7 >>= fun x8 =>
  a1 x8 >>= fun r9 =>
  if r9 = true then
   pure (LS.done s1)
  else
   pure (LS.next (IntKind.wrap .i64 (s1 + 1)))
 else
  pure (LS.done (-1))
theorem Zaj.L1_ok (a0 : Sl) (a1v : Any) (a1 : Zad → M Bool) (h_a1 : ∀ (x0_ : Zad), RefV Tryz.prog a1v.v [Zav.val x0_] (a1 x0_) (fun r_ : Bool => .bool r_)) : LJ Zaj.cx (Zaj.F1 a0 a1v) (fun s_ => Zaj.L1 a0 a1 s_) := by
 rintro s1
 show SJ _ _ _ _ (Zaj.L1 a0 a1 s1) _
 unfold Zaj.L1
 refine SJ.sr 1 <| J.z 1 <| SJ.seq <| J.f ?_ ?_
 ·refine SJ.skip <| SJ.seq <| SJ.block (id := 1) <| SJ.sr 2 <| J.z 2 <| SJ.sr 6 <| J.i 3 fun p7 => J.l 0 ZcY fun x8 => J.v 0 (h_a1 x8) fun r9 => J.z 0 <| J.f ?_ ?_
  ·exact SJ.sr 2 <| J.z 2 <| J.r
  exact SJ.skip <| SJ.inBlock <| SJ.rg 2 <| J.z 2 <| J.o rfl
 exact SJ.exit (id := 0) (by rfl) <| SJ.sr 1 <| J.z 1 <| J.r
noncomputable def Zaj (a0 : Sl) (a1 : Zad → M Bool) : M Int :=
 ZcI (fun s_ : Int => Zaj.L1 a0 a1 s_) 0
theorem Ze3 (a0 : Sl) (a1v : Any) (a1 : Zad → M Bool) (h_a1 : ∀ (x0_ : Zad), RefV Tryz.prog a1v.v [Zav.val x0_] (a1 x0_) (fun r_ : Bool => .bool r_)) : Ref Tryz.prog 112 [Sl.v a0, a1v.v] (Zaj a0 a1) Zaj.out := by
 refine J.Fn Tryz.func112 ?_
 unfold Zaj
 exact SJ.sr 1 <| J.z 1 <| SJ.seq <| SJ.sr 3 <| J.z 3 <| SJ.block (id := 0) <| J.L (Zaj.L1_ok a0 a1v a1 h_a1)

/-! ### slices.ContainsFunc[[]weir/api.Prefix,weir/api.Prefix]: function 87 -/
noncomputable def Zbl.out (r_ : Bool) : Value := .bool r_
noncomputable def Zbl (a0 : Sl) (a1 : Zad → M Bool) : M Bool :=
 Zaj a0 a1 >>= fun r1 =>
 pure (decide (r1 ≥ 0))
theorem Zex (a0 : Sl) (a1v : Any) (a1 : Zad → M Bool) (h_a1 : ∀ (x0_ : Zad), RefV Tryz.prog a1v.v [Zav.val x0_] (a1 x0_) (fun r_ : Bool => .bool r_)) : Ref Tryz.prog 87 [Sl.v a0, a1v.v] (Zbl a0 a1) Zbl.out := by
 refine J.Fn Tryz.func87 ?_
 unfold Zbl
 exact SJ.sr 1 <| J.z 1 <| SJ.sr 5 <| J.C 2 F112 (Ze3 a0 a1v a1 h_a1) fun r1 => J.z 2 <| J.r

/-! ### weir/rules.netsTest$1: function 85 -/
noncomputable def Zda.out (r_ : Bool) : Value := .bool r_
noncomputable def Zda (a0 : Zac) (a1 : Addr) (a2 : Addr) (a3 : Addr) : M Bool :=
 slot 47 >>= fun b1 =>
 ld cB a1 >>= fun x2 =>
 ZeH a0 x2 >>= fun r3 =>
 newv 28 ZaG Zci >>= fun b4 =>
 st ZaG (pt b4 0) r3.1 >>= fun _ =>
 ld cL a2 >>= fun x5 =>
 Zbl x5 (fun (q6 : Zad) => Zc5 q6 (pt b4 0)) >>= fun r7 =>
 (if r3.2 = true then
   ld cB a3 >>= fun x8 =>
   pure (!(r7 == x8))
  else
   pure false) >>= fun y9 =>
 pure y9
theorem ZjW (a0 : Zac) (a1 : Addr) (a2 : Addr) (a3 : Addr) : Ref Tryz.prog 85 [Zag.val a0, .pointer (some a1), .pointer (some a2), .pointer (some a3)] (Zda a0 a1 a2 a3) Zda.out := by
 refine J.Fn Tryz.func85 ?_
 unfold Zda
 refine SJ.sr 2 <| J.b 0 Zag a0 fun b1 => J.z 1 <| SJ.sr 9 <| J.k 0 0 rfl Ty47 (At.whole _) <| J.l 0 Ty4 fun x2 => J.C 0 F86 (ZlS _ _) fun r3 => J.A 3 Ty28 fun b4 => J.w 0 Ty28 <| J.z 1 <| SJ.sr 4 <| J.l 0 Ty71 fun x5 => J.C 1 F87 (Zex x5 ⟨.func (.func 88) #[] #[.pointer (some (pt b4 0))], rfl⟩ (fun (q6 : Zad) => Zc5 q6 (pt b4 0)) (fun q6 => RefV.of (first := []) (cap := [.pointer (some (pt b4 0))]) F88 (ZiG q6 (pt b4 0)))) fun r7 => J.z 1 <| SJ.sr 7 <| J.j 2 3 .bool ?_ ?_ fun y9 => ?_
 ·exact J.l 1 Ty4 fun x8 => J.e 2
 ·exact J.e 4
 exact J.z 1 <| J.r

/-! ### weir/rules.netsTest: function 62 -/
noncomputable def Za0.B : Code := bod Tryz.f62
noncomputable def Za0.cx : Fx := ⟨Tryz.prog, 62, Tryz.f62, none⟩
noncomputable def Za0.out (r_ : Any) : Value := r_.v
noncomputable def Za0.K1 (b2 : Nat) (j27 : Addr) (j28 : Addr) : M Any :=
 pure (⟨.func (.func 85) #[] #[.pointer (some (pt b2 0)), .pointer (some j27), .pointer (some j28)], rfl⟩ : Any)
theorem Za0.K1_ok (b2 : Nat) (j27 : Addr) (j28 : Addr) :
  SJ Za0.cx [.code (c2 (c2 Za0.B))] [(3, .pointer (some (pt b2 0))), (5, .pointer (some j27)), (6, .pointer (some j28))] [] (Za0.K1 b2 j27 j28) (rt Za0.out) := by
 unfold Za0.K1
 exact SJ.sr 2 <| J.z 2 <| J.r
noncomputable def Za0 (a0 : Zaf) (a1 : Bool) : M Any :=
 slot 74 >>= fun b1 =>
 newv 4 cB a1 >>= fun b2 =>
 draws 62 1 (ZfQ (c1 (c2 Za0.B))) >>= fun o3 =>
 if bfr o3 2 5 = true then
  if bfr o3 2 6 = true then
   if bfr o3 5 6 = true then
    ZaI a0.Nets >>= fun r32 =>
    newv 71 cL Sl.nil >>= fun b33 =>
    newv 4 cB false >>= fun b34 =>
    st cL (pt b33 0) r32 >>= fun _ =>
    st cB (pt b34 0) a0.Not >>= fun _ =>
    Za0.K1 b2 (pt b33 0) (pt b34 0)
   else
    ZaI a0.Nets >>= fun r35 =>
    newv 4 cB false >>= fun b36 =>
    newv 71 cL Sl.nil >>= fun b37 =>
    st cL (pt b37 0) r35 >>= fun _ =>
    st cB (pt b36 0) a0.Not >>= fun _ =>
    Za0.K1 b2 (pt b37 0) (pt b36 0)
  else
   newv 4 cB false >>= fun b38 =>
   ZaI a0.Nets >>= fun r39 =>
   newv 71 cL Sl.nil >>= fun b40 =>
   st cL (pt b40 0) r39 >>= fun _ =>
   st cB (pt b38 0) a0.Not >>= fun _ =>
   Za0.K1 b2 (pt b40 0) (pt b38 0)
 else
  if bfr o3 5 6 = true then
   if bfr o3 2 6 = true then
    newv 71 cL Sl.nil >>= fun b43 =>
    ZaI a0.Nets >>= fun r44 =>
    newv 4 cB false >>= fun b45 =>
    st cL (pt b43 0) r44 >>= fun _ =>
    st cB (pt b45 0) a0.Not >>= fun _ =>
    Za0.K1 b2 (pt b43 0) (pt b45 0)
   else
    newv 71 cL Sl.nil >>= fun b46 =>
    newv 4 cB false >>= fun b47 =>
    ZaI a0.Nets >>= fun r48 =>
    st cL (pt b46 0) r48 >>= fun _ =>
    st cB (pt b47 0) a0.Not >>= fun _ =>
    Za0.K1 b2 (pt b46 0) (pt b47 0)
  else
   newv 4 cB false >>= fun b49 =>
   newv 71 cL Sl.nil >>= fun b50 =>
   ZaI a0.Nets >>= fun r51 =>
   st cL (pt b50 0) r51 >>= fun _ =>
   st cB (pt b49 0) a0.Not >>= fun _ =>
   Za0.K1 b2 (pt b50 0) (pt b49 0)
theorem ZhF (a0 : Zaf) (a1 : Bool) : Ref Tryz.prog 62 [ZaA.val a0, .bool a1] (Za0 a0 a1) Za0.out := by
 refine J.Fn Tryz.func62 ?_
 unfold Za0
 refine SJ.sr 3 <| J.b 0 ZaA a0 fun b1 => J.B 0 fun b2 => J.z 1 <| SJ.seq <| SJ.draws (id := 1) (kd := [0, 1, 2, 0, 1, 2, 2, 2, 2]) (bef := [0, 1, 3, 0, 8, 0, 0, 103, 255]) (ord := [0, 1, 3, 4, 2, 5, 6, 7, 8]) (E := [(2, 5), (2, 6), (5, 6)]) Zcs fun o3 hg_ => SJ.bfr hg_ (by decide) (fun ho29 => ?_) fun ho29 => ?_
 ·refine SJ.bfr hg_ (by decide) (fun ho30 => ?_) fun ho30 => ?_
  ·refine SJ.bfr hg_ (by decide) (fun ho31 => ?_) fun ho31 => ?_
   ·exact SJ.leaf hg_ (kd := [0, 1, 2, 0, 1, 2, 2, 2, 2]) (bef := [0, 1, 3, 0, 8, 0, 0, 103, 255]) (ord := [0, 1, 3, 4, 2, 5, 6, 7, 8]) (E := [(2, 5), (2, 6), (5, 6)]) (allB.cons ho29 (allB.cons ho30 (allB.cons ho31 allB.nil))) <| J.k 1 0 rfl Ty71 (Zaw _) <| J.k 1 0 rfl Ty4 (ZaL _) <| OJ.call (d := 9) (g := 82) (ats := #[71]) (args := [.tmp 8]) (owed := [⟨4, 4, (pt b1 0), cB.val a0.Not⟩]) F82 (Zbi a0.Nets) fun r32 => OW.known (j := 0) (q := a0.Not) Ty4 rfl (ZaL a0) <| OW.nil <| OJ.newOf (d := 5) (op := (.alloc 71)) (cd := cL) (u := Sl.nil) (owed := [⟨4, 4, (pt b1 0), cB.val a0.Not⟩, ⟨1, 71, (pt b1 1), cL.val a0.Nets⟩]) (Zea Ty71) fun b33 => OW.known (j := 0) (q := a0.Not) Ty4 rfl (ZaL a0) <| OW.known (j := 0) (q := a0.Nets) Ty71 rfl (Zaw a0) <| OW.nil <| OJ.newOf (d := 6) (op := (.alloc 4)) (cd := cB) (u := false) (owed := [⟨4, 4, (pt b1 0), cB.val a0.Not⟩, ⟨1, 71, (pt b1 1), cL.val a0.Nets⟩]) (Zea Ty4) fun b34 => OW.known (j := 0) (q := a0.Not) Ty4 rfl (ZaL a0) <| OW.known (j := 0) (q := a0.Nets) Ty71 rfl (Zaw a0) <| OW.nil <| OJ.st (y := .tmp 5) (z := .tmp 9) (owed := [⟨4, 4, (pt b1 0), cB.val a0.Not⟩]) Ty71 <| OW.known (j := 0) (q := a0.Not) Ty4 rfl (ZaL a0) <| OW.nil <| J.w 0 Ty4 <| J.z 0 <| SJ.forget (List.Sublist.cons _ List.Sublist.slnil) <| J.q <| Za0.K1_ok b2 (pt b33 0) (pt b34 0)
   exact SJ.leaf hg_ (kd := [0, 1, 2, 0, 1, 2, 2, 2, 2]) (bef := [0, 1, 3, 0, 8, 0, 0, 103, 255]) (ord := [0, 1, 3, 4, 2, 6, 5, 7, 8]) (E := [(2, 6), (2, 5), (6, 5)]) (allB.cons ho30 (allB.cons ho29 (allB.cons ho31 allB.nil))) <| J.k 1 0 rfl Ty71 (Zaw _) <| J.k 1 0 rfl Ty4 (ZaL _) <| OJ.call (d := 9) (g := 82) (ats := #[71]) (args := [.tmp 8]) (owed := [⟨4, 4, (pt b1 0), cB.val a0.Not⟩]) F82 (Zbi a0.Nets) fun r35 => OW.known (j := 0) (q := a0.Not) Ty4 rfl (ZaL a0) <| OW.nil <| OJ.newOf (d := 6) (op := (.alloc 4)) (cd := cB) (u := false) (owed := [⟨4, 4, (pt b1 0), cB.val a0.Not⟩, ⟨1, 71, (pt b1 1), cL.val a0.Nets⟩]) (Zea Ty4) fun b36 => OW.known (j := 0) (q := a0.Not) Ty4 rfl (ZaL a0) <| OW.known (j := 0) (q := a0.Nets) Ty71 rfl (Zaw a0) <| OW.nil <| OJ.newOf (d := 5) (op := (.alloc 71)) (cd := cL) (u := Sl.nil) (owed := [⟨4, 4, (pt b1 0), cB.val a0.Not⟩, ⟨1, 71, (pt b1 1), cL.val a0.Nets⟩]) (Zea Ty71) fun b37 => OW.known (j := 0) (q := a0.Not) Ty4 rfl (ZaL a0) <| OW.known (j := 0) (q := a0.Nets) Ty71 rfl (Zaw a0) <| OW.nil <| OJ.st (y := .tmp 5) (z := .tmp 9) (owed := [⟨4, 4, (pt b1 0), cB.val a0.Not⟩]) Ty71 <| OW.known (j := 0) (q := a0.Not) Ty4 rfl (ZaL a0) <| OW.nil <| J.w 0 Ty4 <| J.z 0 <| SJ.forget (List.Sublist.cons _ List.Sublist.slnil) <| J.q <| Za0.K1_ok b2 (pt b37 0) (pt b36 0)
  exact SJ.leaf hg_ (kd := [0, 1, 2, 0, 1, 2, 2, 2, 2]) (bef := [0, 1, 3, 0, 8, 0, 0, 103, 255]) (ord := [0, 1, 3, 4, 6, 2, 5, 7, 8]) (E := [(6, 2), (6, 5), (2, 5)]) (allB.cons ho30 (allB.cons (Zm2 ho30 ho29) (allB.cons ho29 allB.nil))) <| J.k 1 0 rfl Ty71 (Zaw _) <| J.k 1 0 rfl Ty4 (ZaL _) <| OJ.newOf (d := 6) (op := (.alloc 4)) (cd := cB) (u := false) (owed := [⟨4, 4, (pt b1 0), cB.val a0.Not⟩, ⟨1, 71, (pt b1 1), cL.val a0.Nets⟩]) (Zea Ty4) fun b38 => OW.known (j := 0) (q := a0.Not) Ty4 rfl (ZaL a0) <| OW.known (j := 0) (q := a0.Nets) Ty71 rfl (Zaw a0) <| OW.nil <| OJ.call (d := 9) (g := 82) (ats := #[71]) (args := [.tmp 8]) (owed := [⟨4, 4, (pt b1 0), cB.val a0.Not⟩]) F82 (Zbi a0.Nets) fun r39 => OW.known (j := 0) (q := a0.Not) Ty4 rfl (ZaL a0) <| OW.nil <| OJ.newOf (d := 5) (op := (.alloc 71)) (cd := cL) (u := Sl.nil) (owed := [⟨4, 4, (pt b1 0), cB.val a0.Not⟩, ⟨1, 71, (pt b1 1), cL.val a0.Nets⟩]) (Zea Ty71) fun b40 => OW.known (j := 0) (q := a0.Not) Ty4 rfl (ZaL a0) <| OW.known (j := 0) (q := a0.Nets) Ty71 rfl (Zaw a0) <| OW.nil <| OJ.st (y := .tmp 5) (z := .tmp 9) (owed := [⟨4, 4, (pt b1 0), cB.val a0.Not⟩]) Ty71 <| OW.known (j := 0) (q := a0.Not) Ty4 rfl (ZaL a0) <| OW.nil <| J.w 0 Ty4 <| J.z 0 <| SJ.forget (List.Sublist.cons _ List.Sublist.slnil) <| J.q <| Za0.K1_ok b2 (pt b40 0) (pt b38 0)
 refine SJ.bfr hg_ (by decide) (fun ho41 => ?_) fun ho41 => ?_
 ·refine SJ.bfr hg_ (by decide) (fun ho42 => ?_) fun ho42 => ?_
  ·exact SJ.leaf hg_ (kd := [0, 1, 2, 0, 1, 2, 2, 2, 2]) (bef := [0, 1, 3, 0, 8, 0, 0, 103, 255]) (ord := [0, 1, 3, 4, 5, 2, 6, 7, 8]) (E := [(5, 2), (5, 6), (2, 6)]) (allB.cons ho29 (allB.cons ho41 (allB.cons ho42 allB.nil))) <| J.k 1 0 rfl Ty71 (Zaw _) <| J.k 1 0 rfl Ty4 (ZaL _) <| OJ.newOf (d := 5) (op := (.alloc 71)) (cd := cL) (u := Sl.nil) (owed := [⟨4, 4, (pt b1 0), cB.val a0.Not⟩, ⟨1, 71, (pt b1 1), cL.val a0.Nets⟩]) (Zea Ty71) fun b43 => OW.known (j := 0) (q := a0.Not) Ty4 rfl (ZaL a0) <| OW.known (j := 0) (q := a0.Nets) Ty71 rfl (Zaw a0) <| OW.nil <| OJ.call (d := 9) (g := 82) (ats := #[71]) (args := [.tmp 8]) (owed := [⟨4, 4, (pt b1 0), cB.val a0.Not⟩]) F82 (Zbi a0.Nets) fun r44 => OW.known (j := 0) (q := a0.Not) Ty4 rfl (ZaL a0) <| OW.nil <| OJ.newOf (d := 6) (op := (.alloc 4)) (cd := cB) (u := false) (owed := [⟨4, 4, (pt b1 0), cB.val a0.Not⟩, ⟨1, 71, (pt b1 1), cL.val a0.Nets⟩]) (Zea Ty4) fun b45 => OW.known (j := 0) (q := a0.Not) Ty4 rfl (ZaL a0) <| OW.known (j := 0) (q := a0.Nets) Ty71 rfl (Zaw a0) <| OW.nil <| OJ.st (y := .tmp 5) (z := .tmp 9) (owed := [⟨4, 4, (pt b1 0), cB.val a0.Not⟩]) Ty71 <| OW.known (j := 0) (q := a0.Not) Ty4 rfl (ZaL a0) <| OW.nil <| J.w 0 Ty4 <| J.z 0 <| SJ.forget (List.Sublist.cons _ List.Sublist.slnil) <| J.q <| Za0.K1_ok b2 (pt b43 0) (pt b45 0)
  exact SJ.leaf hg_ (kd := [0, 1, 2, 0, 1, 2, 2, 2, 2]) (bef := [0, 1, 3, 0, 8, 0, 0, 103, 255]) (ord := [0, 1, 3, 4, 5, 6, 2, 7, 8]) (E := [(5, 6), (5, 2), (6, 2)]) (allB.cons ho41 (allB.cons ho29 (allB.cons ho42 allB.nil))) <| J.k 1 0 rfl Ty71 (Zaw _) <| J.k 1 0 rfl Ty4 (ZaL _) <| OJ.newOf (d := 5) (op := (.alloc 71)) (cd := cL) (u := Sl.nil) (owed := [⟨4, 4, (pt b1 0), cB.val a0.Not⟩, ⟨1, 71, (pt b1 1), cL.val a0.Nets⟩]) (Zea Ty71) fun b46 => OW.known (j := 0) (q := a0.Not) Ty4 rfl (ZaL a0) <| OW.known (j := 0) (q := a0.Nets) Ty71 rfl (Zaw a0) <| OW.nil <| OJ.newOf (d := 6) (op := (.alloc 4)) (cd := cB) (u := false) (owed := [⟨4, 4, (pt b1 0), cB.val a0.Not⟩, ⟨1, 71, (pt b1 1), cL.val a0.Nets⟩]) (Zea Ty4) fun b47 => OW.known (j := 0) (q := a0.Not) Ty4 rfl (ZaL a0) <| OW.known (j := 0) (q := a0.Nets) Ty71 rfl (Zaw a0) <| OW.nil <| OJ.call (d := 9) (g := 82) (ats := #[71]) (args := [.tmp 8]) (owed := [⟨4, 4, (pt b1 0), cB.val a0.Not⟩]) F82 (Zbi a0.Nets) fun r48 => OW.known (j := 0) (q := a0.Not) Ty4 rfl (ZaL a0) <| OW.nil <| OJ.st (y := .tmp 5) (z := .tmp 9) (owed := [⟨4, 4, (pt b1 0), cB.val a0.Not⟩]) Ty71 <| OW.known (j := 0) (q := a0.Not) Ty4 rfl (ZaL a0) <| OW.nil <| J.w 0 Ty4 <| J.z 0 <| SJ.forget (List.Sublist.cons _ List.Sublist.slnil) <| J.q <| Za0.K1_ok b2 (pt b46 0) (pt b47 0)
 exact SJ.leaf hg_ (kd := [0, 1, 2, 0, 1, 2, 2, 2, 2]) (bef := [0, 1, 3, 0, 8, 0, 0, 103, 255]) (ord := [0, 1, 3, 4, 6, 5, 2, 7, 8]) (E := [(6, 5), (6, 2), (5, 2)]) (allB.cons ho41 (allB.cons (Zm2 ho41 ho29) (allB.cons ho29 allB.nil))) <| J.k 1 0 rfl Ty71 (Zaw _) <| J.k 1 0 rfl Ty4 (ZaL _) <| OJ.newOf (d := 6) (op := (.alloc 4)) (cd := cB) (u := false) (owed := [⟨4, 4, (pt b1 0), cB.val a0.Not⟩, ⟨1, 71, (pt b1 1), cL.val a0.Nets⟩]) (Zea Ty4) fun b49 => OW.known (j := 0) (q := a0.Not) Ty4 rfl (ZaL a0) <| OW.known (j := 0) (q := a0.Nets) Ty71 rfl (Zaw a0) <| OW.nil <| OJ.newOf (d := 5) (op := (.alloc 71)) (cd := cL) (u := Sl.nil) (owed := [⟨4, 4, (pt b1 0), cB.val a0.Not⟩, ⟨1, 71, (pt b1 1), cL.val a0.Nets⟩]) (Zea Ty71) fun b50 => OW.known (j := 0) (q := a0.Not) Ty4 rfl (ZaL a0) <| OW.known (j := 0) (q := a0.Nets) Ty71 rfl (Zaw a0) <| OW.nil <| OJ.call (d := 9) (g := 82) (ats := #[71]) (args := [.tmp 8]) (owed := [⟨4, 4, (pt b1 0), cB.val a0.Not⟩]) F82 (Zbi a0.Nets) fun r51 => OW.known (j := 0) (q := a0.Not) Ty4 rfl (ZaL a0) <| OW.nil <| OJ.st (y := .tmp 5) (z := .tmp 9) (owed := [⟨4, 4, (pt b1 0), cB.val a0.Not⟩]) Ty71 <| OW.known (j := 0) (q := a0.Not) Ty4 rfl (ZaL a0) <| OW.nil <| J.w 0 Ty4 <| J.z 0 <| SJ.forget (List.Sublist.cons _ List.Sublist.slnil) <| J.q <| Za0.K1_ok b2 (pt b50 0) (pt b49 0)

/-! ### weir/rules.portOf: function 91 -/
noncomputable def Zfc.out (r_ : (Int × Bool)) : Value := .tuple #[.int .i64 r_.1, .bool r_.2]
noncomputable def Zfc (a0 : Zac) (a1 : Bool) : M (Int × Bool) :=
 slot 47 >>= fun b1 =>
 if a0.L4 = 2 then
  draw >>= fun _ =>
  if a1 = true then
   pure (a0.Udp.Dport, true)
  else
   pure (a0.Udp.Sport, true)
 else
  if a0.L4 = 3 then
   draw >>= fun _ =>
   if a1 = true then
    pure (a0.Tcp.Dport, true)
   else
    pure (a0.Tcp.Sport, true)
  else
   pure (0, false)
theorem Zms (a0 : Zac) (a1 : Bool) : Ref Tryz.prog 91 [Zag.val a0, .bool a1] (Zfc a0 a1) Zfc.out := by
 refine J.Fn Tryz.func91 ?_
 unfold Zfc
 refine SJ.sr 3 <| J.b 0 Zag a0 fun b1 => J.z 2 <| SJ.sr 2 <| J.z 2 <| SJ.seq <| SJ.sr 2 <| J.k 1 0 rfl Ty3 (Zdb _) <| J.z 0 <| SJ.block (id := 0) <| SJ.sr 2 <| J.z 2 <| J.f ?_ ?_
 ·refine J.R 8 Zcs <| J.k 2 0 rfl Ty3 (At.trans (ZcU _) (ZfC _)) <| J.k 2 0 rfl Ty3 (At.trans (ZcU _) (ZfD _)) <| J.z 2 <| SJ.inBlock <| SJ.seq <| SJ.sr 1 <| J.z 1 <| J.f ?_ ?_
  ·exact SJ.sr 3 <| J.z 3 <| J.r
  exact SJ.skip <| SJ.sr 3 <| J.z 3 <| J.r
 refine SJ.sr 2 <| J.z 2 <| J.f ?_ ?_
 ·refine J.R 8 Zcs <| J.k 2 0 rfl Ty3 (At.trans (ZbT _) (ZfE _)) <| J.k 2 0 rfl Ty3 (At.trans (ZbT _) (ZfF _)) <| J.z 2 <| SJ.inBlock <| SJ.seq <| SJ.sr 1 <| J.z 1 <| J.f ?_ ?_
  ·exact SJ.sr 3 <| J.z 3 <| J.r
  exact SJ.skip <| SJ.sr 3 <| J.z 3 <| J.r
 exact SJ.sr 2 <| J.z 2 <| J.r

/-! ### weir/rules.portsTest$1$1: function 93 -/
noncomputable def ZcO.out (r_ : Bool) : Value := .bool r_
noncomputable def ZcO (a0 : ZaE) (a1 : Addr) : M Bool :=
 slot 113 >>= fun b1 =>
 ld (cI .i64) a1 >>= fun x2 =>
 Zb0 x2 a0.Lo a0.Hi >>= fun r3 =>
 pure r3
theorem Ziv (a0 : ZaE) (a1 : Addr) : Ref Tryz.prog 93 [Za5.val a0, .pointer (some a1)] (ZcO a0 a1) ZcO.out := by
 refine J.Fn Tryz.func93 ?_
 unfold ZcO
 exact SJ.sr 2 <| J.b 0 Za5 a0 fun b1 => J.z 1 <| SJ.sr 7 <| J.l 0 Ty3 fun x2 => J.k 1 0 rfl Ty3 (Zdu _) <| J.k 1 0 rfl Ty3 (ZdW _) <| J.C 0 F32 (Zcn _ _ _) fun r3 => J.z 1 <| J.r

/-! ### slices.IndexFunc[[]weir/api.Range,weir/api.Range]: function 114 -/
noncomputable def Zao.B : Code := bod Tryz.f114
noncomputable def Zao.cx : Fx := ⟨Tryz.prog, 114, Tryz.f114, none⟩
noncomputable def Zao.out (r_ : Int) : Value := .int .i64 r_
noncomputable def Zao.F1 (a0 : Sl) (a1v : Any) : LF Int Int := ⟨[.inBlock 0, .code (c2 (c2 Zao.B))], c1 (c2 (c1 (c2 Zao.B))), fun s_ => [(0, Sl.v a0), (1, a1v.v), (7, .int .i64 (a0.len : Int)), (8, .int .i64 s_)], fun s_ => [], (rt Zao.out)⟩
noncomputable def Zao.L1 (a0 : Sl) (a1 : ZaE → M Bool) (s1 : Int) : M (LS Int Int) :=
 if s1 < (a0.len : Int) then
  idx a0.a a0.len s1 2 >>= fun p7 =>
  ld Za5 p7 >>= fun x8 =>
  a1 x8 >>= fun r9 =>
  if r9 = true then
   pure (LS.done s1)
  else
   pure (LS.next (IntKind.wrap .i64 (s1 + 1)))
 else
  pure (LS.done (-1))
theorem Zao.L1_ok (a0 : Sl) (a1v : Any) (a1 : ZaE → M Bool) (h_a1 : ∀ (x0_ : ZaE), RefV Tryz.prog a1v.v [Za5.val x0_] (a1 x0_) (fun r_ : Bool => .bool r_)) : LJ Zao.cx (Zao.F1 a0 a1v) (fun s_ => Zao.L1 a0 a1 s_) := by
 rintro s1
 show SJ _ _ _ _ (Zao.L1 a0 a1 s1) _
 unfold Zao.L1
 refine SJ.sr 1 <| J.z 1 <| SJ.seq <| J.f ?_ ?_
 ·refine SJ.skip <| SJ.seq <| SJ.block (id := 1) <| SJ.sr 2 <| J.z 2 <| SJ.sr 6 <| J.i 3 fun p7 => J.l 0 ZgA fun x8 => J.v 0 (h_a1 x8) fun r9 => J.z 0 <| J.f ?_ ?_
  ·exact SJ.sr 2 <| J.z 2 <| J.r
  exact SJ.skip <| SJ.inBlock <| SJ.rg 2 <| J.z 2 <| J.o rfl
 exact SJ.exit (id := 0) (by rfl) <| SJ.sr 1 <| J.z 1 <| J.r
noncomputable def Zao (a0 : Sl) (a1 : ZaE → M Bool) : M Int :=
 ZcI (fun s_ : Int => Zao.L1 a0 a1 s_) 0
theorem Zfb (a0 : Sl) (a1v : Any) (a1 : ZaE → M Bool) (h_a1 : ∀ (x0_ : ZaE), RefV Tryz.prog a1v.v [Za5.val x0_] (a1 x0_) (fun r_ : Bool => .bool r_)) : Ref Tryz.prog 114 [Sl.v a0, a1v.v] (Zao a0 a1) Zao.out := by
 refine J.Fn Tryz.func114 ?_
 unfold Zao
 exact SJ.sr 1 <| J.z 1 <| SJ.seq <| SJ.sr 3 <| J.z 3 <| SJ.block (id := 0) <| J.L (Zao.L1_ok a0 a1v a1 h_a1)

/-! ### slices.ContainsFunc[[]weir/api.Range,weir/api.Range]: function 92 -/
noncomputable def Zbq.out (r_ : Bool) : Value := .bool r_
noncomputable def Zbq (a0 : Sl) (a1 : ZaE → M Bool) : M Bool :=
 Zao a0 a1 >>= fun r1 =>
 pure (decide (r1 ≥ 0))
theorem ZeQ (a0 : Sl) (a1v : Any) (a1 : ZaE → M Bool) (h_a1 : ∀ (x0_ : ZaE), RefV Tryz.prog a1v.v [Za5.val x0_] (a1 x0_) (fun r_ : Bool => .bool r_)) : Ref Tryz.prog 92 [Sl.v a0, a1v.v] (Zbq a0 a1) Zbq.out := by
 refine J.Fn Tryz.func92 ?_
 unfold Zbq
 exact SJ.sr 1 <| J.z 1 <| SJ.sr 5 <| J.C 2 F114 (Zfb a0 a1v a1 h_a1) fun r1 => J.z 2 <| J.r

/-! ### weir/rules.portsTest$1: function 90 -/
noncomputable def ZcT.out (r_ : Bool) : Value := .bool r_
noncomputable def ZcT (a0 : Zac) (a1 : Addr) (a2 : Addr) : M Bool :=
 slot 47 >>= fun b1 =>
 ld cB a1 >>= fun x2 =>
 Zfc a0 x2 >>= fun r3 =>
 newv 3 (cI .i64) 0 >>= fun b4 =>
 st (cI .i64) (pt b4 0) r3.1 >>= fun _ =>
 (if r3.2 = true then
   ld cL a2 >>= fun x5 =>
   Zbq x5 (fun (q6 : ZaE) => ZcO q6 (pt b4 0)) >>= fun r7 =>
   pure r7
  else
   pure false) >>= fun y8 =>
 pure y8
theorem Zjr (a0 : Zac) (a1 : Addr) (a2 : Addr) : Ref Tryz.prog 90 [Zag.val a0, .pointer (some a1), .pointer (some a2)] (ZcT a0 a1 a2) ZcT.out := by
 refine J.Fn Tryz.func90 ?_
 unfold ZcT
 refine SJ.sr 2 <| J.b 0 Zag a0 fun b1 => J.z 1 <| SJ.sr 9 <| J.k 0 0 rfl Ty47 (At.whole _) <| J.l 0 Ty4 fun x2 => J.C 0 F91 (Zms _ _) fun r3 => J.A 3 Ty3 fun b4 => J.w 0 Ty3 <| J.z 1 <| SJ.sr 7 <| J.j 2 3 .bool ?_ ?_ fun y8 => ?_
 ·exact J.l 0 Ty72 fun x5 => J.C 1 F92 (ZeQ x5 ⟨.func (.func 93) #[] #[.pointer (some (pt b4 0))], rfl⟩ (fun (q6 : ZaE) => ZcO q6 (pt b4 0)) (fun q6 => RefV.of (first := []) (cap := [.pointer (some (pt b4 0))]) F93 (Ziv q6 (pt b4 0)))) fun r7 => J.e 1
 ·exact J.e 4
 exact J.z 1 <| J.r

/-! ### weir/rules.portsTest: function 63 -/
noncomputable def Zdp.out (r_ : Any) : Value := r_.v
noncomputable def Zdp (a0 : Zaf) (a1 : Bool) : M Any :=
 slot 74 >>= fun b1 =>
 newv 4 cB a1 >>= fun b2 =>
 Zbm a0.Ports >>= fun r3 =>
 newv 72 cL Sl.nil >>= fun b4 =>
 st cL (pt b4 0) r3 >>= fun _ =>
 pure (⟨.func (.func 90) #[] #[.pointer (some (pt b2 0)), .pointer (some (pt b4 0))], rfl⟩ : Any)
theorem Zhc (a0 : Zaf) (a1 : Bool) : Ref Tryz.prog 63 [ZaA.val a0, .bool a1] (Zdp a0 a1) Zdp.out := by
 refine J.Fn Tryz.func63 ?_
 unfold Zdp
 exact SJ.sr 3 <| J.b 0 ZaA a0 fun b1 => J.B 0 fun b2 => J.z 1 <| SJ.sr 5 <| J.k 1 0 rfl Ty72 (ZaQ _) <| J.C 0 F84 (ZdT _) fun r3 => J.A 0 Ty72 fun b4 => J.w 0 Ty72 <| J.z 0 <| SJ.sr 2 <| J.z 2 <| J.r

/-! ### weir/rules.tests: function 36 -/
noncomputable def ZfH.out (r_ : Sl) : Value := Sl.v r_
noncomputable def ZfH (a0 : Zae) : M Sl :=
 slot 76 >>= fun b1 =>
 newv 90 cL Sl.nil >>= fun b2 =>
 ZbV (a0.In != 0) (⟨.iface 145 (.int .i64 a0.In), rfl⟩ : Any) (pt b2 0) >>= fun r3 =>
 ZbV (a0.Vid != 0) (⟨.iface 146 (.int .i64 a0.Vid), rfl⟩ : Any) (pt b2 0) >>= fun r4 =>
 ZbV (a0.Kind != 0) (⟨.iface 147 (.int .i64 a0.Kind), rfl⟩ : Any) (pt b2 0) >>= fun r5 =>
 ZbV (a0.Proto != 0) (⟨.iface 148 (.int .i64 a0.Proto), rfl⟩ : Any) (pt b2 0) >>= fun r6 =>
 draw >>= fun _ =>
 Za0 a0.From false >>= fun r7 =>
 ZbV (decide ((a0.From.Nets.len : Int) > 0)) (⟨.iface 149 (r7.v), rfl⟩ : Any) (pt b2 0) >>= fun r8 =>
 draw >>= fun _ =>
 Zdp a0.From false >>= fun r9 =>
 ZbV (decide ((a0.From.Ports.len : Int) > 0)) (⟨.iface 149 (r9.v), rfl⟩ : Any) (pt b2 0) >>= fun r10 =>
 draw >>= fun _ =>
 Za0 a0.To true >>= fun r11 =>
 ZbV (decide ((a0.To.Nets.len : Int) > 0)) (⟨.iface 149 (r11.v), rfl⟩ : Any) (pt b2 0) >>= fun r12 =>
 draw >>= fun _ =>
 Zdp a0.To true >>= fun r13 =>
 ZbV (decide ((a0.To.Ports.len : Int) > 0)) (⟨.iface 149 (r13.v), rfl⟩ : Any) (pt b2 0) >>= fun r14 =>
 ZbV ((bor .i64 a0.Set a0.Clear) != 0) (⟨.iface 152 (ZbF.val (⟨a0.Set, a0.Clear⟩ : Zb3)), rfl⟩ : Any) (pt b2 0) >>= fun r15 =>
 ZbV (a0.Type_ != 0) (⟨.iface 153 (.int .i64 a0.Type_), rfl⟩ : Any) (pt b2 0) >>= fun r16 =>
 ZbV a0.Pieces (⟨.iface 155 (Zcf.val ZdN), rfl⟩ : Any) (pt b2 0) >>= fun r17 =>
 ld cL (pt b2 0) >>= fun x18 =>
 pure x18
theorem Znp (a0 : Zae) : Ref Tryz.prog 36 [Zak.val a0] (ZfH a0) ZfH.out := by
 refine J.Fn Tryz.func36 ?_
 unfold ZfH
 exact SJ.sr 2 <| J.b 0 Zak a0 fun b1 => J.z 1 <| SJ.sr 1 <| J.A 0 Ty90 fun b2 => J.z 0 <| SJ.sr 2 <| J.z 2 <| SJ.sr 8 <| J.k 2 0 rfl Ty3 (ZdM _) <| J.k 2 0 rfl Ty3 (ZdM _) <| J.v 1 (RefV.of (first := []) (cap := [.pointer (some (pt b2 0))]) (vals := [.bool (a0.In != 0), .iface 145 (.int .i64 a0.In)]) F61 (Zcb (a0.In != 0) (⟨.iface 145 (.int .i64 a0.In), rfl⟩ : Any) (pt b2 0))) fun r3 => J.z 0 <| SJ.sr 8 <| J.k 2 0 rfl Ty3 (Zdt _) <| J.k 2 0 rfl Ty3 (Zdt _) <| J.v 1 (RefV.of (first := []) (cap := [.pointer (some (pt b2 0))]) (vals := [.bool (a0.Vid != 0), .iface 146 (.int .i64 a0.Vid)]) F61 (Zcb (a0.Vid != 0) (⟨.iface 146 (.int .i64 a0.Vid), rfl⟩ : Any) (pt b2 0))) fun r4 => J.z 0 <| SJ.sr 8 <| J.k 2 0 rfl Ty3 (Zb7 _) <| J.k 2 0 rfl Ty3 (Zb7 _) <| J.v 1 (RefV.of (first := []) (cap := [.pointer (some (pt b2 0))]) (vals := [.bool (a0.Kind != 0), .iface 147 (.int .i64 a0.Kind)]) F61 (Zcb (a0.Kind != 0) (⟨.iface 147 (.int .i64 a0.Kind), rfl⟩ : Any) (pt b2 0))) fun r5 => J.z 0 <| SJ.sr 8 <| J.k 2 0 rfl Ty3 (ZbE _) <| J.k 2 0 rfl Ty3 (ZbE _) <| J.v 1 (RefV.of (first := []) (cap := [.pointer (some (pt b2 0))]) (vals := [.bool (a0.Proto != 0), .iface 148 (.int .i64 a0.Proto)]) F61 (Zcb (a0.Proto != 0) (⟨.iface 148 (.int .i64 a0.Proto), rfl⟩ : Any) (pt b2 0))) fun r6 => J.z 0 <| SJ.seq <| J.R 11 Zcs <| J.k 3 0 rfl Ty71 (At.trans (ZbU _) (Zaw _)) <| J.k 3 0 rfl Ty74 (ZbU _) <| OJ.call (d := 46) (g := 62) (ats := #[74, 4]) (args := [.tmp 45, .const (.bool false)]) (owed := [⟨3, 71, (pt b1 7), cL.val a0.From.Nets⟩]) F62 (ZhF a0.From false) fun r7 => OW.known (j := 0) (q := a0.From.Nets) Ty71 rfl (At.trans (ZbU a0) (Zaw a0.From)) <| OW.nil <| J.v 1 (RefV.of (first := []) (cap := [.pointer (some (pt b2 0))]) (vals := [.bool (decide ((a0.From.Nets.len : Int) > 0)), .iface 149 (r7.v)]) F61 (Zcb (decide ((a0.From.Nets.len : Int) > 0)) (⟨.iface 149 (r7.v), rfl⟩ : Any) (pt b2 0))) fun r8 => J.z 0 <| SJ.seq <| J.R 11 Zcs <| J.k 3 0 rfl Ty72 (At.trans (ZbU _) (ZaQ _)) <| J.k 3 0 rfl Ty74 (ZbU _) <| OJ.call (d := 57) (g := 63) (ats := #[74, 4]) (args := [.tmp 56, .const (.bool false)]) (owed := [⟨3, 72, (pt b1 8), cL.val a0.From.Ports⟩]) F63 (Zhc a0.From false) fun r9 => OW.known (j := 0) (q := a0.From.Ports) Ty72 rfl (At.trans (ZbU a0) (ZaQ a0.From)) <| OW.nil <| J.v 1 (RefV.of (first := []) (cap := [.pointer (some (pt b2 0))]) (vals := [.bool (decide ((a0.From.Ports.len : Int) > 0)), .iface 149 (r9.v)]) F61 (Zcb (decide ((a0.From.Ports.len : Int) > 0)) (⟨.iface 149 (r9.v), rfl⟩ : Any) (pt b2 0))) fun r10 => J.z 0 <| SJ.seq <| J.R 11 Zcs <| J.k 3 0 rfl Ty71 (At.trans (ZbW _) (Zaw _)) <| J.k 3 0 rfl Ty74 (ZbW _) <| OJ.call (d := 68) (g := 62) (ats := #[74, 4]) (args := [.tmp 67, .const (.bool true)]) (owed := [⟨3, 71, (pt b1 10), cL.val a0.To.Nets⟩]) F62 (ZhF a0.To true) fun r11 => OW.known (j := 0) (q := a0.To.Nets) Ty71 rfl (At.trans (ZbW a0) (Zaw a0.To)) <| OW.nil <| J.v 1 (RefV.of (first := []) (cap := [.pointer (some (pt b2 0))]) (vals := [.bool (decide ((a0.To.Nets.len : Int) > 0)), .iface 149 (r11.v)]) F61 (Zcb (decide ((a0.To.Nets.len : Int) > 0)) (⟨.iface 149 (r11.v), rfl⟩ : Any) (pt b2 0))) fun r12 => J.z 0 <| SJ.seq <| J.R 11 Zcs <| J.k 3 0 rfl Ty72 (At.trans (ZbW _) (ZaQ _)) <| J.k 3 0 rfl Ty74 (ZbW _) <| OJ.call (d := 79) (g := 63) (ats := #[74, 4]) (args := [.tmp 78, .const (.bool true)]) (owed := [⟨3, 72, (pt b1 11), cL.val a0.To.Ports⟩]) F63 (Zhc a0.To true) fun r13 => OW.known (j := 0) (q := a0.To.Ports) Ty72 rfl (At.trans (ZbW a0) (ZaQ a0.To)) <| OW.nil <| J.v 1 (RefV.of (first := []) (cap := [.pointer (some (pt b2 0))]) (vals := [.bool (decide ((a0.To.Ports.len : Int) > 0)), .iface 149 (r13.v)]) F61 (Zcb (decide ((a0.To.Ports.len : Int) > 0)) (⟨.iface 149 (r13.v), rfl⟩ : Any) (pt b2 0))) fun r14 => J.z 0 <| SJ.sr 14 <| J.k 2 0 rfl Ty3 (Zce _) <| J.k 1 0 rfl Ty3 (ZbY _) <| J.k 3 0 rfl Ty3 (Zce _) <| J.k 1 0 rfl Ty3 (ZbY _) <| J.u 0 Zw1 (.f 0 (Zi0 _ a0.Set) (.f 1 (Zh8 _ a0.Clear) .nil)) <| J.v 1 (RefV.of (first := []) (cap := [.pointer (some (pt b2 0))]) (vals := [.bool ((bor .i64 a0.Set a0.Clear) != 0), .iface 152 (ZbF.val (⟨a0.Set, a0.Clear⟩ : Zb3))]) F61 (Zcb ((bor .i64 a0.Set a0.Clear) != 0) (⟨.iface 152 (ZbF.val (⟨a0.Set, a0.Clear⟩ : Zb3)), rfl⟩ : Any) (pt b2 0))) fun r15 => J.z 0 <| SJ.sr 8 <| J.k 2 0 rfl Ty3 (ZcA _) <| J.k 2 0 rfl Ty3 (ZcA _) <| J.v 1 (RefV.of (first := []) (cap := [.pointer (some (pt b2 0))]) (vals := [.bool (a0.Type_ != 0), .iface 153 (.int .i64 a0.Type_)]) F61 (Zcb (a0.Type_ != 0) (⟨.iface 153 (.int .i64 a0.Type_), rfl⟩ : Any) (pt b2 0))) fun r16 => J.z 0 <| SJ.sr 6 <| J.k 2 0 rfl Ty4 (Zed _) <| J.u 0 Zw0 .nil <| J.v 1 (RefV.of (first := []) (cap := [.pointer (some (pt b2 0))]) (vals := [.bool a0.Pieces, .iface 155 (Zcf.val ZdN)]) F61 (Zcb a0.Pieces (⟨.iface 155 (Zcf.val ZdN), rfl⟩ : Any) (pt b2 0))) fun r17 => J.z 0 <| SJ.sr 2 <| J.l 0 Ty90 fun x18 => J.z 1 <| J.r

/-! ### (*weir/rules.Set).add: function 14 -/
noncomputable def ZeI.out (r_ : Unit) : Value := .tuple #[]
noncomputable def ZeI (a0 : (Option Addr)) (a1 : Zae) : M Unit :=
 slot 76 >>= fun b1 =>
 draw >>= fun _ =>
 nilck a0 >>= fun p2 =>
 ld cL p2 >>= fun x3 =>
 ZfI a1 >>= fun r4 =>
 same cL p2 x3 >>= fun _ =>
 slot 76 >>= fun b5 =>
 same cL p2 x3 >>= fun _ =>
 appl Zak 76 192 ZaH x3 [r4] >>= fun r6 =>
 nilck a0 >>= fun p7 =>
 st cL p7 r6 >>= fun _ =>
 draw >>= fun _ =>
 nilck a0 >>= fun p8 =>
 ld cL (Addr.add p8 1) >>= fun x9 =>
 ZfH a1 >>= fun r10 =>
 same cL (Addr.add p8 1) x9 >>= fun _ =>
 slot 90 >>= fun b11 =>
 same cL (Addr.add p8 1) x9 >>= fun _ =>
 appl cL 90 24 Sl.nil x9 [r10] >>= fun r12 =>
 nilck a0 >>= fun p13 =>
 st cL (Addr.add p13 1) r12 >>= fun _ =>
 pure ()
theorem ZlT (a0 : (Option Addr)) (a1 : Zae) : Ref Tryz.prog 14 [.pointer a0, Zak.val a1] (ZeI a0 a1) ZeI.out := by
 refine J.Fn Tryz.func14 ?_
 unfold ZeI
 exact SJ.sr 1 <| J.b 0 Zak a1 fun b1 => J.z 0 <| SJ.seq <| J.R 12 Zcs <| J.n 2 fun p2 => J.l 1 Ty22 fun x3 => J.k 0 0 rfl Ty76 (At.whole _) <| OJ.call (d := 10) (g := 35) (ats := #[76]) (args := [.tmp 9]) (owed := [⟨4, 22, p2, cL.val x3⟩]) F35 (Znq a1) fun r4 => OW.same Ty22 <| OW.nil <| OJ.rowSlot (d := 11) (t := 22) (parts := [(0, .tmp 10)]) (ps := [(0, Zak.val r4)]) (cd := Zak) (⟨[r4], rfl⟩ : Vec Zae 1) (owed := [⟨4, 22, p2, cL.val x3⟩]) Ty76 (Zct.cons (cd := Zak) (q := r4) (o := 0) rfl (Upd.arr (i := 0) (by decide) (by decide)) Zct.nil) fun b5 => OW.same Ty22 <| OW.nil <| J.p 0 0 rfl Ty76 fun r6 => J.n 0 fun p7 => J.w 1 Ty22 <| J.z 0 <| J.R 12 Zcs <| J.n 2 fun p8 => J.l 1 Ty68 fun x9 => J.k 0 1 rfl Ty76 (At.whole _) <| OJ.call (d := 21) (g := 36) (ats := #[76]) (args := [.tmp 20]) (owed := [⟨4, 68, (Addr.add p8 1), cL.val x9⟩]) F36 (Znp a1) fun r10 => OW.same Ty68 <| OW.nil <| OJ.rowSlot (d := 22) (t := 68) (parts := [(0, .tmp 21)]) (ps := [(0, cL.val r10)]) (cd := cL) (⟨[r10], rfl⟩ : Vec Sl 1) (owed := [⟨4, 68, (Addr.add p8 1), cL.val x9⟩]) Ty90 (Zct.cons (cd := cL) (q := r10) (o := 0) rfl (Upd.arr (i := 0) (by decide) (by decide)) Zct.nil) fun b11 => OW.same Ty68 <| OW.nil <| J.p 0 0 rfl Ty90 fun r12 => J.n 0 fun p13 => J.w 1 Ty68 <| J.z 0 <| SJ.end_ rfl (Res.run (ys := []) .nil rfl)

/-! ### weir/rules.New: function 4 -/
noncomputable def Zcc.B : Code := bod Tryz.f4
noncomputable def Zcc.cx : Fx := ⟨Tryz.prog, 4, Tryz.f4, none⟩
noncomputable def Zcc.out (r_ : ((Option Addr) × Int × Int)) : Value := .tuple #[.pointer r_.1, .int .i64 r_.2.1, .int .i64 r_.2.2]
noncomputable def Zcc.F1 (a0 : Sl) (b1 : Nat) : LF Int ((Option Addr) × Int × Int) := ⟨[.inBlock 0, .code (c2 (c2 (c2 (c2 Zcc.B))))], c1 (c2 (c1 (c2 (c2 (c2 Zcc.B))))), fun s_ => [(5, .pointer (some (pt b1 0))), (14, Sl.v a0), (15, .int .i64 (a0.len : Int)), (16, .int .i64 s_)], fun s_ => [], (rt Zcc.out)⟩
noncomputable def Zcc.L1 (a0 : Sl) (b1 : Nat) (s2 : Int) : M (LS Int ((Option Addr) × Int × Int)) :=
 if s2 < (a0.len : Int) then
  idx a0.a a0.len s2 16 >>= fun p10 =>
  ld Zak p10 >>= fun x11 =>
  slot 76 >>= fun b12 =>
  Za1 x11 >>= fun r13 =>
  if r13 ≠ 0 then
   pure (LS.done (none, r13, s2))
  else
   ZeI (some (pt b1 0)) x11 >>= fun r14 =>
   pure (LS.next (IntKind.wrap .i64 (s2 + 1)))
 else
  pure (LS.done ((some (pt b1 0)), 0, 0))
theorem Zcc.L1_ok (a0 : Sl) (b1 : Nat) : LJ Zcc.cx (Zcc.F1 a0 b1) (fun s_ => Zcc.L1 a0 b1 s_) := by
 rintro s2
 show SJ _ _ _ _ (Zcc.L1 a0 b1 s2) _
 unfold Zcc.L1
 refine SJ.sr 1 <| J.z 1 <| SJ.seq <| J.f ?_ ?_
 ·refine SJ.skip <| SJ.seq <| SJ.block (id := 1) <| SJ.sr 6 <| J.i 1 fun p10 => J.l 0 Ty76 fun x11 => J.a 0 Ty76 fun b12 => J.s 1 0 rfl Ty76 (Upd.w x11) <| J.z 0 <| SJ.seq <| SJ.sr 3 <| J.k 0 0 rfl Ty76 (At.whole _) <| J.C 0 F13 (Zhq _) fun r13 => J.z 1 <| SJ.sr 2 <| J.z 2 <| J.f ?_ ?_
  ·exact SJ.sr 5 <| J.z 5 <| J.r
  exact SJ.skip <| SJ.rg 3 <| J.k 1 0 rfl Ty76 (At.whole _) <| J.C 0 F14 (ZlT _ _) fun r14 => J.z 0 <| SJ.inBlock <| SJ.rg 2 <| J.z 2 <| SJ.forget (List.Sublist.cons _ List.Sublist.slnil) <| J.o rfl
 exact SJ.exit (id := 0) (by rfl) <| SJ.sr 4 <| J.z 4 <| J.r
noncomputable def Zcc (a0 : Sl) : M ((Option Addr) × Int × Int) :=
 if (a0.len : Int) > 256 then
  pure (none, 167, 256)
 else
  newv 70 ZdB ZjP >>= fun b1 =>
  ZcI (fun s_ : Int => Zcc.L1 a0 b1 s_) 0
theorem ZoO (a0 : Sl) : Ref Tryz.prog 4 [Sl.v a0] (Zcc a0) Zcc.out := by
 refine J.Fn Tryz.func4 ?_
 unfold Zcc
 refine SJ.sr 3 <| J.z 3 <| SJ.seq <| SJ.sr 3 <| J.z 3 <| J.f ?_ ?_
 ·exact SJ.sr 3 <| J.z 3 <| J.r
 exact SJ.skip <| SJ.sr 3 <| J.u 0 Ty70 .nil <| J.B 0 fun b1 => J.z 1 <| SJ.seq <| SJ.sr 3 <| J.z 3 <| SJ.block (id := 0) <| J.L (Zcc.L1_ok a0 b1)

/-! ### weir/weirlaw16.num: function 6 -/
noncomputable def Zdk.out (r_ : Int) : Value := .int .i64 r_
noncomputable def Zdk (a0 : Int) : M Int :=
 pure a0
theorem ZfA (a0 : Int) : Ref Tryz.prog 6 [.int .i64 a0] (Zdk a0) Zdk.out := by
 refine J.Fn Tryz.func6 ?_
 unfold Zdk
 exact SJ.sr 1 <| J.z 1 <| SJ.sr 2 <| J.z 2 <| J.r

/-! ### weir/weirlaw16.line: function 16 -/
noncomputable def Zdl.B : Code := bod Tryz.f16
noncomputable def Zdl.out (r_ : (ByteArray × Zae)) : Value := .tuple #[.string r_.1, Zak.val r_.2]
noncomputable def Zdl  : M (ByteArray × Zae) :=
 slot 76 >>= fun b1 =>
 slot 111 >>= fun b2 =>
 draws 16 2 (ZfQ (c1 (c2 (c2 Zdl.B)))) >>= fun o3 =>
 if bfr o3 1 4 = true then
  newv 111 (Zav.arr 1) (⟨[(⟨(⟨4, (⟨[10, 0, 0, 0, 0, 0, 0, 0, 0, 0, 0, 0, 0, 0, 0, 0], rfl⟩ : (Vec Int 16))⟩ : Zba), 8⟩ : Zad)], rfl⟩ : Vec Zad 1) >>= fun b10 =>
  newv 113 (Za5.arr 1) (⟨[(⟨80, 80⟩ : ZaE)], rfl⟩ : Vec ZaE 1) >>= fun b11 =>
  pure (str0, (⟨1, ZaH.Class, ZaH.Kind, 6, ZaH.In, ZaH.Vid, (⟨Za3.Not, (⟨some (pt b10 0), 1, 1⟩ : Sl), Za3.Ports⟩ : Zaf), (⟨Za3.Not, Za3.Nets, (⟨some (pt b11 0), 1, 1⟩ : Sl)⟩ : Zaf), ZaH.Set, ZaH.Clear, ZaH.Type_, ZaH.Pieces⟩ : Zae))
 else
  newv 113 (Za5.arr 1) (⟨[(⟨80, 80⟩ : ZaE)], rfl⟩ : Vec ZaE 1) >>= fun b12 =>
  newv 111 (Zav.arr 1) (⟨[(⟨(⟨4, (⟨[10, 0, 0, 0, 0, 0, 0, 0, 0, 0, 0, 0, 0, 0, 0, 0], rfl⟩ : (Vec Int 16))⟩ : Zba), 8⟩ : Zad)], rfl⟩ : Vec Zad 1) >>= fun b13 =>
  pure (str0, (⟨1, ZaH.Class, ZaH.Kind, 6, ZaH.In, ZaH.Vid, (⟨Za3.Not, (⟨some (pt b13 0), 1, 1⟩ : Sl), Za3.Ports⟩ : Zaf), (⟨Za3.Not, Za3.Nets, (⟨some (pt b12 0), 1, 1⟩ : Sl)⟩ : Zaf), ZaH.Set, ZaH.Clear, ZaH.Type_, ZaH.Pieces⟩ : Zae))
theorem ZkZ  : Ref Tryz.prog 16 [] (Zdl) Zdl.out := by
 refine J.Fn Tryz.func16 ?_
 unfold Zdl
 refine SJ.sr 2 <| J.a 1 Ty76 fun b1 => J.z 0 <| SJ.sr 5 <| OJ.build (d := 3) (T := 26) (parts := [(0, .const (.int .u8 10))]) (ps := [(0, (cI .u8).val 10)]) (cd := ((cI .u8).arr 16)) (z0 := (Vec.rep 16 0)) (⟨[10, 0, 0, 0, 0, 0, 0, 0, 0, 0, 0, 0, 0, 0, 0, 0], rfl⟩ : (Vec Int 16)) Ty26 rfl (Zct.cons (cd := (cI .u8)) (q := 10) (o := 0) (by kernel_rfl) (Upd.arr (i := 0) (by decide) (by decide)) Zct.nil) <| J.u 0 Ty28 (.f 0 (Zj9 _ 4) (.f 1 (Zka _ (⟨[10, 0, 0, 0, 0, 0, 0, 0, 0, 0, 0, 0, 0, 0, 0, 0], rfl⟩ : (Vec Int 16))) .nil)) <| J.u 0 ZcY (.f 0 (Zgz _ (⟨4, (⟨[10, 0, 0, 0, 0, 0, 0, 0, 0, 0, 0, 0, 0, 0, 0, 0], rfl⟩ : (Vec Int 16))⟩ : Zba)) (.f 1 (Zfq _ 8) .nil)) <| J.a 0 ZcY fun b2 => J.s 0 0 rfl ZcY (Upd.w (⟨(⟨4, (⟨[10, 0, 0, 0, 0, 0, 0, 0, 0, 0, 0, 0, 0, 0, 0, 0], rfl⟩ : (Vec Int 16))⟩ : Zba), 8⟩ : Zad)) <| J.z 0 <| SJ.seq <| SJ.draws (id := 2) (kd := [1, 2, 0, 0, 2, 0, 0, 0, 2]) (bef := [0, 1, 3, 0, 8, 24, 63, 0, 255]) (ord := [0, 1, 2, 3, 4, 5, 6, 7, 8]) (E := [(1, 4)]) Zcs fun o3 hg_ => SJ.bfr hg_ (by decide) (fun ho9 => ?_) fun ho9 => ?_
 ·exact SJ.leaf hg_ (kd := [1, 2, 0, 0, 2, 0, 0, 0, 2]) (bef := [0, 1, 3, 0, 8, 24, 63, 0, 255]) (ord := [0, 1, 2, 3, 4, 5, 6, 7, 8]) (E := [(1, 4)]) (allB.cons ho9 allB.nil) <| J.k 0 0 rfl ZcY (At.whole _) <| J.N 0 ZcY fun b10 => J.u 0 Ty74 (.f 1 (ZeS _ (⟨some (pt b10 0), 1, 1⟩ : Sl)) .nil) <| J.u 0 ZgA (.f 0 (Zf2 _ 80) (.f 1 (Zf3 _ 80) .nil)) <| OJ.rowNew (d := 10) (t := 72) (parts := [(0, .tmp 9)]) (ps := [(0, Za5.val (⟨80, 80⟩ : ZaE))]) (cd := Za5) (owed := [⟨0, 111, (pt b2 0), Zav.val (⟨(⟨4, (⟨[10, 0, 0, 0, 0, 0, 0, 0, 0, 0, 0, 0, 0, 0, 0, 0], rfl⟩ : (Vec Int 16))⟩ : Zba), 8⟩ : Zad)⟩]) ZgA (Zct.cons (cd := Za5) (q := (⟨80, 80⟩ : ZaE)) (o := 0) rfl (Upd.arr (i := 0) (by decide) (by decide)) Zct.nil) fun b11 => OW.known (j := 0) (q := (⟨(⟨4, (⟨[10, 0, 0, 0, 0, 0, 0, 0, 0, 0, 0, 0, 0, 0, 0, 0], rfl⟩ : (Vec Int 16))⟩ : Zba), 8⟩ : Zad)) ZcY rfl (At.whole _) <| OW.nil <| J.u 0 Ty74 (.f 2 (Zes _ (⟨some (pt b11 0), 1, 1⟩ : Sl)) .nil) <| J.u 0 Ty76 (.f 0 (Zfh _ 1) (.f 3 (Zfp _ 6) (.f 6 (Zd1 _ (⟨Za3.Not, (⟨some (pt b10 0), 1, 1⟩ : Sl), Za3.Ports⟩ : Zaf)) (.f 7 (ZeY _ (⟨Za3.Not, Za3.Nets, (⟨some (pt b11 0), 1, 1⟩ : Sl)⟩ : Zaf)) .nil)))) <| J.s 1 1 rfl Ty76 (Upd.w (⟨1, ZaH.Class, ZaH.Kind, 6, ZaH.In, ZaH.Vid, (⟨Za3.Not, (⟨some (pt b10 0), 1, 1⟩ : Sl), Za3.Ports⟩ : Zaf), (⟨Za3.Not, Za3.Nets, (⟨some (pt b11 0), 1, 1⟩ : Sl)⟩ : Zaf), ZaH.Set, ZaH.Clear, ZaH.Type_, ZaH.Pieces⟩ : Zae)) <| J.z 0 <| J.rc (.c 1 rfl Ty76 .n)
 exact SJ.leaf hg_ (kd := [1, 2, 0, 0, 2, 0, 0, 0, 2]) (bef := [0, 1, 3, 0, 8, 24, 63, 0, 255]) (ord := [0, 3, 4, 1, 2, 5, 6, 7, 8]) (E := [(4, 1)]) (allB.cons ho9 allB.nil) <| J.k 0 0 rfl ZcY (At.whole _) <| J.u 0 ZgA (.f 0 (Zf2 _ 80) (.f 1 (Zf3 _ 80) .nil)) <| OJ.rowNew (d := 10) (t := 72) (parts := [(0, .tmp 9)]) (ps := [(0, Za5.val (⟨80, 80⟩ : ZaE))]) (cd := Za5) (owed := [⟨0, 111, (pt b2 0), Zav.val (⟨(⟨4, (⟨[10, 0, 0, 0, 0, 0, 0, 0, 0, 0, 0, 0, 0, 0, 0, 0], rfl⟩ : (Vec Int 16))⟩ : Zba), 8⟩ : Zad)⟩]) ZgA (Zct.cons (cd := Za5) (q := (⟨80, 80⟩ : ZaE)) (o := 0) rfl (Upd.arr (i := 0) (by decide) (by decide)) Zct.nil) fun b12 => OW.known (j := 0) (q := (⟨(⟨4, (⟨[10, 0, 0, 0, 0, 0, 0, 0, 0, 0, 0, 0, 0, 0, 0, 0], rfl⟩ : (Vec Int 16))⟩ : Zba), 8⟩ : Zad)) ZcY rfl (At.whole _) <| OW.nil <| J.N 0 ZcY fun b13 => J.u 0 Ty74 (.f 1 (ZeS _ (⟨some (pt b13 0), 1, 1⟩ : Sl)) .nil) <| J.u 0 Ty74 (.f 2 (Zes _ (⟨some (pt b12 0), 1, 1⟩ : Sl)) .nil) <| J.u 0 Ty76 (.f 0 (Zfh _ 1) (.f 3 (Zfp _ 6) (.f 6 (Zd1 _ (⟨Za3.Not, (⟨some (pt b13 0), 1, 1⟩ : Sl), Za3.Ports⟩ : Zaf)) (.f 7 (ZeY _ (⟨Za3.Not, Za3.Nets, (⟨some (pt b12 0), 1, 1⟩ : Sl)⟩ : Zaf)) .nil)))) <| J.s 1 1 rfl Ty76 (Upd.w (⟨1, ZaH.Class, ZaH.Kind, 6, ZaH.In, ZaH.Vid, (⟨Za3.Not, (⟨some (pt b13 0), 1, 1⟩ : Sl), Za3.Ports⟩ : Zaf), (⟨Za3.Not, Za3.Nets, (⟨some (pt b12 0), 1, 1⟩ : Sl)⟩ : Zaf), ZaH.Set, ZaH.Clear, ZaH.Type_, ZaH.Pieces⟩ : Zae)) <| J.z 0 <| J.rc (.c 1 rfl Ty76 .n)

/-! ### weir/rules.words: function 38 -/
noncomputable def ZaK.B : Code := bod Tryz.f38
noncomputable def ZaK.cx : Fx := ⟨Tryz.prog, 38, Tryz.f38, none⟩
noncomputable def ZaK.out (r_ : (Sl × Int)) : Value := .tuple #[Sl.v r_.1, .int .i64 r_.2]
noncomputable def ZaK.F1 (a0 : ByteArray) : LF (Sl × Int) (Sl × Int) := ⟨[.inBlock 0, .code (c2 (c2 (c2 ZaK.B)))], c1 (c2 (c1 (c2 (c2 ZaK.B)))), fun s_ => [(0, .string a0), (4, Sl.v s_.1), (5, .int .i64 s_.2)], fun s_ => [], (rt ZaK.out)⟩
noncomputable def ZaK.K1 (a0 : ByteArray) (s1 : Sl) (s2 : Int) (s42 : Int) : M (LS (Sl × Int) (Sl × Int)) :=
 chk ((0 : Int) ≤ s2 ∧ s2 < (a0.size : Int)) >>= fun _ =>
 if s42 > s2 then
  chk (0 ≤ (s2 : Int) ∧ (s2 : Int) ≤ s42 ∧ s42 ≤ (a0.size : Int)) >>= fun _ =>
  slot 122 >>= fun b60 =>
  appl Zbw 122 24 Zdm s1 [(⟨(ByteArray.extract a0 (Int.toNat s2) (Int.toNat s42)), s2⟩ : ZaD)] >>= fun r61 =>
  pure (LS.next (r61, s42))
 else
  if (sb a0 s2) = 44 then
   chk (0 ≤ (s2 : Int) ∧ (s2 : Int) ≤ (IntKind.wrap .i64 (s42 + 1)) ∧ (IntKind.wrap .i64 (s42 + 1)) ≤ (a0.size : Int)) >>= fun _ =>
   slot 122 >>= fun b64 =>
   appl Zbw 122 24 Zdm s1 [(⟨(ByteArray.extract a0 (Int.toNat s2) (Int.toNat (IntKind.wrap .i64 (s42 + 1)))), s2⟩ : ZaD)] >>= fun r65 =>
   pure (LS.next (r65, IntKind.wrap .i64 (s42 + 1)))
  else
   (if (sb a0 s2) = 32 then
     pure true
    else
     pure ((sb a0 s2) == 9)) >>= fun y66 =>
   if y66 = true then
    pure (LS.next (s1, IntKind.wrap .i64 (s2 + 1)))
   else
    pure (LS.done (Sl.nil, s2))
theorem ZaK.K1_ok (a0 : ByteArray) (s1 : Sl) (s2 : Int) (s42 : Int) :
  SJ ZaK.cx [.code (c2 (c2 (c1 (c2 (c1 (c1 (c2 (c1 (c2 (c2 ZaK.B)))))))))), .inBlock 1, .inLoop (c1 (c1 (c2 (c1 (c2 (c2 ZaK.B)))))), .inBlock 0, .code (c2 (c2 (c2 ZaK.B)))] [(0, .string a0), (4, Sl.v s1), (5, .int .i64 s2), (6, .int .i64 s42)] [] (ZaK.K1 a0 s1 s2 s42) (ZaK.F1 a0).f := by
 unfold ZaK.K1
 refine SJ.seq <| SJ.sr 4 <| J.t 2 fun hb53 hb54 => J.z 1 <| SJ.block (id := 4) <| SJ.sr 4 <| J.z 4 <| J.f ?_ ?_
 ·exact SJ.skip <| SJ.inBlock <| SJ.sr 10 <| J.ct 4 <| J.u 1 Zey (.f 0 (ZiZ _ (ByteArray.extract a0 (Int.toNat s2) (Int.toNat s42))) (.f 1 (ZhM _ s2) .nil)) <| J.S 0 [(⟨(ByteArray.extract a0 (Int.toNat s2) (Int.toNat s42)), s2⟩ : ZaD)] Zey fun b60 => J.p 0 0 rfl Zey fun r61 => J.z 1 <| SJ.rg 2 <| J.z 2 <| SJ.inBlock <| SJ.forget (List.Sublist.cons _ List.Sublist.slnil) <| J.o rfl
 refine SJ.sr 3 <| J.z 3 <| J.f ?_ ?_
 ·exact SJ.rg 3 <| J.z 3 <| SJ.inBlock <| SJ.sr 10 <| J.ct 4 <| J.u 1 Zey (.f 0 (ZiZ _ (ByteArray.extract a0 (Int.toNat s2) (Int.toNat (IntKind.wrap .i64 (s42 + 1))))) (.f 1 (ZhM _ s2) .nil)) <| J.S 0 [(⟨(ByteArray.extract a0 (Int.toNat s2) (Int.toNat (IntKind.wrap .i64 (s42 + 1)))), s2⟩ : ZaD)] Zey fun b64 => J.p 0 0 rfl Zey fun r65 => J.z 1 <| SJ.rg 2 <| J.z 2 <| SJ.inBlock <| SJ.forget (List.Sublist.cons _ List.Sublist.slnil) <| J.o rfl
 refine SJ.sr 7 <| J.j 3 2 .bool ?_ ?_ fun y66 => ?_
 ·exact J.e 3
 ·exact J.e 3
 refine J.z 1 <| J.f ?_ ?_
 ·exact SJ.sr 3 <| J.z 3 <| SJ.exit (id := 1) (by rfl) <| J.o rfl
 exact SJ.sr 3 <| J.z 3 <| J.r
noncomputable def ZaK.F2 (a0 : ByteArray) (s1 : Sl) (s2 : Int) : LF Int (LS (Sl × Int) (Sl × Int)) := ⟨[.inBlock 2, .code (c2 (c2 (c1 (c2 (c1 (c1 (c2 (c1 (c2 (c2 ZaK.B)))))))))), .inBlock 1, .inLoop (c1 (c1 (c2 (c1 (c2 (c2 ZaK.B)))))), .inBlock 0, .code (c2 (c2 (c2 ZaK.B)))], c1 (c1 (c2 (c1 (c2 (c1 (c1 (c2 (c1 (c2 (c2 ZaK.B)))))))))), fun s_ => [(0, .string a0), (4, Sl.v s1), (5, .int .i64 s2), (6, .int .i64 s_)], fun s_ => [], (ZaK.F1 a0).f⟩
noncomputable def ZaK.L2 (a0 : ByteArray) (s1 : Sl) (s2 : Int) (s42 : Int) : M (LS Int (LS (Sl × Int) (Sl × Int))) :=
 (if s42 < (a0.size : Int) then
   chk ((0 : Int) ≤ s42 ∧ s42 < (a0.size : Int)) >>= fun _ =>
   pure (decide ((sb a0 s42) > 32))
  else
   pure false) >>= fun y72 =>
 (if y72 = true then
   chk ((0 : Int) ≤ s42 ∧ s42 < (a0.size : Int)) >>= fun _ =>
   pure (decide ((sb a0 s42) < 127))
  else
   pure false) >>= fun y75 =>
 (if y75 = true then
   chk ((0 : Int) ≤ s42 ∧ s42 < (a0.size : Int)) >>= fun _ =>
   pure ((sb a0 s42) != 44)
  else
   pure false) >>= fun y78 =>
 if y78 = true then
  pure (LS.next (IntKind.wrap .i64 (s42 + 1)))
 else
  (ZaK.K1 a0 s1 s2 s42) >>= fun b => pure (LS.done b)
theorem ZaK.L2_ok (a0 : ByteArray) (s1 : Sl) (s2 : Int) : LJ ZaK.cx (ZaK.F2 a0 s1 s2) (fun s_ => ZaK.L2 a0 s1 s2 s_) := by
 rintro s42
 show SJ _ _ _ _ (ZaK.L2 a0 s1 s2 s42) _
 unfold ZaK.L2
 refine SJ.seq <| SJ.sr 22 <| J.j 5 4 .bool ?_ ?_ fun y72 => ?_
 ·exact J.t 2 fun hb70 hb71 => J.e 2
 ·exact J.e 5
 refine J.j 1 4 .bool ?_ ?_ fun y75 => ?_
 ·exact J.t 2 fun hb73 hb74 => J.e 2
 ·exact J.e 5
 refine J.j 1 4 .bool ?_ ?_ fun y78 => ?_
 ·exact J.t 2 fun hb76 hb77 => J.e 2
 ·exact J.e 5
 refine J.z 0 <| J.f ?_ ?_
 ·exact SJ.skip <| SJ.block (id := 3) <| SJ.rg 3 <| J.z 3 <| SJ.inBlock <| J.o rfl
 exact SJ.exit (id := 2) (by rfl) <| J.q <| SJ.done <| ZaK.K1_ok a0 s1 s2 s42
noncomputable def ZaK.L1 (a0 : ByteArray) (s1 : Sl) (s2 : Int) : M (LS (Sl × Int) (Sl × Int)) :=
 if s2 < (a0.size : Int) then
  ZcI (fun s_ : Int => ZaK.L2 a0 s1 s2 s_) s2
 else
  pure (LS.done (s1, (-1)))
theorem ZaK.L1_ok (a0 : ByteArray) : LJ ZaK.cx (ZaK.F1 a0) (fun s_ => ZaK.L1 a0 s_.1 s_.2) := by
 rintro ⟨s1, s2⟩
 show SJ _ _ _ _ (ZaK.L1 a0 s1 s2) _
 unfold ZaK.L1
 refine SJ.seq <| SJ.sr 4 <| J.z 4 <| J.f ?_ ?_
 ·exact SJ.skip <| SJ.block (id := 1) <| SJ.sr 2 <| J.z 2 <| SJ.seq <| SJ.block (id := 2) <| J.L (ZaK.L2_ok a0 s1 s2)
 exact SJ.exit (id := 0) (by rfl) <| SJ.sr 3 <| J.z 3 <| J.r
noncomputable def ZaK (a0 : ByteArray) : M (Sl × Int) :=
 ZcI (fun s_ : (Sl × Int) => ZaK.L1 a0 s_.1 s_.2) (Sl.nil, 0)
theorem Zno (a0 : ByteArray) : Ref Tryz.prog 38 [.string a0] (ZaK a0) ZaK.out := by
 refine J.Fn Tryz.func38 ?_
 unfold ZaK
 exact SJ.sr 2 <| J.z 2 <| SJ.sr 1 <| J.z 1 <| SJ.seq <| SJ.sr 1 <| J.z 1 <| SJ.block (id := 0) <| J.L (ZaK.L1_ok a0)

/-! ### (*weir/rules.reader).fail: function 41 -/
noncomputable def ZaS.out (r_ : Unit) : Value := .tuple #[]
noncomputable def ZaS (a0 : (Option Addr)) (a1 : Int) (a2 : Int) : M Unit :=
 nilck a0 >>= fun p1 =>
 ld (cI .i64) (Addr.add p1 19) >>= fun x2 =>
 if x2 = 0 then
  nilck a0 >>= fun p5 =>
  st (cI .i64) (Addr.add p5 19) a1 >>= fun _ =>
  nilck a0 >>= fun p6 =>
  st (cI .i64) (Addr.add p6 20) a2 >>= fun _ =>
  pure ()
 else
  pure ()
theorem Zbo (a0 : (Option Addr)) (a1 : Int) (a2 : Int) : Ref Tryz.prog 41 [.pointer a0, .int .i64 a1, .int .i64 a2] (ZaS a0 a1 a2) ZaS.out := by
 refine J.Fn Tryz.func41 ?_
 unfold ZaS
 refine SJ.sr 5 <| J.n 1 fun p1 => J.l 1 Ty50 fun x2 => J.z 1 <| J.f ?_ ?_
 ·exact SJ.rg 10 <| J.n 4 fun p5 => J.w 1 Ty50 <| J.n 0 fun p6 => J.w 1 Ty3 <| J.z 0 <| SJ.end_ rfl (Res.run (ys := []) .nil rfl)
 exact SJ.skip <| SJ.end_ rfl (Res.run (ys := []) .nil rfl)

/-! ### (*weir/rules.reader).next: function 40 -/
noncomputable def ZaJ.B : Code := bod Tryz.f40
noncomputable def ZaJ.cx : Fx := ⟨Tryz.prog, 40, Tryz.f40, none⟩
noncomputable def ZaJ.out (r_ : ZaD) : Value := Zbw.val r_
noncomputable def ZaJ.K1 (a0 : (Option Addr)) : M ZaD :=
 nilck a0 >>= fun p12 =>
 ld (cI .i64) (Addr.add p12 19) >>= fun x13 =>
 if x13 ≠ 0 then
  pure Zdm
 else
  nilck a0 >>= fun p14 =>
  ld (cI .i64) (Addr.add p14 1) >>= fun x15 =>
  nilck a0 >>= fun p16 =>
  st (cI .i64) (Addr.add p16 1) (IntKind.wrap .i64 (x15 + 1)) >>= fun _ =>
  draw >>= fun _ =>
  nilck a0 >>= fun p17 =>
  ld cL p17 >>= fun x18 =>
  nilck a0 >>= fun p19 =>
  ld (cI .i64) (Addr.add p19 1) >>= fun x20 =>
  idx x18.a x18.len (IntKind.wrap .i64 (x20 - 1)) 2 >>= fun p21 =>
  ld Zbw p21 >>= fun x22 =>
  pure x22
theorem ZaJ.K1_ok (a0 : (Option Addr)) (b1 : Nat) :
  SJ ZaJ.cx [.code (c2 (c2 ZaJ.B))] [(0, .pointer a0), (2, .pointer (some (pt b1 0)))] [(b1, Zbw.enc Zdm)] (ZaJ.K1 a0) (rt ZaJ.out) := by
 unfold ZaJ.K1
 refine SJ.seq <| SJ.sr 5 <| J.n 1 fun p12 => J.l 1 Ty50 fun x13 => J.z 1 <| J.f ?_ ?_
 ·exact SJ.sr 2 <| J.u 0 Zey .nil <| J.s 0 0 rfl Zey (Upd.w Zdm) <| J.z 0 <| J.rc (.c 0 rfl Zey .n)
 exact SJ.skip <| SJ.sr 8 <| J.n 1 fun p14 => J.l 1 Ty3 fun x15 => J.n 1 fun p16 => J.w 1 Ty3 <| J.z 0 <| SJ.seq <| J.R 12 Zcs <| J.n 1 fun p17 => J.l 1 Zqp fun x18 => J.n 1 fun p19 => J.l 1 Ty3 fun x20 => J.i 1 fun p21 => J.l 0 Zey fun x22 => J.s 0 0 rfl Zey (Upd.w x22) <| J.z 0 <| J.rc (.c 0 rfl Zey .n)
noncomputable def ZaJ (a0 : (Option Addr)) : M ZaD :=
 slot 122 >>= fun b1 =>
 draw >>= fun _ =>
 nilck a0 >>= fun p2 =>
 ld (cI .i64) (Addr.add p2 19) >>= fun x3 =>
 (if x3 = 0 then
   nilck a0 >>= fun p4 =>
   ld (cI .i64) (Addr.add p4 1) >>= fun x5 =>
   nilck a0 >>= fun p6 =>
   ld cL p6 >>= fun x7 =>
   pure (x5 == (x7.len : Int))
  else
   pure false) >>= fun y8 =>
 if y8 = true then
  nilck a0 >>= fun p24 =>
  ld (cI .i64) (Addr.add p24 2) >>= fun x25 =>
  ZaS a0 161 x25 >>= fun r26 =>
  ZaJ.K1 a0
 else
  ZaJ.K1 a0
theorem ZdF (a0 : (Option Addr)) : Ref Tryz.prog 40 [.pointer a0] (ZaJ a0) ZaJ.out := by
 refine J.Fn Tryz.func40 ?_
 unfold ZaJ
 refine SJ.sr 1 <| J.a 0 Zey fun b1 => J.z 0 <| SJ.seq <| SJ.seq <| J.R 17 Zcs <| J.n 1 fun p2 => J.l 1 Ty50 fun x3 => J.j 2 10 .bool ?_ ?_ fun y8 => ?_
 ·exact J.n 1 fun p4 => J.l 1 Ty3 fun x5 => J.n 1 fun p6 => J.l 1 Zqp fun x7 => J.e 3
 ·exact J.e 11
 refine J.z 0 <| J.f ?_ ?_
 ·exact SJ.rg 6 <| J.n 2 fun p24 => J.l 1 Ty3 fun x25 => J.C 0 F41 (Zbo _ _ _) fun r26 => J.z 0 <| J.q <| ZaJ.K1_ok a0 b1
 exact SJ.skip <| J.q <| ZaJ.K1_ok a0 b1

/-! ### slices.Index[[]string,string]: function 64 -/
noncomputable def Zaq.B : Code := bod Tryz.f64
noncomputable def Zaq.cx : Fx := ⟨Tryz.prog, 64, Tryz.f64, none⟩
noncomputable def Zaq.out (r_ : Int) : Value := .int .i64 r_
noncomputable def Zaq.F1 (a0 : Sl) (a1 : ByteArray) : LF Int Int := ⟨[.inBlock 0, .code (c2 (c2 Zaq.B))], c1 (c2 (c1 (c2 Zaq.B))), fun s_ => [(0, Sl.v a0), (1, .string a1), (7, .int .i64 (a0.len : Int)), (8, .int .i64 s_)], fun s_ => [], (rt Zaq.out)⟩
noncomputable def Zaq.L1 (a0 : Sl) (a1 : ByteArray) (s1 : Int) : M (LS Int Int) :=
 if s1 < (a0.len : Int) then
  idx a0.a a0.len s1 1 >>= fun p6 =>
  ld cS p6 >>= fun x7 =>
  if a1.toList = x7.toList then
   pure (LS.done s1)
  else
   pure (LS.next (IntKind.wrap .i64 (s1 + 1)))
 else
  pure (LS.done (-1))
theorem Zaq.L1_ok (a0 : Sl) (a1 : ByteArray) : LJ Zaq.cx (Zaq.F1 a0 a1) (fun s_ => Zaq.L1 a0 a1 s_) := by
 rintro s1
 show SJ _ _ _ _ (Zaq.L1 a0 a1 s1) _
 unfold Zaq.L1
 refine SJ.sr 1 <| J.z 1 <| SJ.seq <| J.f ?_ ?_
 ·refine SJ.skip <| SJ.seq <| SJ.block (id := 1) <| SJ.sr 2 <| J.z 2 <| SJ.sr 6 <| J.i 3 fun p6 => J.l 0 Ty9 fun x7 => J.z 1 <| J.f ?_ ?_
  ·exact SJ.sr 2 <| J.z 2 <| J.r
  exact SJ.skip <| SJ.inBlock <| SJ.rg 2 <| J.z 2 <| J.o rfl
 exact SJ.exit (id := 0) (by rfl) <| SJ.sr 1 <| J.z 1 <| J.r
noncomputable def Zaq (a0 : Sl) (a1 : ByteArray) : M Int :=
 ZcI (fun s_ : Int => Zaq.L1 a0 a1 s_) 0
theorem Zdz (a0 : Sl) (a1 : ByteArray) : Ref Tryz.prog 64 [Sl.v a0, .string a1] (Zaq a0 a1) Zaq.out := by
 refine J.Fn Tryz.func64 ?_
 unfold Zaq
 exact SJ.sr 1 <| J.z 1 <| SJ.seq <| SJ.sr 3 <| J.z 3 <| SJ.block (id := 0) <| J.L (Zaq.L1_ok a0 a1)

/-! ### (*weir/rules.reader).take: function 65 -/
noncomputable def Zbr.out (r_ : Bool) : Value := .bool r_
noncomputable def Zbr (a0 : (Option Addr)) (a1 : ByteArray) : M Bool :=
 draw >>= fun _ =>
 nilck a0 >>= fun p1 =>
 ld (cI .i64) (Addr.add p1 19) >>= fun x2 =>
 (if x2 ≠ 0 then
   pure true
  else
   nilck a0 >>= fun p3 =>
   ld (cI .i64) (Addr.add p3 1) >>= fun x4 =>
   nilck a0 >>= fun p5 =>
   ld cL p5 >>= fun x6 =>
   pure (x4 == (x6.len : Int))) >>= fun y7 =>
 (if y7 = true then
   pure true
  else
   nilck a0 >>= fun p8 =>
   ld cL p8 >>= fun x9 =>
   nilck a0 >>= fun p10 =>
   ld (cI .i64) (Addr.add p10 1) >>= fun x11 =>
   idx x9.a x9.len x11 2 >>= fun p12 =>
   ld cS p12 >>= fun x13 =>
   pure (!(x13.toList == a1.toList))) >>= fun y14 =>
 if y14 = true then
  pure false
 else
  nilck a0 >>= fun p15 =>
  ld (cI .i64) (Addr.add p15 1) >>= fun x16 =>
  nilck a0 >>= fun p17 =>
  st (cI .i64) (Addr.add p17 1) (IntKind.wrap .i64 (x16 + 1)) >>= fun _ =>
  pure true
theorem ZcF (a0 : (Option Addr)) (a1 : ByteArray) : Ref Tryz.prog 65 [.pointer a0, .string a1] (Zbr a0 a1) Zbr.out := by
 refine J.Fn Tryz.func65 ?_
 unfold Zbr
 refine SJ.sr 1 <| J.z 1 <| SJ.seq <| SJ.seq <| J.R 32 Zcs <| J.n 1 fun p1 => J.l 1 Ty50 fun x2 => J.j 2 10 .bool ?_ ?_ fun y7 => ?_
 ·exact J.e 11
 ·exact J.n 1 fun p3 => J.l 1 Ty3 fun x4 => J.n 1 fun p5 => J.l 1 Zqp fun x6 => J.e 3
 refine J.j 1 13 .bool ?_ ?_ fun y14 => ?_
 ·exact J.e 14
 ·exact J.n 1 fun p8 => J.l 1 Zqp fun x9 => J.n 1 fun p10 => J.l 1 Ty3 fun x11 => J.i 0 fun p12 => J.l 1 Ty9 fun x13 => J.e 3
 refine J.z 0 <| J.f ?_ ?_
 ·exact SJ.sr 1 <| J.z 1 <| J.r
 exact SJ.skip <| SJ.sr 8 <| J.n 1 fun p15 => J.l 1 Ty3 fun x16 => J.n 1 fun p17 => J.w 1 Ty3 <| J.z 0 <| SJ.sr 1 <| J.z 1 <| J.r

/-! ### (*weir/rules.reader).item: function 94 -/
noncomputable def Zb9.out (r_ : ZaD) : Value := Zbw.val r_
noncomputable def Zb9 (a0 : (Option Addr)) : M ZaD :=
 slot 122 >>= fun b1 =>
 ZaJ a0 >>= fun r2 =>
 slot 122 >>= fun b3 =>
 if r2.s.toList = str1.toList then
  ZaS a0 160 r2.at_ >>= fun r5 =>
  pure r2
 else
  pure r2
theorem ZdG (a0 : (Option Addr)) : Ref Tryz.prog 94 [.pointer a0] (Zb9 a0) Zb9.out := by
 refine J.Fn Tryz.func94 ?_
 unfold Zb9
 refine SJ.sr 1 <| J.a 0 Zey fun b1 => J.z 0 <| SJ.sr 4 <| J.C 1 F40 (ZdF _) fun r2 => J.a 0 Zey fun b3 => J.s 0 0 rfl Zey (Upd.w r2) <| J.z 0 <| SJ.seq <| SJ.sr 3 <| J.k 1 0 rfl Ty9 (Zbt _) <| J.z 1 <| J.f ?_ ?_
 ·exact SJ.rg 4 <| J.k 2 0 rfl Ty3 (ZbR _) <| J.C 0 F41 (Zbo _ _ _) fun r5 => J.z 0 <| SJ.sr 2 <| J.k 0 0 rfl Zey (At.whole _) <| J.s 0 1 rfl Zey (Upd.w r2) <| J.z 0 <| J.rc (.c 1 rfl Zey .n)
 exact SJ.skip <| SJ.sr 2 <| J.k 0 0 rfl Zey (At.whole _) <| J.s 0 1 rfl Zey (Upd.w r2) <| J.z 0 <| J.rc (.c 1 rfl Zey .n)

/-! ### weir/rules.number: function 95 -/
noncomputable def Zbj.B : Code := bod Tryz.f95
noncomputable def Zbj.cx : Fx := ⟨Tryz.prog, 95, Tryz.f95, none⟩
noncomputable def Zbj.out (r_ : (Int × Bool)) : Value := .tuple #[.int .i64 r_.1, .bool r_.2]
noncomputable def Zbj.F1 (a0 : ByteArray) (a1 : Int) (a2 : Int) : LF (Int × Int) (Int × Bool) := ⟨[.inBlock 0, .code (c2 (c2 (c2 (c2 Zbj.B))))], c1 (c2 (c1 (c2 (c2 (c2 Zbj.B))))), fun s_ => [(0, .string a0), (1, .int .i64 a1), (2, .int .i64 a2), (8, .int .i64 s_.1), (28, .int .i64 (a0.size : Int)), (29, .int .i64 s_.2)], fun s_ => [], (rt Zbj.out)⟩
noncomputable def Zbj.L1 (a0 : ByteArray) (a1 : Int) (a2 : Int) (s6 : Int) (s7 : Int) : M (LS (Int × Int) (Int × Bool)) :=
 if s7 < (a0.size : Int) then
  chk ((0 : Int) ≤ s7 ∧ s7 < (a0.size : Int)) >>= fun _ =>
  (if (sb a0 s7) < 48 then
    pure true
   else
    chk ((0 : Int) ≤ s7 ∧ s7 < (a0.size : Int)) >>= fun _ =>
    pure (decide ((sb a0 s7) > 57))) >>= fun y22 =>
  if y22 = true then
   pure (LS.done (0, false))
  else
   chk ((0 : Int) ≤ s7 ∧ s7 < (a0.size : Int)) >>= fun _ =>
   pure (LS.next (IntKind.wrap .i64 ((IntKind.wrap .i64 (10 * s6)) + (IntKind.wrap .i64 (IntKind.wrap .u8 ((sb a0 s7) - 48)))), IntKind.wrap .i64 (s7 + 1)))
 else
  Zb0 s6 a1 a2 >>= fun r26 =>
  pure (LS.done (s6, r26))
theorem Zbj.L1_ok (a0 : ByteArray) (a1 : Int) (a2 : Int) : LJ Zbj.cx (Zbj.F1 a0 a1 a2) (fun s_ => Zbj.L1 a0 a1 a2 s_.1 s_.2) := by
 rintro ⟨s6, s7⟩
 show SJ _ _ _ _ (Zbj.L1 a0 a1 a2 s6 s7) _
 unfold Zbj.L1
 refine SJ.sr 1 <| J.z 1 <| SJ.seq <| J.f ?_ ?_
 ·refine SJ.skip <| SJ.seq <| SJ.block (id := 1) <| SJ.sr 2 <| J.z 2 <| SJ.seq <| SJ.sr 10 <| J.t 2 fun hb18 hb19 => J.j 2 4 .bool ?_ ?_ fun y22 => ?_
  ·exact J.e 5
  ·exact J.t 2 fun hb20 hb21 => J.e 2
  refine J.z 0 <| J.f ?_ ?_
  ·exact SJ.sr 2 <| J.z 2 <| J.r
  exact SJ.skip <| SJ.rg 9 <| J.t 4 fun hb23 hb24 => J.z 4 <| SJ.inBlock <| SJ.rg 2 <| J.z 2 <| J.o rfl
 exact SJ.exit (id := 0) (by rfl) <| SJ.sr 7 <| J.C 4 F32 (Zcn _ _ _) fun r26 => J.z 2 <| J.r
noncomputable def Zbj (a0 : ByteArray) (a1 : Int) (a2 : Int) : M (Int × Bool) :=
 (if a0.toList = ByteArray.empty.toList then
   pure true
  else
   pure (decide ((a0.size : Int) > 9))) >>= fun y1 =>
 (if y1 = true then
   pure true
  else
   chk ((0 : Int) ≤ 0 ∧ 0 < (a0.size : Int)) >>= fun _ =>
   (if (sb a0 0) = 48 then
     pure (decide ((a0.size : Int) > 1))
    else
     pure false) >>= fun y4 =>
   pure y4) >>= fun y5 =>
 if y5 = true then
  pure (0, false)
 else
  ZcI (fun s_ : (Int × Int) => Zbj.L1 a0 a1 a2 s_.1 s_.2) (0, 0)
theorem ZfV (a0 : ByteArray) (a1 : Int) (a2 : Int) : Ref Tryz.prog 95 [.string a0, .int .i64 a1, .int .i64 a2] (Zbj a0 a1 a2) Zbj.out := by
 refine J.Fn Tryz.func95 ?_
 unfold Zbj
 refine SJ.sr 2 <| J.z 2 <| SJ.seq <| SJ.sr 17 <| J.j 3 3 .bool ?_ ?_ fun y1 => ?_
 ·exact J.e 4
 ·exact J.e 4
 refine J.g 1 <| OJ.join (b := y1) [8, 9, 10, 11, 12, 13, 14, 15, 16] [] [0, 1, 2, 26] (fun y5 => [(0, .string a0), (1, .int .i64 a1), (2, .int .i64 a2), (26, .bool y5)]) [] [] (t := 17) Iff.rfl (fun hp_ => ?_) (fun hp_ => ?_) (fun _ _ _ _ _ _ h_ => h_) fun y5 => ?_
 ·exact J.g 9 <| OJ.nil ⟨(Cov.mem Cov.nil), rfl, _, rfl, by kernel_rfl⟩
 ·refine J.t 1 fun hb2 hb3 => J.g 2 <| OJ.join (b := ((sb a0 0) == 48)) [12, 13, 14, 15] [16] [0, 1, 2, 17, 25] (fun y4 => [(0, .string a0), (1, .int .i64 a1), (2, .int .i64 a2), (17, .bool false), (25, .bool y4)]) [] [] (t := 21) beq_iff_eq (fun hp_ => ?_) (fun hp_ => ?_) (fun _ _ _ _ _ hq_ h_ => ⟨fun e_ he_ => (hq_ e_ he_).elim (fun h => h_.1 e_ h) (fun h => nomatch h), h_.2⟩) fun y4 => ?_
  ·exact J.g 4 <| OJ.nil ⟨(Cov.mem Cov.nil), rfl, _, rfl, by kernel_rfl⟩
  ·exact J.g 4 <| OJ.nil ⟨(Cov.mem Cov.nil), rfl, _, rfl, by kernel_rfl⟩
  exact J.g 1 <| OJ.nil ⟨(Cov.mem Cov.nil), rfl, _, rfl, by kernel_rfl⟩
 refine J.z 0 <| J.f ?_ ?_
 ·exact SJ.sr 2 <| J.z 2 <| J.r
 exact SJ.skip <| SJ.sr 1 <| J.z 1 <| SJ.seq <| SJ.sr 3 <| J.z 3 <| SJ.block (id := 0) <| J.L (Zbj.L1_ok a0 a1 a2)

/-! ### (*weir/rules.reader).number: function 66 -/
noncomputable def Zb2.out (r_ : Int) : Value := .int .i64 r_
noncomputable def Zb2 (a0 : (Option Addr)) (a1 : Int) (a2 : Int) : M Int :=
 Zb9 a0 >>= fun r1 =>
 slot 122 >>= fun b2 =>
 Zbj r1.s a1 a2 >>= fun r3 =>
 nilck a0 >>= fun p4 =>
 ld (cI .i64) (Addr.add p4 19) >>= fun x5 =>
 (if x5 = 0 then
   pure (!r3.2)
  else
   pure false) >>= fun y6 =>
 if y6 = true then
  ZaS a0 162 r1.at_ >>= fun r8 =>
  pure r3.1
 else
  pure r3.1
theorem Zd0 (a0 : (Option Addr)) (a1 : Int) (a2 : Int) : Ref Tryz.prog 66 [.pointer a0, .int .i64 a1, .int .i64 a2] (Zb2 a0 a1 a2) Zb2.out := by
 refine J.Fn Tryz.func66 ?_
 unfold Zb2
 refine SJ.sr 1 <| J.z 1 <| SJ.sr 4 <| J.C 1 F94 (ZdG _) fun r1 => J.a 0 Zey fun b2 => J.s 0 0 rfl Zey (Upd.w r1) <| J.z 0 <| SJ.sr 10 <| J.k 1 0 rfl Ty9 (Zbt _) <| J.C 2 F95 (ZfV _ _ _) fun r3 => J.z 5 <| SJ.seq <| SJ.sr 9 <| J.n 1 fun p4 => J.l 1 Ty50 fun x5 => J.j 2 2 .bool ?_ ?_ fun y6 => ?_
 ·exact J.e 3
 ·exact J.e 3
 refine J.z 0 <| J.f ?_ ?_
 ·exact SJ.rg 4 <| J.k 2 0 rfl Ty3 (ZbR _) <| J.C 0 F41 (Zbo _ _ _) fun r8 => J.z 0 <| SJ.sr 2 <| J.z 2 <| J.r
 exact SJ.skip <| SJ.sr 2 <| J.z 2 <| J.r

/-! ### weir/rules.protoOf: function 96 -/
noncomputable def Zd6.out (r_ : (Int × Bool)) : Value := .tuple #[.int .i64 r_.1, .bool r_.2]
noncomputable def Zd6 (a0 : ByteArray) : M (Int × Bool) :=
 if a0.toList = str2.toList then
  pure (6, true)
 else
  if a0.toList = str3.toList then
   pure (17, true)
  else
   if a0.toList = str4.toList then
    pure (1, true)
   else
    if a0.toList = str5.toList then
     pure (58, true)
    else
     pure (0, false)
theorem Zie (a0 : ByteArray) : Ref Tryz.prog 96 [.string a0] (Zd6 a0) Zd6.out := by
 refine J.Fn Tryz.func96 ?_
 unfold Zd6
 refine SJ.sr 2 <| J.z 2 <| SJ.seq <| SJ.sr 1 <| J.z 1 <| SJ.block (id := 0) <| SJ.sr 2 <| J.z 2 <| J.f ?_ ?_
 ·exact SJ.sr 2 <| J.z 2 <| J.r
 refine SJ.sr 2 <| J.z 2 <| J.f ?_ ?_
 ·exact SJ.sr 2 <| J.z 2 <| J.r
 refine SJ.sr 2 <| J.z 2 <| J.f ?_ ?_
 ·exact SJ.sr 2 <| J.z 2 <| J.r
 refine SJ.sr 2 <| J.z 2 <| J.f ?_ ?_
 ·exact SJ.sr 2 <| J.z 2 <| J.r
 exact SJ.skip <| SJ.inBlock <| SJ.sr 2 <| J.z 2 <| J.r

/-! ### weir/rules.begins: function 67 -/
noncomputable def Zd8.out (r_ : Bool) : Value := .bool r_
noncomputable def Zd8 (a0 : ZaD) : M Bool :=
 slot 122 >>= fun b1 =>
 Zd6 a0.s >>= fun r2 =>
 (if r2.2 = true then
   pure true
  else
   pure (a0.s.toList == str6.toList)) >>= fun y3 =>
 pure y3
theorem ZiI (a0 : ZaD) : Ref Tryz.prog 67 [Zbw.val a0] (Zd8 a0) Zd8.out := by
 refine J.Fn Tryz.func67 ?_
 unfold Zd8
 refine SJ.sr 2 <| J.b 0 Zbw a0 fun b1 => J.z 1 <| SJ.sr 8 <| J.k 1 0 rfl Ty9 (Zbt _) <| J.C 0 F96 (Zie _) fun r2 => J.z 5 <| SJ.sr 7 <| J.j 2 3 .bool ?_ ?_ fun y3 => ?_
 ·exact J.e 4
 ·exact J.k 1 0 rfl Ty9 (Zbt _) <| J.e 2
 exact J.z 1 <| J.r

/-! ### (*weir/rules.reader).proto: function 68 -/
noncomputable def Zcj.out (r_ : Unit) : Value := .tuple #[]
noncomputable def Zcj (a0 : (Option Addr)) (a1 : ZaD) : M Unit :=
 slot 122 >>= fun b1 =>
 nilck a0 >>= fun p2 =>
 ld (cI .i64) (Addr.add (Addr.add p2 3) 2) >>= fun x3 =>
 if x3 = 1 then
  ZaS a0 165 a1.at_ >>= fun r5 =>
  pure ()
 else
  Zd6 a1.s >>= fun r6 =>
  if ¬ (r6.2 = true) then
   Zb2 a0 1 255 >>= fun r8 =>
   nilck a0 >>= fun p9 =>
   st (cI .i64) (Addr.add (Addr.add p9 3) 3) r8 >>= fun _ =>
   pure ()
  else
   nilck a0 >>= fun p10 =>
   st (cI .i64) (Addr.add (Addr.add p10 3) 3) r6.1 >>= fun _ =>
   pure ()
theorem Zgt (a0 : (Option Addr)) (a1 : ZaD) : Ref Tryz.prog 68 [.pointer a0, Zbw.val a1] (Zcj a0 a1) Zcj.out := by
 refine J.Fn Tryz.func68 ?_
 unfold Zcj
 refine SJ.sr 1 <| J.b 0 Zbw a1 fun b1 => J.z 0 <| SJ.seq <| SJ.sr 6 <| J.n 1 fun p2 => J.l 2 Ty3 fun x3 => J.z 1 <| J.f ?_ ?_
 ·exact SJ.sr 4 <| J.k 2 0 rfl Ty3 (ZbR _) <| J.C 0 F41 (Zbo _ _ _) fun r5 => J.z 0 <| J.r
 refine SJ.skip <| SJ.sr 8 <| J.k 1 0 rfl Ty9 (Zbt _) <| J.C 0 F96 (Zie _) fun r6 => J.z 5 <| SJ.seq <| SJ.sr 2 <| J.z 2 <| J.f ?_ ?_
 ·exact SJ.rg 3 <| J.C 1 F66 (Zd0 _ _ _) fun r8 => J.z 1 <| SJ.rg 6 <| J.n 2 fun p9 => J.w 2 Ty3 <| J.z 0 <| SJ.end_ rfl (Res.run (ys := []) .nil rfl)
 exact SJ.skip <| SJ.rg 6 <| J.n 2 fun p10 => J.w 2 Ty3 <| J.z 0 <| SJ.end_ rfl (Res.run (ys := []) .nil rfl)

/-! ### (*weir/rules.reader).head: function 39 -/
noncomputable def Zat.B : Code := bod Tryz.f39
noncomputable def Zat.cx : Fx := ⟨Tryz.prog, 39, Tryz.f39, none⟩
noncomputable def Zat.out (r_ : Unit) : Value := .tuple #[]
noncomputable def Zat.K1 (a0 : (Option Addr)) : M Unit :=
 ZaJ a0 >>= fun r18 =>
 nilck a0 >>= fun p19 =>
 ld (cI .i64) (Addr.add p19 19) >>= fun x20 =>
 (if x20 ≠ 0 then
   pure true
  else
   pure (r18.s.toList == str8.toList)) >>= fun y21 =>
 if y21 = true then
  pure ()
 else
  ld cL ⟨1, 0, none⟩ >>= fun x22 =>
  Zaq x22 r18.s >>= fun r23 =>
  nilck a0 >>= fun p24 =>
  st (cI .i64) (Addr.add (Addr.add p24 3) 2) (IntKind.wrap .i64 (r23 + 1)) >>= fun _ =>
  nilck a0 >>= fun p25 =>
  ld (cI .i64) (Addr.add (Addr.add p25 3) 2) >>= fun x26 =>
  (if x26 = 0 then
    Zd8 r18 >>= fun r27 =>
    pure r27
   else
    pure false) >>= fun y28 =>
  if y28 = true then
   Zcj a0 r18 >>= fun r75 =>
   pure ()
  else
   nilck a0 >>= fun p76 =>
   ld (cI .i64) (Addr.add (Addr.add p76 3) 2) >>= fun x77 =>
   if x77 = 0 then
    ZaS a0 160 r18.at_ >>= fun r99 =>
    pure ()
   else
    draw >>= fun _ =>
    nilck a0 >>= fun p100 =>
    ld (cI .i64) (Addr.add (Addr.add p100 3) 2) >>= fun x101 =>
    (if x101 > 0 then
      nilck a0 >>= fun p102 =>
      ld (cI .i64) (Addr.add p102 1) >>= fun x103 =>
      nilck a0 >>= fun p104 =>
      ld cL p104 >>= fun x105 =>
      pure (decide (x103 < (x105.len : Int)))
     else
      pure false) >>= fun y106 =>
    (if y106 = true then
      nilck a0 >>= fun p107 =>
      ld cL p107 >>= fun x108 =>
      nilck a0 >>= fun p109 =>
      ld (cI .i64) (Addr.add p109 1) >>= fun x110 =>
      idx x108.a x108.len x110 2 >>= fun p111 =>
      ld Zbw p111 >>= fun x112 =>
      Zd8 x112 >>= fun r113 =>
      pure r113
     else
      pure false) >>= fun y114 =>
    if y114 = true then
     ZaJ a0 >>= fun r117 =>
     Zcj a0 r117 >>= fun r118 =>
     pure ()
    else
     pure ()
theorem Zat.K1_ok (a0 : (Option Addr)) (r1 : ZaD) (b2 : Nat) :
  SJ Zat.cx [.code (c2 (c2 (c2 (c2 Zat.B))))] [(0, .pointer a0), (2, .pointer (some (pt b2 0)))] [(b2, Zbw.enc r1)] (Zat.K1 a0) (rt Zat.out) := by
 unfold Zat.K1
 refine SJ.sr 3 <| J.C 1 F40 (ZdF _) fun r18 => J.s 0 0 rfl Zey (Upd.w r18) <| J.z 0 <| SJ.seq <| SJ.sr 10 <| J.n 1 fun p19 => J.l 1 Ty50 fun x20 => J.j 2 3 .bool ?_ ?_ fun y21 => ?_
 ·exact J.e 4
 ·exact J.k 1 0 rfl Ty9 (Zbt _) <| J.e 2
 refine J.z 0 <| J.f ?_ ?_
 ·exact J.r
 refine SJ.skip <| SJ.sr 10 <| J.l 1 Ztx fun x22 => J.k 1 0 rfl Ty9 (Zbt _) <| J.C 0 F64 (Zdz _ _) fun r23 => J.n 1 fun p24 => J.w 2 Ty3 <| J.z 0 <| SJ.block (id := 0) <| SJ.sr 11 <| J.n 1 fun p25 => J.l 2 Ty3 fun x26 => J.j 2 2 .bool ?_ ?_ fun y28 => ?_
 ·exact J.k 0 0 rfl Zey (At.whole _) <| J.C 0 F67 (ZiI _) fun r27 => J.e 1
 ·exact J.e 3
 refine J.z 1 <| J.f ?_ ?_
 ·exact SJ.rg 3 <| J.k 1 0 rfl Zey (At.whole _) <| J.C 0 F68 (Zgt _ _) fun r75 => J.z 0 <| SJ.inBlock <| SJ.end_ rfl (Res.run (ys := []) .nil rfl)
 refine SJ.sr 7 <| J.n 1 fun p76 => J.l 2 Ty3 fun x77 => J.z 2 <| J.f ?_ ?_
 ·exact SJ.rg 4 <| J.k 2 0 rfl Ty3 (ZbR _) <| J.C 0 F41 (Zbo _ _ _) fun r99 => J.z 0 <| SJ.inBlock <| SJ.end_ rfl (Res.run (ys := []) .nil rfl)
 refine SJ.seq <| J.R 32 Zcs <| J.n 1 fun p100 => J.l 2 Ty3 fun x101 => J.j 2 10 .bool ?_ ?_ fun y106 => ?_
 ·exact J.n 1 fun p102 => J.l 1 Ty3 fun x103 => J.n 1 fun p104 => J.l 1 Zqp fun x105 => J.e 3
 ·exact J.e 11
 refine J.j 1 11 .bool ?_ ?_ fun y114 => ?_
 ·exact J.n 1 fun p107 => J.l 1 Zqp fun x108 => J.n 1 fun p109 => J.l 1 Ty3 fun x110 => J.i 0 fun p111 => J.l 0 Zey fun x112 => J.C 0 F67 (ZiI _) fun r113 => J.e 1
 ·exact J.e 12
 refine J.z 1 <| J.f ?_ ?_
 ·exact SJ.rg 4 <| J.C 2 F40 (ZdF _) fun r117 => J.C 0 F68 (Zgt _ _) fun r118 => J.z 0 <| SJ.inBlock <| SJ.end_ rfl (Res.run (ys := []) .nil rfl)
 exact SJ.skip <| SJ.inBlock <| SJ.end_ rfl (Res.run (ys := []) .nil rfl)
noncomputable def Zat.K2 (a0 : (Option Addr)) : M Unit :=
 nilck a0 >>= fun p12 =>
 ld (cI .i64) (Addr.add p12 3) >>= fun x13 =>
 (if x13 = 1 then
   Zbr a0 str7 >>= fun r14 =>
   pure r14
  else
   pure false) >>= fun y15 =>
 if y15 = true then
  Zb2 a0 0 7 >>= fun r123 =>
  nilck a0 >>= fun p124 =>
  st (cI .i64) (Addr.add (Addr.add p124 3) 1) r123 >>= fun _ =>
  Zat.K1 a0
 else
  Zat.K1 a0
theorem Zat.K2_ok (a0 : (Option Addr)) (r1 : ZaD) (b2 : Nat) :
  SJ Zat.cx [.code (c2 (c2 (c2 Zat.B)))] [(0, .pointer a0), (2, .pointer (some (pt b2 0)))] [(b2, Zbw.enc r1)] (Zat.K2 a0) (rt Zat.out) := by
 unfold Zat.K2
 refine SJ.seq <| SJ.sr 10 <| J.n 1 fun p12 => J.l 2 Ty3 fun x13 => J.j 2 2 .bool ?_ ?_ fun y15 => ?_
 ·exact J.C 1 F65 (ZcF _ _) fun r14 => J.e 1
 ·exact J.e 3
 refine J.z 0 <| J.f ?_ ?_
 ·exact SJ.rg 7 <| J.C 2 F66 (Zd0 _ _ _) fun r123 => J.n 0 fun p124 => J.w 2 Ty3 <| J.z 0 <| J.q <| Zat.K1_ok a0 r1 b2
 exact SJ.skip <| J.q <| Zat.K1_ok a0 r1 b2
noncomputable def Zat (a0 : (Option Addr)) : M Unit :=
 ZaJ a0 >>= fun r1 =>
 slot 122 >>= fun b2 =>
 ld cL ⟨0, 0, none⟩ >>= fun x3 =>
 Zaq x3 r1.s >>= fun r4 =>
 nilck a0 >>= fun p5 =>
 st (cI .i64) (Addr.add p5 3) (IntKind.wrap .i64 (r4 + 1)) >>= fun _ =>
 nilck a0 >>= fun p6 =>
 ld (cI .i64) (Addr.add p6 19) >>= fun x7 =>
 (if x7 = 0 then
   nilck a0 >>= fun p8 =>
   ld (cI .i64) (Addr.add p8 3) >>= fun x9 =>
   pure (x9 == 0)
  else
   pure false) >>= fun y10 =>
 if y10 = true then
  ZaS a0 160 r1.at_ >>= fun r126 =>
  Zat.K2 a0
 else
  Zat.K2 a0
theorem Zjq (a0 : (Option Addr)) : Ref Tryz.prog 39 [.pointer a0] (Zat a0) Zat.out := by
 refine J.Fn Tryz.func39 ?_
 unfold Zat
 refine SJ.sr 4 <| J.C 1 F40 (ZdF _) fun r1 => J.a 0 Zey fun b2 => J.s 0 0 rfl Zey (Upd.w r1) <| J.z 0 <| SJ.sr 10 <| J.l 1 Ztx fun x3 => J.k 1 0 rfl Ty9 (Zbt _) <| J.C 0 F64 (Zdz _ _) fun r4 => J.n 1 fun p5 => J.w 2 Ty3 <| J.z 0 <| SJ.seq <| SJ.sr 13 <| J.n 1 fun p6 => J.l 1 Ty50 fun x7 => J.j 2 6 .bool ?_ ?_ fun y10 => ?_
 ·exact J.n 1 fun p8 => J.l 2 Ty3 fun x9 => J.e 2
 ·exact J.e 7
 refine J.z 0 <| J.f ?_ ?_
 ·exact SJ.rg 4 <| J.k 2 0 rfl Ty3 (ZbR _) <| J.C 0 F41 (Zbo _ _ _) fun r126 => J.z 0 <| J.q <| Zat.K2_ok a0 r1 b2
 exact SJ.skip <| J.q <| Zat.K2_ok a0 r1 b2

/-! ### internal/stringslite.HasPrefix: function 126 -/
noncomputable def Zca.out (r_ : Bool) : Value := .bool r_
noncomputable def Zca (a0 : ByteArray) (a1 : ByteArray) : M Bool :=
 (if (a0.size : Int) ≥ (a1.size : Int) then
   chk (0 ≤ (0 : Int) ∧ (0 : Int) ≤ (a1.size : Int) ∧ (a1.size : Int) ≤ (a0.size : Int)) >>= fun _ =>
   pure ((ByteArray.extract a0 (Int.toNat 0) (Int.toNat (a1.size : Int))).toList == a1.toList)
  else
   pure false) >>= fun y1 =>
 pure y1
theorem ZfK (a0 : ByteArray) (a1 : ByteArray) : Ref Tryz.prog 126 [.string a0, .string a1] (Zca a0 a1) Zca.out := by
 refine J.Fn Tryz.func126 ?_
 unfold Zca
 refine SJ.sr 1 <| J.z 1 <| SJ.sr 14 <| J.j 6 6 .bool ?_ ?_ fun y1 => ?_
 ·exact J.ct 3 <| J.e 3
 ·exact J.e 7
 exact J.z 1 <| J.r

/-! ### internal/stringslite.CutPrefix: function 115 -/
noncomputable def ZcS.out (r_ : (ByteArray × Bool)) : Value := .tuple #[.string r_.1, .bool r_.2]
noncomputable def ZcS (a0 : ByteArray) (a1 : ByteArray) : M (ByteArray × Bool) :=
 Zca a0 a1 >>= fun r1 =>
 if ¬ (r1 = true) then
  pure (a0, false)
 else
  chk (0 ≤ ((a1.size : Int) : Int) ∧ ((a1.size : Int) : Int) ≤ (a0.size : Int) ∧ (a0.size : Int) ≤ (a0.size : Int)) >>= fun _ =>
  pure ((ByteArray.extract a0 (Int.toNat (a1.size : Int)) (Int.toNat (a0.size : Int))), true)
theorem ZhC (a0 : ByteArray) (a1 : ByteArray) : Ref Tryz.prog 115 [.string a0, .string a1] (ZcS a0 a1) ZcS.out := by
 refine J.Fn Tryz.func115 ?_
 unfold ZcS
 refine SJ.sr 2 <| J.z 2 <| SJ.seq <| SJ.sr 4 <| J.C 2 F126 (ZfK _ _) fun r1 => J.z 1 <| J.f ?_ ?_
 ·exact SJ.sr 3 <| J.z 3 <| J.r
 exact SJ.skip <| SJ.sr 6 <| J.ct 3 <| J.z 2 <| J.r

/-! ### strings.CutPrefix: function 97 -/
noncomputable def Zcv.out (r_ : (ByteArray × Bool)) : Value := .tuple #[.string r_.1, .bool r_.2]
noncomputable def Zcv (a0 : ByteArray) (a1 : ByteArray) : M (ByteArray × Bool) :=
 ZcS a0 a1 >>= fun r1 =>
 pure (r1.1, r1.2)
theorem ZgF (a0 : ByteArray) (a1 : ByteArray) : Ref Tryz.prog 97 [.string a0, .string a1] (Zcv a0 a1) Zcv.out := by
 refine J.Fn Tryz.func97 ?_
 unfold Zcv
 exact SJ.sr 2 <| J.z 2 <| SJ.sr 7 <| J.C 2 F115 (ZhC _ _) fun r1 => J.z 4 <| J.r

/-! ### (*weir/rules.reader).port: function 69 -/
noncomputable def Zdh.out (r_ : Int) : Value := .int .i64 r_
noncomputable def Zdh (a0 : (Option Addr)) : M Int :=
 Zb9 a0 >>= fun r1 =>
 slot 122 >>= fun b2 =>
 Zcv r1.s str9 >>= fun r3 =>
 Zbj r3.1 0 7 >>= fun r4 =>
 nilck a0 >>= fun p5 =>
 ld (cI .i64) (Addr.add p5 19) >>= fun x6 =>
 (if x6 = 0 then
   (if ¬ (r3.2 = true) then
     pure true
    else
     pure (!r4.2)) >>= fun y7 =>
   pure y7
  else
   pure false) >>= fun y8 =>
 if y8 = true then
  ZaS a0 162 r1.at_ >>= fun r10 =>
  pure r4.1
 else
  pure r4.1
theorem Zjp (a0 : (Option Addr)) : Ref Tryz.prog 69 [.pointer a0] (Zdh a0) Zdh.out := by
 refine J.Fn Tryz.func69 ?_
 unfold Zdh
 refine SJ.sr 1 <| J.z 1 <| SJ.sr 4 <| J.C 1 F94 (ZdG _) fun r1 => J.a 0 Zey fun b2 => J.s 0 0 rfl Zey (Upd.w r1) <| J.z 0 <| SJ.sr 8 <| J.k 1 0 rfl Ty9 (Zbt _) <| J.C 0 F97 (ZgF _ _) fun r3 => J.z 5 <| SJ.sr 7 <| J.C 1 F95 (ZfV _ _ _) fun r4 => J.z 5 <| SJ.seq <| SJ.sr 13 <| J.n 1 fun p5 => J.l 1 Ty50 fun x6 => J.g 2 <| OJ.join (b := (x6 == 0)) [6, 7, 8, 9, 10, 11, 12] [] [0, 3, 6, 33] (fun y8 => [(0, .pointer a0), (3, .pointer (some (pt b2 0))), (6, .int .i64 r4.1), (33, .bool y8)]) [] [] (t := 26) beq_iff_eq (fun hp_ => ?_) (fun hp_ => ?_) (fun _ _ _ _ _ _ h_ => h_) fun y8 => ?_
 ·refine J.g 3 <| OJ.join (b := (!r3.2)) [9, 10, 11] [12] [0, 3, 6, 26, 32] (fun y7 => [(0, .pointer a0), (3, .pointer (some (pt b2 0))), (6, .int .i64 r4.1), (26, .bool true), (32, .bool y7)]) [] [] (t := 29) (Zoy Iff.rfl) (fun hp_ => ?_) (fun hp_ => ?_) (fun _ _ _ _ _ hq_ h_ => ⟨fun e_ he_ => (hq_ e_ he_).elim (fun h => h_.1 e_ h) (fun h => nomatch h), h_.2⟩) fun y7 => ?_
  ·exact J.g 3 <| OJ.nil ⟨(Cov.mem Cov.nil), rfl, _, rfl, by kernel_rfl⟩
  ·exact J.g 3 <| OJ.nil ⟨(Cov.mem Cov.nil), rfl, _, rfl, by kernel_rfl⟩
  exact J.g 1 <| OJ.nil ⟨(Cov.mem Cov.nil), rfl, _, rfl, by kernel_rfl⟩
 ·exact J.g 7 <| OJ.nil ⟨(Cov.mem Cov.nil), rfl, _, rfl, by kernel_rfl⟩
 refine J.z 0 <| J.f ?_ ?_
 ·exact SJ.rg 4 <| J.k 2 0 rfl Ty3 (ZbR _) <| J.C 0 F41 (Zbo _ _ _) fun r10 => J.z 0 <| SJ.sr 2 <| J.z 2 <| J.r
 exact SJ.skip <| SJ.sr 2 <| J.z 2 <| J.r

/-! ### internal/stringslite.IndexByte: function 152 -/
noncomputable def ZcQ.out (r_ : Int) : Value := .int .i64 r_
noncomputable def ZcQ (a0 : ByteArray) (a1 : Int) : M Int :=
 idxB a0 a1 >>= fun r1 =>
 pure r1
theorem ZhB (a0 : ByteArray) (a1 : Int) : Ref Tryz.prog 152 [.string a0, .int .u8 a1] (ZcQ a0 a1) ZcQ.out := by
 refine J.Fn Tryz.func152 ?_
 unfold ZcQ
 exact SJ.sr 1 <| J.z 1 <| SJ.sr 4 <| J.g 2 <| OJ.ext (d := 7) (g := 161) (ats := #[9, 5]) (args := [.tmp 5, .tmp 6]) (out := fun r => .int .i64 r) (owed := []) Tryz.func161 Zur fun r1 => OW.nil <| J.z 1 <| J.r

/-! ### internal/stringslite.Index: function 143 -/
noncomputable def ZcR.out (r_ : Int) : Value := .int .i64 r_
noncomputable def ZcR (a0 : ByteArray) (a1 : ByteArray) : M Int :=
 (if (a1.size : Int) = 0 then
   pure true
  else
   pure (a1.toList == a0.toList)) >>= fun y1 =>
 if y1 = true then
  pure 0
 else
  if (a1.size : Int) = 1 then
   chk ((0 : Int) ≤ 0 ∧ 0 < (a1.size : Int)) >>= fun _ =>
   ZcQ a0 (sb a1 0) >>= fun r14 =>
   pure r14
  else
   fail
theorem ZgE (a0 : ByteArray) (a1 : ByteArray) : Ref Tryz.prog 143 [.string a0, .string a1] (ZcR a0 a1) ZcR.out := by
 refine J.Fn Tryz.func143 ?_
 unfold ZcR
 refine SJ.sr 1 <| J.z 1 <| SJ.sr 3 <| J.z 3 <| SJ.seq <| SJ.block (id := 0) <| SJ.sr 8 <| J.j 3 3 .bool ?_ ?_ fun y1 => ?_
 ·exact J.e 4
 ·exact J.e 4
 refine J.z 1 <| J.f ?_ ?_
 ·exact SJ.sr 1 <| J.z 1 <| J.r
 refine SJ.sr 3 <| J.z 3 <| J.f ?_ ?_
 ·exact SJ.sr 5 <| J.t 2 fun hb12 hb13 => J.C 0 F152 (ZhB _ _) fun r14 => J.z 1 <| J.r
 exact SJ.fail

/-! ### internal/stringslite.Cut: function 129 -/
noncomputable def ZdR.out (r_ : (ByteArray × ByteArray × Bool)) : Value := .tuple #[.string r_.1, .string r_.2.1, .bool r_.2.2]
noncomputable def ZdR (a0 : ByteArray) (a1 : ByteArray) : M (ByteArray × ByteArray × Bool) :=
 ZcR a0 a1 >>= fun r1 =>
 if r1 ≥ 0 then
  draw >>= fun _ =>
  chk (0 ≤ (0 : Int) ∧ (0 : Int) ≤ r1 ∧ r1 ≤ (a0.size : Int)) >>= fun _ =>
  chk (0 ≤ ((IntKind.wrap .i64 (r1 + (a1.size : Int))) : Int) ∧ ((IntKind.wrap .i64 (r1 + (a1.size : Int))) : Int) ≤ (a0.size : Int) ∧ (a0.size : Int) ≤ (a0.size : Int)) >>= fun _ =>
  pure ((ByteArray.extract a0 (Int.toNat 0) (Int.toNat r1)), (ByteArray.extract a0 (Int.toNat (IntKind.wrap .i64 (r1 + (a1.size : Int)))) (Int.toNat (a0.size : Int))), true)
 else
  pure (a0, ByteArray.empty, false)
theorem Zkh (a0 : ByteArray) (a1 : ByteArray) : Ref Tryz.prog 129 [.string a0, .string a1] (ZdR a0 a1) ZdR.out := by
 refine J.Fn Tryz.func129 ?_
 unfold ZdR
 refine SJ.sr 3 <| J.z 3 <| SJ.seq <| SJ.sr 4 <| J.C 2 F143 (ZgE _ _) fun r1 => J.z 1 <| SJ.sr 2 <| J.z 2 <| J.f ?_ ?_
 ·exact SJ.seq <| J.R 12 Zcs <| J.ct 2 <| J.ct 5 <| J.z 3 <| J.r
 exact SJ.skip <| SJ.sr 4 <| J.z 4 <| J.r

/-! ### strings.Cut: function 118 -/
noncomputable def ZdS.out (r_ : (ByteArray × ByteArray × Bool)) : Value := .tuple #[.string r_.1, .string r_.2.1, .bool r_.2.2]
noncomputable def ZdS (a0 : ByteArray) (a1 : ByteArray) : M (ByteArray × ByteArray × Bool) :=
 ZdR a0 a1 >>= fun r1 =>
 pure (r1.1, r1.2.1, r1.2.2)
theorem Zjy (a0 : ByteArray) (a1 : ByteArray) : Ref Tryz.prog 118 [.string a0, .string a1] (ZdS a0 a1) ZdS.out := by
 refine J.Fn Tryz.func118 ?_
 unfold ZdS
 exact SJ.sr 3 <| J.z 3 <| SJ.sr 9 <| J.C 2 F129 (Zkh _ _) fun r1 => J.z 6 <| J.r

/-! ### strings.Index: function 149 -/
noncomputable def Zfn.out (r_ : Int) : Value := .int .i64 r_
noncomputable def Zfn (a0 : ByteArray) (a1 : ByteArray) : M Int :=
 ZcR a0 a1 >>= fun r1 =>
 pure r1
theorem ZlP (a0 : ByteArray) (a1 : ByteArray) : Ref Tryz.prog 149 [.string a0, .string a1] (Zfn a0 a1) Zfn.out := by
 refine J.Fn Tryz.func149 ?_
 unfold Zfn
 exact SJ.sr 1 <| J.z 1 <| SJ.sr 4 <| J.C 2 F143 (ZgE _ _) fun r1 => J.z 1 <| J.r

/-! ### strings.Contains: function 137 -/
noncomputable def Zdy.out (r_ : Bool) : Value := .bool r_
noncomputable def Zdy (a0 : ByteArray) (a1 : ByteArray) : M Bool :=
 Zfn a0 a1 >>= fun r1 =>
 pure (decide (r1 ≥ 0))
theorem ZjS (a0 : ByteArray) (a1 : ByteArray) : Ref Tryz.prog 137 [.string a0, .string a1] (Zdy a0 a1) Zdy.out := by
 refine J.Fn Tryz.func137 ?_
 unfold Zdy
 exact SJ.sr 1 <| J.z 1 <| SJ.sr 5 <| J.C 2 F149 (ZlP _ _) fun r1 => J.z 2 <| J.r

/-! ### weir/addr.missing: function 142 -/
noncomputable def Zec.out (r_ : (Option Addr)) : Value := .pointer r_
noncomputable def Zec (a0 : ByteArray) (a1 : Int) : M (Option Addr) :=
 if a1 = (a0.size : Int) then
  newv 225 ZbG (⟨42, a1⟩ : Zb5) >>= fun b2 =>
  pure (some (pt b2 0))
 else
  newv 225 ZbG (⟨41, a1⟩ : Zb5) >>= fun b3 =>
  pure (some (pt b3 0))
theorem Zg1 (a0 : ByteArray) (a1 : Int) : Ref Tryz.prog 142 [.string a0, .int .i64 a1] (Zec a0 a1) Zec.out := by
 refine J.Fn Tryz.func142 ?_
 unfold Zec
 refine SJ.sr 1 <| J.z 1 <| SJ.seq <| SJ.sr 4 <| J.z 4 <| J.f ?_ ?_
 ·exact SJ.sr 4 <| J.u 1 ZkM (.f 0 (ZbH _ 42) (.f 1 (ZbI _ a1) .nil)) <| J.B 0 fun b2 => J.z 1 <| J.r
 exact SJ.skip <| SJ.sr 4 <| J.u 1 ZkM (.f 0 (ZbH _ 41) (.f 1 (ZbI _ a1) .nil)) <| J.B 0 fun b3 => J.z 1 <| J.r

/-! ### weir/addr.digit: function 141 -/
noncomputable def ZfN.out (r_ : Bool) : Value := .bool r_
noncomputable def ZfN (a0 : Int) : M Bool :=
 (if a0 ≥ 48 then
   pure (decide (a0 ≤ 57))
  else
   pure false) >>= fun y1 =>
 pure y1
theorem ZkF (a0 : Int) : Ref Tryz.prog 141 [.int .u8 a0] (ZfN a0) ZfN.out := by
 refine J.Fn Tryz.func141 ?_
 unfold ZfN
 refine SJ.sr 1 <| J.z 1 <| SJ.sr 7 <| J.j 3 2 .bool ?_ ?_ fun y1 => ?_
 ·exact J.e 3
 ·exact J.e 3
 exact J.z 1 <| J.r

/-! ### weir/addr.number: function 128 -/
noncomputable def ZaN.B : Code := bod Tryz.f128
noncomputable def ZaN.cx : Fx := ⟨Tryz.prog, 128, Tryz.f128, none⟩
noncomputable def ZaN.out (r_ : (Int × Int × (Option Addr))) : Value := .tuple #[.int .i64 r_.1, .int .i64 r_.2.1, .pointer r_.2.2]
noncomputable def ZaN.F1 (a0 : ByteArray) (a1 : Int) (a2 : Int) (a3 : Int) (s1 : Int) : LF (Int × Int) (Int × Int × (Option Addr)) := ⟨[.inBlock 2, .code (c2 (c2 (c2 (c2 (c2 (c2 (c2 ZaN.B)))))))], c1 (c2 (c1 (c2 (c2 (c2 (c2 (c2 (c2 ZaN.B)))))))), fun s_ => [(0, .string a0), (1, .int .i64 a1), (2, .int .i64 a2), (3, .int .i64 a3), (11, .int .i64 s1), (12, .int .i64 s_.1), (13, .int .i64 s_.2)], fun s_ => [], (rt ZaN.out)⟩
noncomputable def ZaN.L1 (a0 : ByteArray) (a1 : Int) (a2 : Int) (a3 : Int) (s1 : Int) (s15 : Int) (s16 : Int) : M (LS (Int × Int) (Int × Int × (Option Addr))) :=
 if s16 < s1 then
  chk ((0 : Int) ≤ s16 ∧ s16 < (a0.size : Int)) >>= fun _ =>
  pure (LS.next (IntKind.wrap .i64 ((IntKind.wrap .i64 (10 * s15)) + (IntKind.wrap .i64 (IntKind.wrap .u8 ((sb a0 s16) - 48)))), IntKind.wrap .i64 (s16 + 1)))
 else
  if s15 > a2 then
   newv 225 ZbG (⟨a3, a1⟩ : Zb5) >>= fun b26 =>
   pure (LS.done (0, 0, (some (pt b26 0))))
  else
   pure (LS.done (s15, s1, none))
theorem ZaN.L1_ok (a0 : ByteArray) (a1 : Int) (a2 : Int) (a3 : Int) (s1 : Int) : LJ ZaN.cx (ZaN.F1 a0 a1 a2 a3 s1) (fun s_ => ZaN.L1 a0 a1 a2 a3 s1 s_.1 s_.2) := by
 rintro ⟨s15, s16⟩
 show SJ _ _ _ _ (ZaN.L1 a0 a1 a2 a3 s1 s15 s16) _
 unfold ZaN.L1
 refine SJ.seq <| SJ.sr 3 <| J.z 3 <| J.f ?_ ?_
 ·exact SJ.skip <| SJ.seq <| SJ.block (id := 3) <| SJ.rg 9 <| J.t 4 fun hb23 hb24 => J.z 4 <| SJ.inBlock <| SJ.rg 3 <| J.z 3 <| J.o rfl
 refine SJ.exit (id := 2) (by rfl) <| SJ.seq <| SJ.sr 3 <| J.z 3 <| J.f ?_ ?_
 ·exact SJ.sr 7 <| J.u 2 ZkM (.f 0 (ZbH _ a3) (.f 1 (ZbI _ a1) .nil)) <| J.B 0 fun b26 => J.z 3 <| J.r
 exact SJ.skip <| SJ.sr 5 <| J.z 5 <| J.r
noncomputable def ZaN.K1 (a0 : ByteArray) (a1 : Int) (a2 : Int) (a3 : Int) (s1 : Int) : M (Int × Int × (Option Addr)) :=
 if s1 = a1 then
  Zec a0 a1 >>= fun r8 =>
  pure (0, 0, r8)
 else
  (if (IntKind.wrap .i64 (s1 - a1)) > 3 then
    pure true
   else
    (if (IntKind.wrap .i64 (s1 - a1)) > 1 then
      chk ((0 : Int) ≤ a1 ∧ a1 < (a0.size : Int)) >>= fun _ =>
      pure ((sb a0 a1) == 48)
     else
      pure false) >>= fun y11 =>
    pure y11) >>= fun y12 =>
  if y12 = true then
   newv 225 ZbG (⟨a3, a1⟩ : Zb5) >>= fun b14 =>
   pure (0, 0, (some (pt b14 0)))
  else
   ZcI (fun s_ : (Int × Int) => ZaN.L1 a0 a1 a2 a3 s1 s_.1 s_.2) (0, a1)
theorem ZaN.K1_ok (a0 : ByteArray) (a1 : Int) (a2 : Int) (a3 : Int) (s1 : Int) :
  SJ ZaN.cx [.code (c2 (c2 (c2 ZaN.B)))] [(0, .string a0), (1, .int .i64 a1), (2, .int .i64 a2), (3, .int .i64 a3), (11, .int .i64 s1)] [] (ZaN.K1 a0 a1 a2 a3 s1) (rt ZaN.out) := by
 unfold ZaN.K1
 refine SJ.seq <| SJ.sr 3 <| J.z 3 <| J.f ?_ ?_
 ·exact SJ.sr 6 <| J.C 2 F142 (Zg1 _ _) fun r8 => J.z 3 <| J.r
 refine SJ.skip <| SJ.seq <| SJ.sr 16 <| J.g 5 <| OJ.join (b := decide ((IntKind.wrap .i64 (s1 - a1)) > 3)) [5, 6, 7, 8, 9, 10, 11, 12, 13, 14, 15] [] [0, 1, 2, 3, 11, 48] (fun y12 => [(0, .string a0), (1, .int .i64 a1), (2, .int .i64 a2), (3, .int .i64 a3), (11, .int .i64 s1), (48, .bool y12)]) [] [] (t := 37) decide_eq_true_iff (fun hp_ => ?_) (fun hp_ => ?_) (fun _ _ _ _ _ _ h_ => h_) fun y12 => ?_
 ·exact J.g 11 <| OJ.nil ⟨(Cov.mem Cov.nil), rfl, _, rfl, by kernel_rfl⟩
 ·refine J.g 5 <| OJ.join (b := decide ((IntKind.wrap .i64 (s1 - a1)) > 1)) [10, 11, 12, 13, 14] [15] [0, 1, 2, 3, 11, 37, 47] (fun y11 => [(0, .string a0), (1, .int .i64 a1), (2, .int .i64 a2), (3, .int .i64 a3), (11, .int .i64 s1), (37, .bool false), (47, .bool y11)]) [] [] (t := 42) decide_eq_true_iff (fun hp_ => ?_) (fun hp_ => ?_) (fun _ _ _ _ _ hq_ h_ => ⟨fun e_ he_ => (hq_ e_ he_).elim (fun h => h_.1 e_ h) (fun h => nomatch h), h_.2⟩) fun y11 => ?_
  ·exact J.t 2 fun hb9 hb10 => J.g 2 <| OJ.nil ⟨(Cov.mem Cov.nil), rfl, _, rfl, by kernel_rfl⟩
  ·exact J.g 5 <| OJ.nil ⟨(Cov.mem Cov.nil), rfl, _, rfl, by kernel_rfl⟩
  exact J.g 1 <| OJ.nil ⟨(Cov.mem Cov.nil), rfl, _, rfl, by kernel_rfl⟩
 refine J.z 0 <| J.f ?_ ?_
 ·exact SJ.sr 7 <| J.u 2 ZkM (.f 0 (ZbH _ a3) (.f 1 (ZbI _ a1) .nil)) <| J.B 0 fun b14 => J.z 3 <| J.r
 exact SJ.skip <| SJ.sr 1 <| J.z 1 <| SJ.seq <| SJ.sr 2 <| J.z 2 <| SJ.block (id := 2) <| J.L (ZaN.L1_ok a0 a1 a2 a3 s1)
noncomputable def ZaN.F2 (a0 : ByteArray) (a1 : Int) (a2 : Int) (a3 : Int) : LF Int (Int × Int × (Option Addr)) := ⟨[.inBlock 0, .code (c2 (c2 (c2 ZaN.B)))], c1 (c1 (c2 (c2 ZaN.B))), fun s_ => [(0, .string a0), (1, .int .i64 a1), (2, .int .i64 a2), (3, .int .i64 a3), (11, .int .i64 s_)], fun s_ => [], (rt ZaN.out)⟩
noncomputable def ZaN.L2 (a0 : ByteArray) (a1 : Int) (a2 : Int) (a3 : Int) (s1 : Int) : M (LS Int (Int × Int × (Option Addr))) :=
 (if s1 < (a0.size : Int) then
   chk ((0 : Int) ≤ s1 ∧ s1 < (a0.size : Int)) >>= fun _ =>
   ZfN (sb a0 s1) >>= fun r33 =>
   pure r33
  else
   pure false) >>= fun y34 =>
 if y34 = true then
  pure (LS.next (IntKind.wrap .i64 (s1 + 1)))
 else
  (ZaN.K1 a0 a1 a2 a3 s1) >>= fun b => pure (LS.done b)
theorem ZaN.L2_ok (a0 : ByteArray) (a1 : Int) (a2 : Int) (a3 : Int) : LJ ZaN.cx (ZaN.F2 a0 a1 a2 a3) (fun s_ => ZaN.L2 a0 a1 a2 a3 s_) := by
 rintro s1
 show SJ _ _ _ _ (ZaN.L2 a0 a1 a2 a3 s1) _
 unfold ZaN.L2
 refine SJ.seq <| SJ.sr 10 <| J.j 5 4 .bool ?_ ?_ fun y34 => ?_
 ·exact J.t 2 fun hb31 hb32 => J.C 0 F141 (ZkF _) fun r33 => J.e 1
 ·exact J.e 5
 refine J.z 0 <| J.f ?_ ?_
 ·exact SJ.skip <| SJ.block (id := 1) <| SJ.rg 3 <| J.z 3 <| SJ.inBlock <| J.o rfl
 exact SJ.exit (id := 0) (by rfl) <| J.q <| SJ.done <| ZaN.K1_ok a0 a1 a2 a3 s1
noncomputable def ZaN (a0 : ByteArray) (a1 : Int) (a2 : Int) (a3 : Int) : M (Int × Int × (Option Addr)) :=
 ZcI (fun s_ : Int => ZaN.L2 a0 a1 a2 a3 s_) a1
theorem ZjB (a0 : ByteArray) (a1 : Int) (a2 : Int) (a3 : Int) : Ref Tryz.prog 128 [.string a0, .int .i64 a1, .int .i64 a2, .int .i64 a3] (ZaN a0 a1 a2 a3) ZaN.out := by
 refine J.Fn Tryz.func128 ?_
 unfold ZaN
 exact SJ.sr 3 <| J.z 3 <| SJ.sr 2 <| J.z 2 <| SJ.seq <| SJ.block (id := 0) <| J.L (ZaN.L2_ok a0 a1 a2 a3)

/-! ### weir/addr.four: function 138 -/
noncomputable def Za6.B : Code := bod Tryz.f138
noncomputable def Za6.cx : Fx := ⟨Tryz.prog, 138, Tryz.f138, none⟩
noncomputable def Za6.out (r_ : ((Vec Int 4) × (Option Addr))) : Value := .tuple #[((cI .u8).arr 4).val r_.1, .pointer r_.2]
noncomputable def Za6.K1 (a0 : ByteArray) (s3 : Int) (s5 : (Vec Int 4)) : M ((Vec Int 4) × (Option Addr)) :=
 if s3 < (a0.size : Int) then
  newv 225 ZbG (⟨41, s3⟩ : Zb5) >>= fun b27 =>
  pure (s5, (some (pt b27 0)))
 else
  pure (s5, none)
theorem Za6.K1_ok (a0 : ByteArray) (b1 : Nat) (b2 : Nat) (s3 : Int) (s5 : (Vec Int 4)) (s6 : (Vec Int 4)) :
  SJ Za6.cx [.code (c2 (c2 (c2 Za6.B)))] [(0, .string a0), (1, .int .i64 s3), (4, .pointer (some (pt b1 0))), (6, .pointer (some (pt b2 0)))] [(b2, ((cI .u8).arr 4).enc s5), (b1, ((cI .u8).arr 4).enc s6)] (Za6.K1 a0 s3 s5) (rt Za6.out) := by
 unfold Za6.K1
 refine SJ.seq <| SJ.sr 4 <| J.z 4 <| J.f ?_ ?_
 ·exact SJ.sr 6 <| J.k 0 0 rfl Zh9 (At.whole _) <| J.u 1 ZkM (.f 0 (ZbH _ 41) (.f 1 (ZbI _ s3) .nil)) <| J.B 0 fun b27 => J.s 0 1 rfl Zh9 (Upd.w s5) <| J.z 1 <| J.rc (.c 1 rfl Zh9 .n)
 exact SJ.skip <| SJ.sr 3 <| J.k 0 0 rfl Zh9 (At.whole _) <| J.s 0 1 rfl Zh9 (Upd.w s5) <| J.z 1 <| J.rc (.c 1 rfl Zh9 .n)
noncomputable def Za6.F1 (a0 : ByteArray) (b1 : Nat) (b2 : Nat) : LF (Int × Int × (Vec Int 4) × (Vec Int 4)) ((Vec Int 4) × (Option Addr)) := ⟨[.inBlock 0, .code (c2 (c2 (c2 Za6.B)))], c1 (c2 (c1 (c2 (c2 Za6.B)))), fun s_ => [(0, .string a0), (1, .int .i64 s_.1), (4, .pointer (some (pt b1 0))), (6, .pointer (some (pt b2 0))), (11, .int .i64 s_.2.1)], fun s_ => [(b2, ((cI .u8).arr 4).enc s_.2.2.1), (b1, ((cI .u8).arr 4).enc s_.2.2.2)], (rt Za6.out)⟩
noncomputable def Za6.K2 (a0 : ByteArray) (s4 : Int) (s5 : (Vec Int 4)) (s6 : (Vec Int 4)) (j35 : Int) : M (LS (Int × Int × (Vec Int 4) × (Vec Int 4)) ((Vec Int 4) × (Option Addr))) :=
 ZaN a0 j35 255 43 >>= fun r36 =>
 if ¬ (r36.2.2 = none) then
  pure (LS.done (s5, r36.2.2))
 else
  chk ((0 : Int) ≤ s4 ∧ s4 < (4 : Nat)) >>= fun _ =>
  pure (LS.next (r36.2.1, IntKind.wrap .i64 (s4 + 1), (Vec.s s5 s4 (IntKind.wrap .u8 r36.1)), s6))
theorem Za6.K2_ok (a0 : ByteArray) (b1 : Nat) (b2 : Nat) (s4 : Int) (s5 : (Vec Int 4)) (s6 : (Vec Int 4)) (j35 : Int) :
  SJ Za6.cx [.code (c2 (c2 (c1 (c1 (c2 (c2 (c1 (c1 (c2 (c1 (c2 (c2 Za6.B)))))))))))), .inBlock 1, .code (c2 (c2 (c2 (c1 (c1 (c2 (c1 (c2 (c2 Za6.B))))))))), .inLoop (c1 (c1 (c2 (c1 (c2 (c2 Za6.B)))))), .inBlock 0, .code (c2 (c2 (c2 Za6.B)))] [(0, .string a0), (1, .int .i64 j35), (4, .pointer (some (pt b1 0))), (6, .pointer (some (pt b2 0))), (11, .int .i64 s4), (7, .int .i64 s4)] [(b2, ((cI .u8).arr 4).enc s5), (b1, ((cI .u8).arr 4).enc s6)] (Za6.K2 a0 s4 s5 s6 j35) (Za6.F1 a0 b1 b2).f := by
 unfold Za6.K2
 refine SJ.sr 10 <| J.C 2 F128 (ZjB _ _ _ _) fun r36 => J.z 7 <| SJ.seq <| SJ.sr 2 <| J.z 2 <| J.f ?_ ?_
 ·exact SJ.sr 4 <| J.k 0 0 rfl Zh9 (At.whole _) <| J.s 1 1 rfl Zh9 (Upd.w s5) <| J.z 1 <| J.rc (.c 1 rfl Zh9 .n)
 exact SJ.skip <| SJ.sr 5 <| J.y 3 fun hb37 hb38 => J.s (u := (IntKind.wrap .u8 r36.1)) 0 0 rfl Ty5 (Upd.zero (Upd.arr hb37 hb38)) <| J.z 0 <| SJ.rg 2 <| J.z 2 <| SJ.inBlock <| SJ.rg 2 <| J.z 2 <| J.o rfl
noncomputable def Za6.L1 (a0 : ByteArray) (s3 : Int) (s4 : Int) (s5 : (Vec Int 4)) (s6 : (Vec Int 4)) : M (LS (Int × Int × (Vec Int 4) × (Vec Int 4)) ((Vec Int 4) × (Option Addr))) :=
 if s4 < 4 then
  if s4 > 0 then
   (if s3 = (a0.size : Int) then
     pure true
    else
     chk ((0 : Int) ≤ s3 ∧ s3 < (a0.size : Int)) >>= fun _ =>
     pure ((sb a0 s3) != 46)) >>= fun y42 =>
   if y42 = true then
    draw >>= fun _ =>
    Zec a0 s3 >>= fun r44 =>
    pure (LS.done (s5, r44))
   else
    Za6.K2 a0 s4 s5 s6 (IntKind.wrap .i64 (s3 + 1))
  else
   Za6.K2 a0 s4 s5 s6 s3
 else
  (Za6.K1 a0 s3 s5) >>= fun b => pure (LS.done b)
theorem Za6.L1_ok (a0 : ByteArray) (b1 : Nat) (b2 : Nat) : LJ Za6.cx (Za6.F1 a0 b1 b2) (fun s_ => Za6.L1 a0 s_.1 s_.2.1 s_.2.2.1 s_.2.2.2) := by
 rintro ⟨s3, s4, s5, s6⟩
 show SJ _ _ _ _ (Za6.L1 a0 s3 s4 s5 s6) _
 unfold Za6.L1
 refine SJ.sr 1 <| J.z 1 <| SJ.seq <| J.f ?_ ?_
 ·refine SJ.skip <| SJ.seq <| SJ.block (id := 1) <| SJ.sr 2 <| J.z 2 <| SJ.seq <| SJ.sr 2 <| J.z 2 <| J.f ?_ ?_
  ·refine SJ.seq <| SJ.sr 10 <| J.j 5 4 .bool ?_ ?_ fun y42 => ?_
   ·exact J.e 5
   ·exact J.t 2 fun hb40 hb41 => J.e 2
   refine J.z 0 <| J.f ?_ ?_
   ·exact SJ.seq <| J.R 6 Zcs <| J.k 0 0 rfl Zh9 (At.whole _) <| J.g 2 <| OJ.call (d := 29) (g := 142) (ats := #[9, 3]) (args := [.tmp 27, .tmp 28]) (owed := [⟨0, 235, (pt b2 0), ((cI .u8).arr 4).val s5⟩]) F142 (Zg1 a0 s3) fun r44 => OW.known (j := 0) (q := s5) Zh9 rfl (At.whole _) <| OW.nil <| J.s 0 1 rfl Zh9 (Upd.w s5) <| J.z 1 <| J.rc (.c 1 rfl Zh9 .n)
   exact SJ.skip <| SJ.rg 3 <| J.z 3 <| J.q <| Za6.K2_ok a0 b1 b2 s4 s5 s6 (IntKind.wrap .i64 (s3 + 1))
  exact SJ.skip <| J.q <| Za6.K2_ok a0 b1 b2 s4 s5 s6 s3
 exact SJ.exit (id := 0) (by rfl) <| J.q <| SJ.done <| Za6.K1_ok a0 b1 b2 s3 s5 s6
noncomputable def Za6 (a0 : ByteArray) (a1 : Int) : M ((Vec Int 4) × (Option Addr)) :=
 slot 235 >>= fun b1 =>
 slot 235 >>= fun b2 =>
 ZcI (fun s_ : (Int × Int × (Vec Int 4) × (Vec Int 4)) => Za6.L1 a0 s_.1 s_.2.1 s_.2.2.1 s_.2.2.2) (a1, 0, (Vec.rep 4 0), (Vec.rep 4 0))
theorem ZlJ (a0 : ByteArray) (a1 : Int) : Ref Tryz.prog 138 [.string a0, .int .i64 a1] (Za6 a0 a1) Za6.out := by
 refine J.Fn Tryz.func138 ?_
 unfold Za6
 exact SJ.sr 2 <| J.a 0 Zh9 fun b1 => J.z 1 <| SJ.sr 1 <| J.a 0 Zh9 fun b2 => J.z 0 <| SJ.seq <| SJ.sr 1 <| J.z 1 <| SJ.block (id := 0) <| J.L (Za6.L1_ok a0 b1 b2)

/-! ### strings.HasPrefix: function 158 -/
noncomputable def Zdg.out (r_ : Bool) : Value := .bool r_
noncomputable def Zdg (a0 : ByteArray) (a1 : ByteArray) : M Bool :=
 Zca a0 a1 >>= fun r1 =>
 pure r1
theorem Zjn (a0 : ByteArray) (a1 : ByteArray) : Ref Tryz.prog 158 [.string a0, .string a1] (Zdg a0 a1) Zdg.out := by
 refine J.Fn Tryz.func158 ?_
 unfold Zdg
 exact SJ.sr 1 <| J.z 1 <| SJ.sr 4 <| J.C 2 F126 (ZfK _ _) fun r1 => J.z 1 <| J.r
end Go.Proofs.YtobemldccnnblaaGreatDoor.Lx
