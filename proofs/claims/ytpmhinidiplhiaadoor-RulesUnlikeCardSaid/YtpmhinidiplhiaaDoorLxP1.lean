/- Programs of the M-world for Go functions, each with the proof that the Go text does what it says. Printed by lxgen.py. -/
import Derived.Test.YtpmhinidiplhiaaDoorLxT
import Derived.Test.YtpmhinidiplhiaaDoorLxP0
set_option linter.unusedVariables false
set_option linter.unusedSimpArgs false
set_option linter.unusedSectionVars false
namespace Go.Proofs.YtpmhinidiplhiaaDoor.Lx
open Go Go.Proofs
variable [ZcG]
/-! ### weir/rules.words: function 17 -/
noncomputable def ZaE.B : Code := bod Tryd.f17
noncomputable def ZaE.cx : Fx := ⟨Tryd.prog, 17, Tryd.f17, none⟩
noncomputable def ZaE.out (r_ : (Sl × Int)) : Value := .tuple #[Sl.v r_.1, .int .i64 r_.2]
noncomputable def ZaE.F1 (a0 : ByteArray) : LF (Sl × Int) (Sl × Int) := ⟨[.inBlock 0, .code (c2 (c2 (c2 ZaE.B)))], c1 (c2 (c1 (c2 (c2 ZaE.B)))), fun s_ => [(0, .string a0), (4, Sl.v s_.1), (5, .int .i64 s_.2)], fun s_ => [], (rt ZaE.out)⟩
noncomputable def ZaE.K1 (a0 : ByteArray) (s1 : Sl) (s2 : Int) (s42 : Int) : M (LS (Sl × Int) (Sl × Int)) :=
 chk ((0 : Int) ≤ s2 ∧ s2 < (a0.size : Int)) >>= fun _ =>
 if s42 > s2 then
  chk (0 ≤ (s2 : Int) ∧ (s2 : Int) ≤ s42 ∧ s42 ≤ (a0.size : Int)) >>= fun _ =>
  slot 53 >>= fun b60 =>
  appl ZaJ 53 24 ZbM s1 [(⟨(ByteArray.extract a0 (Int.toNat s2) (Int.toNat s42)), s2⟩ : Zaw)] >>= fun r61 =>
  pure (LS.next (r61, s42))
 else
  if (sb a0 s2) = 44 then
   chk (0 ≤ (s2 : Int) ∧ (s2 : Int) ≤ (IntKind.wrap .i64 (s42 + 1)) ∧ (IntKind.wrap .i64 (s42 + 1)) ≤ (a0.size : Int)) >>= fun _ =>
   slot 53 >>= fun b64 =>
   appl ZaJ 53 24 ZbM s1 [(⟨(ByteArray.extract a0 (Int.toNat s2) (Int.toNat (IntKind.wrap .i64 (s42 + 1)))), s2⟩ : Zaw)] >>= fun r65 =>
   pure (LS.next (r65, IntKind.wrap .i64 (s42 + 1)))
  else
   (if (sb a0 s2) = 32 then
     pure true
    else
     pure ((sb a0 s2) == 9)) >>= fun y66 =>
   if y66 = true then
    pure (LS.next (s1, IntKind.wrap .i64 (s2 + 1)))
   else
    pure (LS.done (Sl.nil, s2))
theorem ZaE.K1_ok (a0 : ByteArray) (s1 : Sl) (s2 : Int) (s42 : Int) :
  SJ ZaE.cx [.code (c2 (c2 (c1 (c2 (c1 (c1 (c2 (c1 (c2 (c2 ZaE.B)))))))))), .inBlock 1, .inLoop (c1 (c1 (c2 (c1 (c2 (c2 ZaE.B)))))), .inBlock 0, .code (c2 (c2 (c2 ZaE.B)))] [(0, .string a0), (4, Sl.v s1), (5, .int .i64 s2), (6, .int .i64 s42)] [] (ZaE.K1 a0 s1 s2 s42) (ZaE.F1 a0).f := by
 unfold ZaE.K1
 refine SJ.seq <| SJ.sr 4 <| J.t 2 fun hb53 hb54 => J.z 1 <| SJ.block (id := 4) <| SJ.sr 4 <| J.z 4 <| J.f ?_ ?_
 ·exact SJ.skip <| SJ.inBlock <| SJ.sr 10 <| J.g 4 <| OJ.cutT (d := 63) (t := 9) (y := .tmp 60) (lo := (some (.tmp 61))) (hi := (some (.tmp 62))) (lo' := some (.i64, s2)) (hi' := some (.i64, s42)) <| J.u 1 Ty53 (.f 0 (Zgh _ (ByteArray.extract a0 (Int.toNat s2) (Int.toNat s42))) (.f 1 (Zfp _ s2) .nil)) <| OJ.rowSlot (d := 66) (t := 45) (parts := [(0, .tmp 65)]) (ps := [(0, ZaJ.val (⟨(ByteArray.extract a0 (Int.toNat s2) (Int.toNat s42)), s2⟩ : Zaw))]) (cd := ZaJ) (⟨[(⟨(ByteArray.extract a0 (Int.toNat s2) (Int.toNat s42)), s2⟩ : Zaw)], rfl⟩ : Vec Zaw 1) (owed := []) Ty53 (Zbj.cons (cd := ZaJ) (q := (⟨(ByteArray.extract a0 (Int.toNat s2) (Int.toNat s42)), s2⟩ : Zaw)) (o := 0) rfl (Upd.arr (i := 0) (by decide) (by decide)) Zbj.nil) fun b60 => OW.nil <| OJ.appl (d := 67) (t := 45) (u := 45) (so := .tmp 59) (xo := .tmp 66) (j := 0) (b := b60) (l := (ZaJ.arr 1).enc (⟨[(⟨(ByteArray.extract a0 (Int.toNat s2) (Int.toNat s42)), s2⟩ : Zaw)], rfl⟩ : Vec Zaw 1)) (n := 1) (k := 1) [(⟨(ByteArray.extract a0 (Int.toNat s2) (Int.toNat s42)), s2⟩ : Zaw)] (owed := []) Ty53 (by rfl) (Cod.arr_enc _ _ _) (by rfl) fun r61 => OW.nil <| J.z 1 <| SJ.rg 2 <| J.z 2 <| SJ.inBlock <| SJ.forget (List.Sublist.cons _ List.Sublist.slnil) <| J.o rfl
 ·refine SJ.sr 3 <| J.z 3 <| J.f ?_ ?_
  ·exact SJ.rg 3 <| J.z 3 <| SJ.inBlock <| SJ.sr 10 <| J.g 4 <| OJ.cutT (d := 63) (t := 9) (y := .tmp 60) (lo := (some (.tmp 61))) (hi := (some (.tmp 62))) (lo' := some (.i64, s2)) (hi' := some (.i64, IntKind.wrap .i64 (s42 + 1))) <| J.u 1 Ty53 (.f 0 (Zgh _ (ByteArray.extract a0 (Int.toNat s2) (Int.toNat (IntKind.wrap .i64 (s42 + 1))))) (.f 1 (Zfp _ s2) .nil)) <| OJ.rowSlot (d := 66) (t := 45) (parts := [(0, .tmp 65)]) (ps := [(0, ZaJ.val (⟨(ByteArray.extract a0 (Int.toNat s2) (Int.toNat (IntKind.wrap .i64 (s42 + 1)))), s2⟩ : Zaw))]) (cd := ZaJ) (⟨[(⟨(ByteArray.extract a0 (Int.toNat s2) (Int.toNat (IntKind.wrap .i64 (s42 + 1)))), s2⟩ : Zaw)], rfl⟩ : Vec Zaw 1) (owed := []) Ty53 (Zbj.cons (cd := ZaJ) (q := (⟨(ByteArray.extract a0 (Int.toNat s2) (Int.toNat (IntKind.wrap .i64 (s42 + 1)))), s2⟩ : Zaw)) (o := 0) rfl (Upd.arr (i := 0) (by decide) (by decide)) Zbj.nil) fun b64 => OW.nil <| OJ.appl (d := 67) (t := 45) (u := 45) (so := .tmp 59) (xo := .tmp 66) (j := 0) (b := b64) (l := (ZaJ.arr 1).enc (⟨[(⟨(ByteArray.extract a0 (Int.toNat s2) (Int.toNat (IntKind.wrap .i64 (s42 + 1)))), s2⟩ : Zaw)], rfl⟩ : Vec Zaw 1)) (n := 1) (k := 1) [(⟨(ByteArray.extract a0 (Int.toNat s2) (Int.toNat (IntKind.wrap .i64 (s42 + 1)))), s2⟩ : Zaw)] (owed := []) Ty53 (by rfl) (Cod.arr_enc _ _ _) (by rfl) fun r65 => OW.nil <| J.z 1 <| SJ.rg 2 <| J.z 2 <| SJ.inBlock <| SJ.forget (List.Sublist.cons _ List.Sublist.slnil) <| J.o rfl
  ·refine SJ.sr 7 <| J.j 3 2 .bool ?_ ?_ fun y66 => ?_
   ·exact J.e 3
   ·exact J.e 3
   ·refine J.z 1 <| J.f ?_ ?_
    ·exact SJ.sr 3 <| J.z 3 <| SJ.exit (id := 1) (by rfl) <| J.o rfl
    ·exact SJ.sr 3 <| J.z 3 <| J.r
noncomputable def ZaE.F2 (a0 : ByteArray) (s1 : Sl) (s2 : Int) : LF Int (LS (Sl × Int) (Sl × Int)) := ⟨[.inBlock 2, .code (c2 (c2 (c1 (c2 (c1 (c1 (c2 (c1 (c2 (c2 ZaE.B)))))))))), .inBlock 1, .inLoop (c1 (c1 (c2 (c1 (c2 (c2 ZaE.B)))))), .inBlock 0, .code (c2 (c2 (c2 ZaE.B)))], c1 (c1 (c2 (c1 (c2 (c1 (c1 (c2 (c1 (c2 (c2 ZaE.B)))))))))), fun s_ => [(0, .string a0), (4, Sl.v s1), (5, .int .i64 s2), (6, .int .i64 s_)], fun s_ => [], (ZaE.F1 a0).f⟩
noncomputable def ZaE.L2 (a0 : ByteArray) (s1 : Sl) (s2 : Int) (s42 : Int) : M (LS Int (LS (Sl × Int) (Sl × Int))) :=
 (if s42 < (a0.size : Int) then
   chk ((0 : Int) ≤ s42 ∧ s42 < (a0.size : Int)) >>= fun _ =>
   pure (decide ((sb a0 s42) > 32))
  else
   pure false) >>= fun y72 =>
 (if y72 = true then
   chk ((0 : Int) ≤ s42 ∧ s42 < (a0.size : Int)) >>= fun _ =>
   pure (decide ((sb a0 s42) < 127))
  else
   pure false) >>= fun y75 =>
 (if y75 = true then
   chk ((0 : Int) ≤ s42 ∧ s42 < (a0.size : Int)) >>= fun _ =>
   pure ((sb a0 s42) != 44)
  else
   pure false) >>= fun y78 =>
 if y78 = true then
  pure (LS.next (IntKind.wrap .i64 (s42 + 1)))
 else
  (ZaE.K1 a0 s1 s2 s42) >>= fun b => pure (LS.done b)
theorem ZaE.L2_ok (a0 : ByteArray) (s1 : Sl) (s2 : Int) : LJ ZaE.cx (ZaE.F2 a0 s1 s2) (fun s_ => ZaE.L2 a0 s1 s2 s_) := by
 rintro s42
 show SJ _ _ _ _ (ZaE.L2 a0 s1 s2 s42) _
 unfold ZaE.L2
 refine SJ.seq <| SJ.sr 22 <| J.j 5 4 .bool ?_ ?_ fun y72 => ?_
 ·exact J.t 2 fun hb70 hb71 => J.e 2
 ·exact J.e 5
 ·refine J.j 1 4 .bool ?_ ?_ fun y75 => ?_
  ·exact J.t 2 fun hb73 hb74 => J.e 2
  ·exact J.e 5
  ·refine J.j 1 4 .bool ?_ ?_ fun y78 => ?_
   ·exact J.t 2 fun hb76 hb77 => J.e 2
   ·exact J.e 5
   ·refine J.z 0 <| J.f ?_ ?_
    ·exact SJ.skip <| SJ.block (id := 3) <| SJ.rg 3 <| J.z 3 <| SJ.inBlock <| J.o rfl
    ·exact SJ.exit (id := 2) (by rfl) <| J.q <| SJ.done <| ZaE.K1_ok a0 s1 s2 s42
noncomputable def ZaE.L1 (a0 : ByteArray) (s1 : Sl) (s2 : Int) : M (LS (Sl × Int) (Sl × Int)) :=
 if s2 < (a0.size : Int) then
  Zci (fun s_ : Int => ZaE.L2 a0 s1 s2 s_) s2
 else
  pure (LS.done (s1, (-1)))
theorem ZaE.L1_ok (a0 : ByteArray) : LJ ZaE.cx (ZaE.F1 a0) (fun s_ => ZaE.L1 a0 s_.1 s_.2) := by
 rintro ⟨s1, s2⟩
 show SJ _ _ _ _ (ZaE.L1 a0 s1 s2) _
 unfold ZaE.L1
 refine SJ.seq <| SJ.sr 4 <| J.z 4 <| J.f ?_ ?_
 ·exact SJ.skip <| SJ.block (id := 1) <| SJ.sr 2 <| J.z 2 <| SJ.seq <| SJ.block (id := 2) <| J.L (ZaE.L2_ok a0 s1 s2)
 ·exact SJ.exit (id := 0) (by rfl) <| SJ.sr 3 <| J.z 3 <| J.r
noncomputable def ZaE (a0 : ByteArray) : M (Sl × Int) :=
 Zci (fun s_ : (Sl × Int) => ZaE.L1 a0 s_.1 s_.2) (Sl.nil, 0)
theorem ZjO (a0 : ByteArray) : Ref Tryd.prog 17 [.string a0] (ZaE a0) ZaE.out := by
 refine J.Fn Tryd.func17 ?_
 unfold ZaE
 exact SJ.sr 2 <| J.z 2 <| SJ.sr 1 <| J.z 1 <| SJ.seq <| SJ.sr 1 <| J.z 1 <| SJ.block (id := 0) <| J.L (ZaE.L1_ok a0)

/-! ### (*weir/rules.reader).fail: function 20 -/
noncomputable def ZaN.out (r_ : Unit) : Value := .tuple #[]
noncomputable def ZaN (a0 : (Option Addr)) (a1 : Int) (a2 : Int) : M Unit :=
 nilck a0 >>= fun p1 =>
 ld (cI .i64) (Addr.add p1 19) >>= fun x2 =>
 if x2 = 0 then
  nilck a0 >>= fun p5 =>
  st (cI .i64) (Addr.add p5 19) a1 >>= fun _ =>
  nilck a0 >>= fun p6 =>
  st (cI .i64) (Addr.add p6 20) a2 >>= fun _ =>
  pure ()
 else
  pure ()
theorem ZaV (a0 : (Option Addr)) (a1 : Int) (a2 : Int) : Ref Tryd.prog 20 [.pointer a0, .int .i64 a1, .int .i64 a2] (ZaN a0 a1 a2) ZaN.out := by
 refine J.Fn Tryd.func20 ?_
 unfold ZaN
 refine SJ.sr 5 <| J.n 1 fun p1 => J.l 1 Ty28 fun x2 => J.z 1 <| J.f ?_ ?_
 ·exact SJ.rg 10 <| J.n 4 fun p5 => J.w 1 Ty28 <| J.n 0 fun p6 => J.w 1 Ty3 <| J.z 0 <| SJ.end_ rfl (Res.run (ys := []) .nil rfl)
 ·exact SJ.skip <| SJ.end_ rfl (Res.run (ys := []) .nil rfl)

/-! ### (*weir/rules.reader).next: function 19 -/
noncomputable def ZaD.B : Code := bod Tryd.f19
noncomputable def ZaD.cx : Fx := ⟨Tryd.prog, 19, Tryd.f19, none⟩
noncomputable def ZaD.out (r_ : Zaw) : Value := ZaJ.val r_
noncomputable def ZaD.K1 (a0 : (Option Addr)) : M Zaw :=
 nilck a0 >>= fun p12 =>
 ld (cI .i64) (Addr.add p12 19) >>= fun x13 =>
 if x13 ≠ 0 then
  pure ZbM
 else
  nilck a0 >>= fun p14 =>
  ld (cI .i64) (Addr.add p14 1) >>= fun x15 =>
  nilck a0 >>= fun p16 =>
  st (cI .i64) (Addr.add p16 1) (IntKind.wrap .i64 (x15 + 1)) >>= fun _ =>
  draw >>= fun _ =>
  nilck a0 >>= fun p17 =>
  ld cL p17 >>= fun x18 =>
  nilck a0 >>= fun p19 =>
  ld (cI .i64) (Addr.add p19 1) >>= fun x20 =>
  idx x18.a x18.len (IntKind.wrap .i64 (x20 - 1)) 2 >>= fun p21 =>
  ld ZaJ p21 >>= fun x22 =>
  pure x22
theorem ZaD.K1_ok (a0 : (Option Addr)) (b1 : Nat) :
  SJ ZaD.cx [.code (c2 (c2 ZaD.B))] [(0, .pointer a0), (2, .pointer (some (pt b1 0)))] [(b1, ZaJ.enc ZbM)] (ZaD.K1 a0) (rt ZaD.out) := by
 unfold ZaD.K1
 refine SJ.seq <| SJ.sr 5 <| J.n 1 fun p12 => J.l 1 Ty28 fun x13 => J.z 1 <| J.f ?_ ?_
 ·exact SJ.sr 2 <| J.u 0 Ty53 .nil <| J.s 0 0 rfl Ty53 (Upd.w ZbM) <| J.z 0 <| SJ.ret rfl (Res.run (ys := [ZaJ.val ZbM]) (.cell (j := 0) (b := b1) (cd := ZaJ) (q := ZbM) (by kernel_rfl) rfl Ty53 (At.whole _) .nil) rfl)
 ·exact SJ.skip <| SJ.sr 8 <| J.n 1 fun p14 => J.l 1 Ty3 fun x15 => J.n 1 fun p16 => J.w 1 Ty3 <| J.z 0 <| SJ.seq <| J.R 12 Zc3 <| J.n 1 fun p17 => J.l 1 Ty45 fun x18 => J.n 1 fun p19 => J.l 1 Ty3 fun x20 => J.i 1 fun p21 => J.l 0 Ty53 fun x22 => J.s 0 0 rfl Ty53 (Upd.w x22) <| J.z 0 <| SJ.ret rfl (Res.run (ys := [ZaJ.val x22]) (.cell (j := 0) (b := b1) (cd := ZaJ) (q := x22) (by kernel_rfl) rfl Ty53 (At.whole _) .nil) rfl)
noncomputable def ZaD (a0 : (Option Addr)) : M Zaw :=
 slot 53 >>= fun b1 =>
 draw >>= fun _ =>
 nilck a0 >>= fun p2 =>
 ld (cI .i64) (Addr.add p2 19) >>= fun x3 =>
 (if x3 = 0 then
   nilck a0 >>= fun p4 =>
   ld (cI .i64) (Addr.add p4 1) >>= fun x5 =>
   nilck a0 >>= fun p6 =>
   ld cL p6 >>= fun x7 =>
   pure (x5 == (x7.len : Int))
  else
   pure false) >>= fun y8 =>
 if y8 = true then
  nilck a0 >>= fun p24 =>
  ld (cI .i64) (Addr.add p24 2) >>= fun x25 =>
  ZaN a0 161 x25 >>= fun r26 =>
  ZaD.K1 a0
 else
  ZaD.K1 a0
theorem Zcg (a0 : (Option Addr)) : Ref Tryd.prog 19 [.pointer a0] (ZaD a0) ZaD.out := by
 refine J.Fn Tryd.func19 ?_
 unfold ZaD
 refine SJ.sr 1 <| J.a 0 Ty53 fun b1 => J.z 0 <| SJ.seq <| SJ.seq <| J.R 17 Zc3 <| J.n 1 fun p2 => J.l 1 Ty28 fun x3 => J.g 2 <| OJ.join (b := (x3 == 0)) [6, 7, 8, 9, 10, 11, 12, 13, 14, 15, 16] [] [0, 2, 19] (fun y8 => [(0, .pointer a0), (2, .pointer (some (pt b1 0))), (19, .bool y8)]) [⟨3, 28, (Addr.add p2 19), (cI .i64).val x3⟩] [9, 13] (t := 8) beq_iff_eq (fun hp_ => ?_) (fun hp_ => ?_) (fun _ _ _ _ _ _ h_ => h_) fun y8 => ?_
 ·exact J.n 1 fun p4 => J.l 1 Ty3 fun x5 => J.n 1 fun p6 => J.l 1 Ty45 fun x7 => J.g 3 <| OJ.nil ⟨(Cov.mem (Cov.drop (List.mem_of_getElem? (i := 1) rfl) (Cov.drop (List.mem_of_getElem? (i := 0) rfl) (Cov.keep (List.mem_of_getElem? (i := 0) rfl) Cov.nil)))), rfl, _, rfl, by kernel_rfl⟩
 ·exact J.g 11 <| OJ.nil ⟨(Cov.mem (Cov.keep (List.mem_of_getElem? (i := 0) rfl) Cov.nil)), rfl, _, rfl, by kernel_rfl⟩
 ·refine J.z 0 <| J.f ?_ ?_
  ·exact SJ.rg 6 <| J.n 2 fun p24 => J.l 1 Ty3 fun x25 => J.C 0 F20 (ZaV _ _ _) fun r26 => J.z 0 <| J.q <| ZaD.K1_ok a0 b1
  ·exact SJ.skip <| J.q <| ZaD.K1_ok a0 b1

/-! ### slices.Index[[]string,string]: function 29 -/
noncomputable def Zaq.B : Code := bod Tryd.f29
noncomputable def Zaq.cx : Fx := ⟨Tryd.prog, 29, Tryd.f29, none⟩
noncomputable def Zaq.out (r_ : Int) : Value := .int .i64 r_
noncomputable def Zaq.F1 (a0 : Sl) (a1 : ByteArray) : LF Int Int := ⟨[.inBlock 0, .code (c2 (c2 Zaq.B))], c1 (c2 (c1 (c2 Zaq.B))), fun s_ => [(0, Sl.v a0), (1, .string a1), (7, .int .i64 (a0.len : Int)), (8, .int .i64 s_)], fun s_ => [], (rt Zaq.out)⟩
noncomputable def Zaq.L1 (a0 : Sl) (a1 : ByteArray) (s1 : Int) : M (LS Int Int) :=
 if s1 < (a0.len : Int) then
  idx a0.a a0.len s1 1 >>= fun p6 =>
  ld cS p6 >>= fun x7 =>
  if a1.toList = x7.toList then
   pure (LS.done s1)
  else
   pure (LS.next (IntKind.wrap .i64 (s1 + 1)))
 else
  pure (LS.done (-1))
theorem Zaq.L1_ok (a0 : Sl) (a1 : ByteArray) : LJ Zaq.cx (Zaq.F1 a0 a1) (fun s_ => Zaq.L1 a0 a1 s_) := by
 rintro s1
 show SJ _ _ _ _ (Zaq.L1 a0 a1 s1) _
 unfold Zaq.L1
 refine SJ.sr 1 <| J.z 1 <| SJ.seq <| J.f ?_ ?_
 ·refine SJ.skip <| SJ.seq <| SJ.block (id := 1) <| SJ.sr 2 <| J.z 2 <| SJ.sr 6 <| J.i 3 fun p6 => J.l 0 Ty9 fun x7 => J.z 1 <| J.f ?_ ?_
  ·exact SJ.sr 2 <| J.z 2 <| J.r
  ·exact SJ.skip <| SJ.inBlock <| SJ.rg 2 <| J.z 2 <| J.o rfl
 ·exact SJ.exit (id := 0) (by rfl) <| SJ.sr 1 <| J.z 1 <| J.r
noncomputable def Zaq (a0 : Sl) (a1 : ByteArray) : M Int :=
 Zci (fun s_ : Int => Zaq.L1 a0 a1 s_) 0
theorem Zcd (a0 : Sl) (a1 : ByteArray) : Ref Tryd.prog 29 [Sl.v a0, .string a1] (Zaq a0 a1) Zaq.out := by
 refine J.Fn Tryd.func29 ?_
 unfold Zaq
 exact SJ.sr 1 <| J.z 1 <| SJ.seq <| SJ.sr 3 <| J.z 3 <| SJ.block (id := 0) <| J.L (Zaq.L1_ok a0 a1)

/-! ### (*weir/rules.reader).take: function 30 -/
noncomputable def ZaX.out (r_ : Bool) : Value := .bool r_
noncomputable def ZaX (a0 : (Option Addr)) (a1 : ByteArray) : M Bool :=
 draw >>= fun _ =>
 nilck a0 >>= fun p1 =>
 ld (cI .i64) (Addr.add p1 19) >>= fun x2 =>
 (if x2 ≠ 0 then
   pure true
  else
   nilck a0 >>= fun p3 =>
   ld (cI .i64) (Addr.add p3 1) >>= fun x4 =>
   nilck a0 >>= fun p5 =>
   ld cL p5 >>= fun x6 =>
   pure (x4 == (x6.len : Int))) >>= fun y7 =>
 (if y7 = true then
   pure true
  else
   nilck a0 >>= fun p8 =>
   ld cL p8 >>= fun x9 =>
   nilck a0 >>= fun p10 =>
   ld (cI .i64) (Addr.add p10 1) >>= fun x11 =>
   idx x9.a x9.len x11 2 >>= fun p12 =>
   ld cS p12 >>= fun x13 =>
   pure (!(x13.toList == a1.toList))) >>= fun y14 =>
 if y14 = true then
  pure false
 else
  nilck a0 >>= fun p15 =>
  ld (cI .i64) (Addr.add p15 1) >>= fun x16 =>
  nilck a0 >>= fun p17 =>
  st (cI .i64) (Addr.add p17 1) (IntKind.wrap .i64 (x16 + 1)) >>= fun _ =>
  pure true
theorem ZbH (a0 : (Option Addr)) (a1 : ByteArray) : Ref Tryd.prog 30 [.pointer a0, .string a1] (ZaX a0 a1) ZaX.out := by
 refine J.Fn Tryd.func30 ?_
 unfold ZaX
 refine SJ.sr 1 <| J.z 1 <| SJ.seq <| SJ.seq <| J.R 32 Zc3 <| J.n 1 fun p1 => J.l 1 Ty28 fun x2 => J.g 2 <| OJ.join (b := (x2 != 0)) [6, 7, 8, 9, 10, 11, 12, 13, 14, 15, 16] [17, 18, 19, 20, 21, 22, 23, 24, 25, 26, 27, 28, 29, 30, 31] [0, 1, 21] (fun y7 => [(0, .pointer a0), (1, .string a1), (21, .bool y7)]) [⟨3, 28, (Addr.add p1 19), (cI .i64).val x2⟩] [9, 13] (t := 10) bne_iff_ne (fun hp_ => ?_) (fun hp_ => ?_) (fun _ _ _ _ _ _ h_ => h_) fun y7 => ?_
 ·exact J.g 11 <| OJ.nil ⟨(Cov.mem (Cov.keep (List.mem_of_getElem? (i := 0) rfl) Cov.nil)), rfl, _, rfl, by kernel_rfl⟩
 ·exact J.n 1 fun p3 => J.l 1 Ty3 fun x4 => J.n 1 fun p5 => J.l 1 Ty45 fun x6 => J.g 3 <| OJ.nil ⟨(Cov.mem (Cov.drop (List.mem_of_getElem? (i := 1) rfl) (Cov.drop (List.mem_of_getElem? (i := 0) rfl) (Cov.keep (List.mem_of_getElem? (i := 0) rfl) Cov.nil)))), rfl, _, rfl, by kernel_rfl⟩
 ·refine J.g 1 <| OJ.join (b := y7) [18, 19, 20, 21, 22, 23, 24, 25, 26, 27, 28, 29, 30, 31] [] [0, 36] (fun y14 => [(0, .pointer a0), (36, .bool y14)]) [⟨3, 28, (Addr.add p1 19), (cI .i64).val x2⟩] [21, 25, 28] (t := 22) Iff.rfl (fun hp_ => ?_) (fun hp_ => ?_) (fun _ _ _ _ _ _ h_ => h_) fun y14 => ?_
  ·exact J.g 14 <| OJ.nil ⟨(Cov.mem (Cov.keep (List.mem_of_getElem? (i := 0) rfl) Cov.nil)), rfl, _, rfl, by kernel_rfl⟩
  ·exact J.n 1 fun p8 => J.l 1 Ty45 fun x9 => J.n 1 fun p10 => J.l 1 Ty3 fun x11 => J.i 0 fun p12 => J.l 1 Ty9 fun x13 => J.g 3 <| OJ.nil ⟨(Cov.mem (Cov.drop (List.mem_of_getElem? (i := 2) rfl) (Cov.drop (List.mem_of_getElem? (i := 1) rfl) (Cov.drop (List.mem_of_getElem? (i := 0) rfl) (Cov.keep (List.mem_of_getElem? (i := 0) rfl) Cov.nil))))), rfl, _, rfl, by kernel_rfl⟩
  ·refine J.z 0 <| J.f ?_ ?_
   ·exact SJ.sr 1 <| J.z 1 <| J.r
   ·exact SJ.skip <| SJ.sr 8 <| J.n 1 fun p15 => J.l 1 Ty3 fun x16 => J.n 1 fun p17 => J.w 1 Ty3 <| J.z 0 <| SJ.sr 1 <| J.z 1 <| J.r

/-! ### (*weir/rules.reader).item: function 46 -/
noncomputable def Zbr.out (r_ : Zaw) : Value := ZaJ.val r_
noncomputable def Zbr (a0 : (Option Addr)) : M Zaw :=
 slot 53 >>= fun b1 =>
 ZaD a0 >>= fun r2 =>
 slot 53 >>= fun b3 =>
 if r2.s.toList = ZiV.toList then
  ZaN a0 160 r2.at_ >>= fun r5 =>
  pure r2
 else
  pure r2
theorem Zch (a0 : (Option Addr)) : Ref Tryd.prog 46 [.pointer a0] (Zbr a0) Zbr.out := by
 refine J.Fn Tryd.func46 ?_
 unfold Zbr
 refine SJ.sr 1 <| J.a 0 Ty53 fun b1 => J.z 0 <| SJ.sr 4 <| J.C 1 F19 (Zcg _) fun r2 => J.a 0 Ty53 fun b3 => J.s 0 0 rfl Ty53 (Upd.w r2) <| J.z 0 <| SJ.seq <| SJ.sr 3 <| J.k 1 0 rfl Ty9 (ZaZ _) <| J.z 1 <| J.f ?_ ?_
 ·exact SJ.rg 4 <| J.k 2 0 rfl Ty3 (Zbh _) <| J.C 0 F20 (ZaV _ _ _) fun r5 => J.z 0 <| SJ.sr 2 <| J.k 0 0 rfl Ty53 (At.whole _) <| J.s 0 1 rfl Ty53 (Upd.w r2) <| J.z 0 <| SJ.ret rfl (Res.run (ys := [ZaJ.val r2]) (.cell (j := 1) (b := b1) (cd := ZaJ) (q := r2) (by kernel_rfl) rfl Ty53 (At.whole _) .nil) rfl)
 ·exact SJ.skip <| SJ.sr 2 <| J.k 0 0 rfl Ty53 (At.whole _) <| J.s 0 1 rfl Ty53 (Upd.w r2) <| J.z 0 <| SJ.ret rfl (Res.run (ys := [ZaJ.val r2]) (.cell (j := 1) (b := b1) (cd := ZaJ) (q := r2) (by kernel_rfl) rfl Ty53 (At.whole _) .nil) rfl)

/-! ### weir/rules.number: function 47 -/
noncomputable def ZaT.B : Code := bod Tryd.f47
noncomputable def ZaT.cx : Fx := ⟨Tryd.prog, 47, Tryd.f47, none⟩
noncomputable def ZaT.out (r_ : (Int × Bool)) : Value := .tuple #[.int .i64 r_.1, .bool r_.2]
noncomputable def ZaT.F1 (a0 : ByteArray) (a1 : Int) (a2 : Int) : LF (Int × Int) (Int × Bool) := ⟨[.inBlock 0, .code (c2 (c2 (c2 (c2 ZaT.B))))], c1 (c2 (c1 (c2 (c2 (c2 ZaT.B))))), fun s_ => [(0, .string a0), (1, .int .i64 a1), (2, .int .i64 a2), (8, .int .i64 s_.1), (28, .int .i64 (a0.size : Int)), (29, .int .i64 s_.2)], fun s_ => [], (rt ZaT.out)⟩
noncomputable def ZaT.L1 (a0 : ByteArray) (a1 : Int) (a2 : Int) (s6 : Int) (s7 : Int) : M (LS (Int × Int) (Int × Bool)) :=
 if s7 < (a0.size : Int) then
  chk ((0 : Int) ≤ s7 ∧ s7 < (a0.size : Int)) >>= fun _ =>
  (if (sb a0 s7) < 48 then
    pure true
   else
    chk ((0 : Int) ≤ s7 ∧ s7 < (a0.size : Int)) >>= fun _ =>
    pure (decide ((sb a0 s7) > 57))) >>= fun y22 =>
  if y22 = true then
   pure (LS.done (0, false))
  else
   chk ((0 : Int) ≤ s7 ∧ s7 < (a0.size : Int)) >>= fun _ =>
   pure (LS.next (IntKind.wrap .i64 ((IntKind.wrap .i64 (10 * s6)) + (IntKind.wrap .i64 (IntKind.wrap .u8 ((sb a0 s7) - 48)))), IntKind.wrap .i64 (s7 + 1)))
 else
  Zbp s6 a1 a2 >>= fun r26 =>
  pure (LS.done (s6, r26))
theorem ZaT.L1_ok (a0 : ByteArray) (a1 : Int) (a2 : Int) : LJ ZaT.cx (ZaT.F1 a0 a1 a2) (fun s_ => ZaT.L1 a0 a1 a2 s_.1 s_.2) := by
 rintro ⟨s6, s7⟩
 show SJ _ _ _ _ (ZaT.L1 a0 a1 a2 s6 s7) _
 unfold ZaT.L1
 refine SJ.sr 1 <| J.z 1 <| SJ.seq <| J.f ?_ ?_
 ·refine SJ.skip <| SJ.seq <| SJ.block (id := 1) <| SJ.sr 2 <| J.z 2 <| SJ.seq <| SJ.sr 10 <| J.t 2 fun hb18 hb19 => J.j 2 4 .bool ?_ ?_ fun y22 => ?_
  ·exact J.e 5
  ·exact J.t 2 fun hb20 hb21 => J.e 2
  ·refine J.z 0 <| J.f ?_ ?_
   ·exact SJ.sr 2 <| J.z 2 <| J.r
   ·exact SJ.skip <| SJ.rg 9 <| J.t 4 fun hb23 hb24 => J.z 4 <| SJ.inBlock <| SJ.rg 2 <| J.z 2 <| J.o rfl
 ·exact SJ.exit (id := 0) (by rfl) <| SJ.sr 7 <| J.C 4 F12 (ZbI _ _ _) fun r26 => J.z 2 <| J.r
noncomputable def ZaT (a0 : ByteArray) (a1 : Int) (a2 : Int) : M (Int × Bool) :=
 (if a0.toList = ByteArray.empty.toList then
   pure true
  else
   pure (decide ((a0.size : Int) > 9))) >>= fun y1 =>
 (if y1 = true then
   pure true
  else
   chk ((0 : Int) ≤ 0 ∧ 0 < (a0.size : Int)) >>= fun _ =>
   (if (sb a0 0) = 48 then
     pure (decide ((a0.size : Int) > 1))
    else
     pure false) >>= fun y4 =>
   pure y4) >>= fun y5 =>
 if y5 = true then
  pure (0, false)
 else
  Zci (fun s_ : (Int × Int) => ZaT.L1 a0 a1 a2 s_.1 s_.2) (0, 0)
theorem ZdO (a0 : ByteArray) (a1 : Int) (a2 : Int) : Ref Tryd.prog 47 [.string a0, .int .i64 a1, .int .i64 a2] (ZaT a0 a1 a2) ZaT.out := by
 refine J.Fn Tryd.func47 ?_
 unfold ZaT
 refine SJ.sr 2 <| J.z 2 <| SJ.seq <| SJ.sr 17 <| J.j 3 3 .bool ?_ ?_ fun y1 => ?_
 ·exact J.e 4
 ·exact J.e 4
 ·refine J.g 1 <| OJ.join (b := y1) [8, 9, 10, 11, 12, 13, 14, 15, 16] [] [0, 1, 2, 26] (fun y5 => [(0, .string a0), (1, .int .i64 a1), (2, .int .i64 a2), (26, .bool y5)]) [] [] (t := 17) Iff.rfl (fun hp_ => ?_) (fun hp_ => ?_) (fun _ _ _ _ _ _ h_ => h_) fun y5 => ?_
  ·exact J.g 9 <| OJ.nil ⟨(Cov.mem Cov.nil), rfl, _, rfl, by kernel_rfl⟩
  ·refine J.t 1 fun hb2 hb3 => J.g 2 <| OJ.join (b := ((sb a0 0) == 48)) [12, 13, 14, 15] [16] [0, 1, 2, 17, 25] (fun y4 => [(0, .string a0), (1, .int .i64 a1), (2, .int .i64 a2), (17, .bool false), (25, .bool y4)]) [] [] (t := 21) beq_iff_eq (fun hp_ => ?_) (fun hp_ => ?_) (fun _ _ _ _ _ hq_ h_ => ⟨fun e_ he_ => (hq_ e_ he_).elim (fun h => h_.1 e_ h) (fun h => nomatch h), h_.2⟩) fun y4 => ?_
   ·exact J.g 4 <| OJ.nil ⟨(Cov.mem Cov.nil), rfl, _, rfl, by kernel_rfl⟩
   ·exact J.g 4 <| OJ.nil ⟨(Cov.mem Cov.nil), rfl, _, rfl, by kernel_rfl⟩
   ·exact J.g 1 <| OJ.nil ⟨(Cov.mem Cov.nil), rfl, _, rfl, by kernel_rfl⟩
  ·refine J.z 0 <| J.f ?_ ?_
   ·exact SJ.sr 2 <| J.z 2 <| J.r
   ·exact SJ.skip <| SJ.sr 1 <| J.z 1 <| SJ.seq <| SJ.sr 3 <| J.z 3 <| SJ.block (id := 0) <| J.L (ZaT.L1_ok a0 a1 a2)

/-! ### (*weir/rules.reader).number: function 31 -/
noncomputable def Zbm.out (r_ : Int) : Value := .int .i64 r_
noncomputable def Zbm (a0 : (Option Addr)) (a1 : Int) (a2 : Int) : M Int :=
 Zbr a0 >>= fun r1 =>
 slot 53 >>= fun b2 =>
 ZaT r1.s a1 a2 >>= fun r3 =>
 nilck a0 >>= fun p4 =>
 ld (cI .i64) (Addr.add p4 19) >>= fun x5 =>
 (if x5 = 0 then
   pure (!r3.2)
  else
   pure false) >>= fun y6 =>
 if y6 = true then
  ZaN a0 162 r1.at_ >>= fun r8 =>
  pure r3.1
 else
  pure r3.1
theorem Zct (a0 : (Option Addr)) (a1 : Int) (a2 : Int) : Ref Tryd.prog 31 [.pointer a0, .int .i64 a1, .int .i64 a2] (Zbm a0 a1 a2) Zbm.out := by
 refine J.Fn Tryd.func31 ?_
 unfold Zbm
 refine SJ.sr 1 <| J.z 1 <| SJ.sr 4 <| J.C 1 F46 (Zch _) fun r1 => J.a 0 Ty53 fun b2 => J.s 0 0 rfl Ty53 (Upd.w r1) <| J.z 0 <| SJ.sr 10 <| J.k 1 0 rfl Ty9 (ZaZ _) <| J.C 2 F47 (ZdO _ _ _) fun r3 => J.z 5 <| SJ.seq <| SJ.sr 9 <| J.n 1 fun p4 => J.l 1 Ty28 fun x5 => J.j 2 2 .bool ?_ ?_ fun y6 => ?_
 ·exact J.e 3
 ·exact J.e 3
 ·refine J.z 0 <| J.f ?_ ?_
  ·exact SJ.rg 4 <| J.k 2 0 rfl Ty3 (Zbh _) <| J.C 0 F20 (ZaV _ _ _) fun r8 => J.z 0 <| SJ.sr 2 <| J.z 2 <| J.r
  ·exact SJ.skip <| SJ.sr 2 <| J.z 2 <| J.r

/-! ### weir/rules.protoOf: function 48 -/
noncomputable def Zcx.out (r_ : (Int × Bool)) : Value := .tuple #[.int .i64 r_.1, .bool r_.2]
noncomputable def Zcx (a0 : ByteArray) : M (Int × Bool) :=
 if a0.toList = str4.toList then
  pure (6, true)
 else
  if a0.toList = str5.toList then
   pure (17, true)
  else
   if a0.toList = str6.toList then
    pure (1, true)
   else
    if a0.toList = str7.toList then
     pure (58, true)
    else
     pure (0, false)
theorem ZfN (a0 : ByteArray) : Ref Tryd.prog 48 [.string a0] (Zcx a0) Zcx.out := by
 refine J.Fn Tryd.func48 ?_
 unfold Zcx
 refine SJ.sr 2 <| J.z 2 <| SJ.seq <| SJ.sr 1 <| J.z 1 <| SJ.block (id := 0) <| SJ.sr 2 <| J.z 2 <| J.f ?_ ?_
 ·exact SJ.sr 2 <| J.z 2 <| J.r
 ·refine SJ.sr 2 <| J.z 2 <| J.f ?_ ?_
  ·exact SJ.sr 2 <| J.z 2 <| J.r
  ·refine SJ.sr 2 <| J.z 2 <| J.f ?_ ?_
   ·exact SJ.sr 2 <| J.z 2 <| J.r
   ·refine SJ.sr 2 <| J.z 2 <| J.f ?_ ?_
    ·exact SJ.sr 2 <| J.z 2 <| J.r
    ·exact SJ.skip <| SJ.inBlock <| SJ.sr 2 <| J.z 2 <| J.r

/-! ### weir/rules.begins: function 32 -/
noncomputable def Zcz.out (r_ : Bool) : Value := .bool r_
noncomputable def Zcz (a0 : Zaw) : M Bool :=
 slot 53 >>= fun b1 =>
 Zcx a0.s >>= fun r2 =>
 (if r2.2 = true then
   pure true
  else
   pure (a0.s.toList == ZsR.toList)) >>= fun y3 =>
 pure y3
theorem Zf2 (a0 : Zaw) : Ref Tryd.prog 32 [ZaJ.val a0] (Zcz a0) Zcz.out := by
 refine J.Fn Tryd.func32 ?_
 unfold Zcz
 refine SJ.sr 2 <| J.b 0 ZaJ a0 fun b1 => J.z 1 <| SJ.sr 8 <| J.k 1 0 rfl Ty9 (ZaZ _) <| J.C 0 F48 (ZfN _) fun r2 => J.z 5 <| SJ.sr 7 <| J.j 2 3 .bool ?_ ?_ fun y3 => ?_
 ·exact J.e 4
 ·exact J.k 1 0 rfl Ty9 (ZaZ _) <| J.e 2
 ·exact J.z 1 <| J.r

/-! ### (*weir/rules.reader).proto: function 33 -/
noncomputable def Zbw.out (r_ : Unit) : Value := .tuple #[]
noncomputable def Zbw (a0 : (Option Addr)) (a1 : Zaw) : M Unit :=
 slot 53 >>= fun b1 =>
 nilck a0 >>= fun p2 =>
 ld (cI .i64) (Addr.add (Addr.add p2 3) 2) >>= fun x3 =>
 if x3 = 1 then
  ZaN a0 165 a1.at_ >>= fun r5 =>
  pure ()
 else
  Zcx a1.s >>= fun r6 =>
  if ¬ (r6.2 = true) then
   Zbm a0 1 255 >>= fun r8 =>
   nilck a0 >>= fun p9 =>
   st (cI .i64) (Addr.add (Addr.add p9 3) 3) r8 >>= fun _ =>
   pure ()
  else
   nilck a0 >>= fun p10 =>
   st (cI .i64) (Addr.add (Addr.add p10 3) 3) r6.1 >>= fun _ =>
   pure ()
theorem Zei (a0 : (Option Addr)) (a1 : Zaw) : Ref Tryd.prog 33 [.pointer a0, ZaJ.val a1] (Zbw a0 a1) Zbw.out := by
 refine J.Fn Tryd.func33 ?_
 unfold Zbw
 refine SJ.sr 1 <| J.b 0 ZaJ a1 fun b1 => J.z 0 <| SJ.seq <| SJ.sr 6 <| J.n 1 fun p2 => J.l 2 Ty3 fun x3 => J.z 1 <| J.f ?_ ?_
 ·exact SJ.sr 4 <| J.k 2 0 rfl Ty3 (Zbh _) <| J.C 0 F20 (ZaV _ _ _) fun r5 => J.z 0 <| J.r
 ·refine SJ.skip <| SJ.sr 8 <| J.k 1 0 rfl Ty9 (ZaZ _) <| J.C 0 F48 (ZfN _) fun r6 => J.z 5 <| SJ.seq <| SJ.sr 2 <| J.z 2 <| J.f ?_ ?_
  ·exact SJ.rg 3 <| J.C 1 F31 (Zct _ _ _) fun r8 => J.z 1 <| SJ.rg 6 <| J.n 2 fun p9 => J.w 2 Ty3 <| J.z 0 <| SJ.end_ rfl (Res.run (ys := []) .nil rfl)
  ·exact SJ.skip <| SJ.rg 6 <| J.n 2 fun p10 => J.w 2 Ty3 <| J.z 0 <| SJ.end_ rfl (Res.run (ys := []) .nil rfl)

/-! ### (*weir/rules.reader).head: function 18 -/
noncomputable def Zav.B : Code := bod Tryd.f18
noncomputable def Zav.cx : Fx := ⟨Tryd.prog, 18, Tryd.f18, none⟩
noncomputable def Zav.out (r_ : Unit) : Value := .tuple #[]
noncomputable def Zav.K1 (a0 : (Option Addr)) : M Unit :=
 ZaD a0 >>= fun r18 =>
 nilck a0 >>= fun p19 =>
 ld (cI .i64) (Addr.add p19 19) >>= fun x20 =>
 (if x20 ≠ 0 then
   pure true
  else
   pure (r18.s.toList == ZkM.toList)) >>= fun y21 =>
 if y21 = true then
  pure ()
 else
  ld cL ⟨2, 0, none⟩ >>= fun x22 =>
  Zaq x22 r18.s >>= fun r23 =>
  nilck a0 >>= fun p24 =>
  st (cI .i64) (Addr.add (Addr.add p24 3) 2) (IntKind.wrap .i64 (r23 + 1)) >>= fun _ =>
  nilck a0 >>= fun p25 =>
  ld (cI .i64) (Addr.add (Addr.add p25 3) 2) >>= fun x26 =>
  (if x26 = 0 then
    Zcz r18 >>= fun r27 =>
    pure r27
   else
    pure false) >>= fun y28 =>
  if y28 = true then
   Zbw a0 r18 >>= fun r75 =>
   pure ()
  else
   nilck a0 >>= fun p76 =>
   ld (cI .i64) (Addr.add (Addr.add p76 3) 2) >>= fun x77 =>
   if x77 = 0 then
    ZaN a0 160 r18.at_ >>= fun r99 =>
    pure ()
   else
    draw >>= fun _ =>
    nilck a0 >>= fun p100 =>
    ld (cI .i64) (Addr.add (Addr.add p100 3) 2) >>= fun x101 =>
    (if x101 > 0 then
      nilck a0 >>= fun p102 =>
      ld (cI .i64) (Addr.add p102 1) >>= fun x103 =>
      nilck a0 >>= fun p104 =>
      ld cL p104 >>= fun x105 =>
      pure (decide (x103 < (x105.len : Int)))
     else
      pure false) >>= fun y106 =>
    (if y106 = true then
      nilck a0 >>= fun p107 =>
      ld cL p107 >>= fun x108 =>
      nilck a0 >>= fun p109 =>
      ld (cI .i64) (Addr.add p109 1) >>= fun x110 =>
      idx x108.a x108.len x110 2 >>= fun p111 =>
      ld ZaJ p111 >>= fun x112 =>
      Zcz x112 >>= fun r113 =>
      pure r113
     else
      pure false) >>= fun y114 =>
    if y114 = true then
     ZaD a0 >>= fun r117 =>
     Zbw a0 r117 >>= fun r118 =>
     pure ()
    else
     pure ()
theorem Zav.K1_ok (a0 : (Option Addr)) (r1 : Zaw) (b2 : Nat) :
  SJ Zav.cx [.code (c2 (c2 (c2 (c2 Zav.B))))] [(0, .pointer a0), (2, .pointer (some (pt b2 0)))] [(b2, ZaJ.enc r1)] (Zav.K1 a0) (rt Zav.out) := by
 unfold Zav.K1
 refine SJ.sr 3 <| J.C 1 F19 (Zcg _) fun r18 => J.s 0 0 rfl Ty53 (Upd.w r18) <| J.z 0 <| SJ.seq <| SJ.sr 10 <| J.n 1 fun p19 => J.l 1 Ty28 fun x20 => J.j 2 3 .bool ?_ ?_ fun y21 => ?_
 ·exact J.e 4
 ·exact J.k 1 0 rfl Ty9 (ZaZ _) <| J.e 2
 ·refine J.z 0 <| J.f ?_ ?_
  ·exact J.r
  ·refine SJ.skip <| SJ.sr 10 <| J.l 1 Ty65 fun x22 => J.k 1 0 rfl Ty9 (ZaZ _) <| J.C 0 F29 (Zcd _ _) fun r23 => J.n 1 fun p24 => J.w 2 Ty3 <| J.z 0 <| SJ.block (id := 0) <| SJ.sr 11 <| J.n 1 fun p25 => J.l 2 Ty3 fun x26 => J.j 2 2 .bool ?_ ?_ fun y28 => ?_
   ·exact J.k 0 0 rfl Ty53 (At.whole _) <| J.C 0 F32 (Zf2 _) fun r27 => J.e 1
   ·exact J.e 3
   ·refine J.z 1 <| J.f ?_ ?_
    ·exact SJ.rg 3 <| J.k 1 0 rfl Ty53 (At.whole _) <| J.C 0 F33 (Zei _ _) fun r75 => J.z 0 <| SJ.inBlock <| SJ.end_ rfl (Res.run (ys := []) .nil rfl)
    ·refine SJ.sr 7 <| J.n 1 fun p76 => J.l 2 Ty3 fun x77 => J.z 2 <| J.f ?_ ?_
     ·exact SJ.rg 4 <| J.k 2 0 rfl Ty3 (Zbh _) <| J.C 0 F20 (ZaV _ _ _) fun r99 => J.z 0 <| SJ.inBlock <| SJ.end_ rfl (Res.run (ys := []) .nil rfl)
     ·refine SJ.seq <| J.R 32 Zc3 <| J.n 1 fun p100 => J.l 2 Ty3 fun x101 => J.g 2 <| OJ.join (b := decide (x101 > 0)) [7, 8, 9, 10, 11, 12, 13, 14, 15, 16, 17] [18, 19, 20, 21, 22, 23, 24, 25, 26, 27, 28, 29, 30, 31] [0, 111] (fun y106 => [(0, .pointer a0), (111, .bool y106)]) [⟨4, 3, (Addr.add (Addr.add p100 3) 2), (cI .i64).val x101⟩] [10, 14] (t := 100) decide_eq_true_iff (fun hp_ => ?_) (fun hp_ => ?_) (fun _ _ _ _ _ _ h_ => h_) fun y106 => ?_
      ·exact J.n 1 fun p102 => J.l 1 Ty3 fun x103 => J.n 1 fun p104 => J.l 1 Ty45 fun x105 => J.g 3 <| OJ.nil ⟨(Cov.mem (Cov.drop (List.mem_of_getElem? (i := 1) rfl) (Cov.drop (List.mem_of_getElem? (i := 0) rfl) (Cov.keep (List.mem_of_getElem? (i := 0) rfl) Cov.nil)))), rfl, _, rfl, by kernel_rfl⟩
      ·exact J.g 11 <| OJ.nil ⟨(Cov.mem (Cov.keep (List.mem_of_getElem? (i := 0) rfl) Cov.nil)), rfl, _, rfl, by kernel_rfl⟩
      ·refine J.g 1 <| OJ.join (b := y106) [19, 20, 21, 22, 23, 24, 25, 26, 27, 28, 29, 30] [31] [0, 124] (fun y114 => [(0, .pointer a0), (124, .bool y114)]) [⟨4, 3, (Addr.add (Addr.add p100 3) 2), (cI .i64).val x101⟩] [22, 26, 28] (t := 112) Iff.rfl (fun hp_ => ?_) (fun hp_ => ?_) (fun _ _ _ _ _ _ h_ => h_) fun y114 => ?_
       ·exact J.n 1 fun p107 => J.l 1 Ty45 fun x108 => J.n 1 fun p109 => J.l 1 Ty3 fun x110 => J.i 0 fun p111 => J.l 0 Ty53 fun x112 => J.C 0 F32 (Zf2 _) fun r113 => J.g 1 <| OJ.nil ⟨(Cov.mem (Cov.drop (List.mem_of_getElem? (i := 2) rfl) (Cov.drop (List.mem_of_getElem? (i := 1) rfl) (Cov.drop (List.mem_of_getElem? (i := 0) rfl) (Cov.keep (List.mem_of_getElem? (i := 0) rfl) Cov.nil))))), rfl, _, rfl, by kernel_rfl⟩
       ·exact J.g 12 <| OJ.nil ⟨(Cov.mem (Cov.keep (List.mem_of_getElem? (i := 0) rfl) Cov.nil)), rfl, _, rfl, by kernel_rfl⟩
       ·refine J.z 1 <| J.f ?_ ?_
        ·exact SJ.rg 4 <| J.C 2 F19 (Zcg _) fun r117 => J.C 0 F33 (Zei _ _) fun r118 => J.z 0 <| SJ.inBlock <| SJ.end_ rfl (Res.run (ys := []) .nil rfl)
        ·exact SJ.skip <| SJ.inBlock <| SJ.end_ rfl (Res.run (ys := []) .nil rfl)
noncomputable def Zav.K2 (a0 : (Option Addr)) : M Unit :=
 nilck a0 >>= fun p12 =>
 ld (cI .i64) (Addr.add p12 3) >>= fun x13 =>
 (if x13 = 1 then
   ZaX a0 ZsQ >>= fun r14 =>
   pure r14
  else
   pure false) >>= fun y15 =>
 if y15 = true then
  Zbm a0 0 7 >>= fun r123 =>
  nilck a0 >>= fun p124 =>
  st (cI .i64) (Addr.add (Addr.add p124 3) 1) r123 >>= fun _ =>
  Zav.K1 a0
 else
  Zav.K1 a0
theorem Zav.K2_ok (a0 : (Option Addr)) (r1 : Zaw) (b2 : Nat) :
  SJ Zav.cx [.code (c2 (c2 (c2 Zav.B)))] [(0, .pointer a0), (2, .pointer (some (pt b2 0)))] [(b2, ZaJ.enc r1)] (Zav.K2 a0) (rt Zav.out) := by
 unfold Zav.K2
 refine SJ.seq <| SJ.sr 10 <| J.n 1 fun p12 => J.l 2 Ty3 fun x13 => J.j 2 2 .bool ?_ ?_ fun y15 => ?_
 ·exact J.C 1 F30 (ZbH _ _) fun r14 => J.e 1
 ·exact J.e 3
 ·refine J.z 0 <| J.f ?_ ?_
  ·exact SJ.rg 7 <| J.C 2 F31 (Zct _ _ _) fun r123 => J.n 0 fun p124 => J.w 2 Ty3 <| J.z 0 <| J.q <| Zav.K1_ok a0 r1 b2
  ·exact SJ.skip <| J.q <| Zav.K1_ok a0 r1 b2
noncomputable def Zav (a0 : (Option Addr)) : M Unit :=
 ZaD a0 >>= fun r1 =>
 slot 53 >>= fun b2 =>
 ld cL ⟨0, 0, none⟩ >>= fun x3 =>
 Zaq x3 r1.s >>= fun r4 =>
 nilck a0 >>= fun p5 =>
 st (cI .i64) (Addr.add p5 3) (IntKind.wrap .i64 (r4 + 1)) >>= fun _ =>
 nilck a0 >>= fun p6 =>
 ld (cI .i64) (Addr.add p6 19) >>= fun x7 =>
 (if x7 = 0 then
   nilck a0 >>= fun p8 =>
   ld (cI .i64) (Addr.add p8 3) >>= fun x9 =>
   pure (x9 == 0)
  else
   pure false) >>= fun y10 =>
 if y10 = true then
  ZaN a0 160 r1.at_ >>= fun r126 =>
  Zav.K2 a0
 else
  Zav.K2 a0
theorem Zgy (a0 : (Option Addr)) : Ref Tryd.prog 18 [.pointer a0] (Zav a0) Zav.out := by
 refine J.Fn Tryd.func18 ?_
 unfold Zav
 refine SJ.sr 4 <| J.C 1 F19 (Zcg _) fun r1 => J.a 0 Ty53 fun b2 => J.s 0 0 rfl Ty53 (Upd.w r1) <| J.z 0 <| SJ.sr 10 <| J.l 1 Ty65 fun x3 => J.k 1 0 rfl Ty9 (ZaZ _) <| J.C 0 F29 (Zcd _ _) fun r4 => J.n 1 fun p5 => J.w 2 Ty3 <| J.z 0 <| SJ.seq <| SJ.sr 13 <| J.n 1 fun p6 => J.l 1 Ty28 fun x7 => J.j 2 6 .bool ?_ ?_ fun y10 => ?_
 ·exact J.n 1 fun p8 => J.l 2 Ty3 fun x9 => J.e 2
 ·exact J.e 7
 ·refine J.z 0 <| J.f ?_ ?_
  ·exact SJ.rg 4 <| J.k 2 0 rfl Ty3 (Zbh _) <| J.C 0 F20 (ZaV _ _ _) fun r126 => J.z 0 <| J.q <| Zav.K2_ok a0 r1 b2
  ·exact SJ.skip <| J.q <| Zav.K2_ok a0 r1 b2

/-! ### internal/stringslite.HasPrefix: function 72 -/
noncomputable def Zbs.out (r_ : Bool) : Value := .bool r_
noncomputable def Zbs (a0 : ByteArray) (a1 : ByteArray) : M Bool :=
 (if (a0.size : Int) ≥ (a1.size : Int) then
   chk (0 ≤ (0 : Int) ∧ (0 : Int) ≤ (a1.size : Int) ∧ (a1.size : Int) ≤ (a0.size : Int)) >>= fun _ =>
   pure ((ByteArray.extract a0 (Int.toNat 0) (Int.toNat (a1.size : Int))).toList == a1.toList)
  else
   pure false) >>= fun y1 =>
 pure y1
theorem ZdE (a0 : ByteArray) (a1 : ByteArray) : Ref Tryd.prog 72 [.string a0, .string a1] (Zbs a0 a1) Zbs.out := by
 refine J.Fn Tryd.func72 ?_
 unfold Zbs
 refine SJ.sr 1 <| J.z 1 <| SJ.sr 14 <| J.j 6 6 .bool ?_ ?_ fun y1 => ?_
 ·exact J.g 3 <| OJ.cutT (d := 14) (t := 9) (y := .tmp 11) (lo := none) (hi := (some (.tmp 13))) (lo' := none) (hi' := some (.i64, (a1.size : Int))) <| J.e 3
 ·exact J.e 7
 ·exact J.z 1 <| J.r

/-! ### internal/stringslite.CutPrefix: function 61 -/
noncomputable def ZbO.out (r_ : (ByteArray × Bool)) : Value := .tuple #[.string r_.1, .bool r_.2]
noncomputable def ZbO (a0 : ByteArray) (a1 : ByteArray) : M (ByteArray × Bool) :=
 Zbs a0 a1 >>= fun r1 =>
 if ¬ (r1 = true) then
  pure (a0, false)
 else
  chk (0 ≤ ((a1.size : Int) : Int) ∧ ((a1.size : Int) : Int) ≤ (a0.size : Int) ∧ (a0.size : Int) ≤ (a0.size : Int)) >>= fun _ =>
  pure ((ByteArray.extract a0 (Int.toNat (a1.size : Int)) (Int.toNat (a0.size : Int))), true)
theorem Zfg (a0 : ByteArray) (a1 : ByteArray) : Ref Tryd.prog 61 [.string a0, .string a1] (ZbO a0 a1) ZbO.out := by
 refine J.Fn Tryd.func61 ?_
 unfold ZbO
 refine SJ.sr 2 <| J.z 2 <| SJ.seq <| SJ.sr 4 <| J.C 2 F72 (ZdE _ _) fun r1 => J.z 1 <| J.f ?_ ?_
 ·exact SJ.sr 3 <| J.z 3 <| J.r
 ·exact SJ.skip <| SJ.sr 6 <| J.g 3 <| OJ.cutT (d := 14) (t := 9) (y := .tmp 11) (lo := (some (.tmp 13))) (hi := none) (lo' := some (.i64, (a1.size : Int))) (hi' := none) <| J.z 2 <| J.r

/-! ### strings.CutPrefix: function 49 -/
noncomputable def ZbC.out (r_ : (ByteArray × Bool)) : Value := .tuple #[.string r_.1, .bool r_.2]
noncomputable def ZbC (a0 : ByteArray) (a1 : ByteArray) : M (ByteArray × Bool) :=
 ZbO a0 a1 >>= fun r1 =>
 pure (r1.1, r1.2)
theorem Zeq (a0 : ByteArray) (a1 : ByteArray) : Ref Tryd.prog 49 [.string a0, .string a1] (ZbC a0 a1) ZbC.out := by
 refine J.Fn Tryd.func49 ?_
 unfold ZbC
 exact SJ.sr 2 <| J.z 2 <| SJ.sr 7 <| J.C 2 F61 (Zfg _ _) fun r1 => J.z 4 <| J.r

/-! ### (*weir/rules.reader).port: function 34 -/
noncomputable def Zb4.out (r_ : Int) : Value := .int .i64 r_
noncomputable def Zb4 (a0 : (Option Addr)) : M Int :=
 Zbr a0 >>= fun r1 =>
 slot 53 >>= fun b2 =>
 ZbC r1.s Zr1 >>= fun r3 =>
 ZaT r3.1 0 7 >>= fun r4 =>
 nilck a0 >>= fun p5 =>
 ld (cI .i64) (Addr.add p5 19) >>= fun x6 =>
 (if x6 = 0 then
   (if ¬ (r3.2 = true) then
     pure true
    else
     pure (!r4.2)) >>= fun y7 =>
   pure y7
  else
   pure false) >>= fun y8 =>
 if y8 = true then
  ZaN a0 162 r1.at_ >>= fun r10 =>
  pure r4.1
 else
  pure r4.1
theorem Zgx (a0 : (Option Addr)) : Ref Tryd.prog 34 [.pointer a0] (Zb4 a0) Zb4.out := by
 refine J.Fn Tryd.func34 ?_
 unfold Zb4
 refine SJ.sr 1 <| J.z 1 <| SJ.sr 4 <| J.C 1 F46 (Zch _) fun r1 => J.a 0 Ty53 fun b2 => J.s 0 0 rfl Ty53 (Upd.w r1) <| J.z 0 <| SJ.sr 8 <| J.k 1 0 rfl Ty9 (ZaZ _) <| J.C 0 F49 (Zeq _ _) fun r3 => J.z 5 <| SJ.sr 7 <| J.C 1 F47 (ZdO _ _ _) fun r4 => J.z 5 <| SJ.seq <| SJ.sr 13 <| J.n 1 fun p5 => J.l 1 Ty28 fun x6 => J.g 2 <| OJ.join (b := (x6 == 0)) [6, 7, 8, 9, 10, 11, 12] [] [0, 3, 6, 33] (fun y8 => [(0, .pointer a0), (3, .pointer (some (pt b2 0))), (6, .int .i64 r4.1), (33, .bool y8)]) [] [] (t := 26) beq_iff_eq (fun hp_ => ?_) (fun hp_ => ?_) (fun _ _ _ _ _ _ h_ => h_) fun y8 => ?_
 ·refine J.g 3 <| OJ.join (b := (!r3.2)) [9, 10, 11] [12] [0, 3, 6, 26, 32] (fun y7 => [(0, .pointer a0), (3, .pointer (some (pt b2 0))), (6, .int .i64 r4.1), (26, .bool true), (32, .bool y7)]) [] [] (t := 29) (Zlm Iff.rfl) (fun hp_ => ?_) (fun hp_ => ?_) (fun _ _ _ _ _ hq_ h_ => ⟨fun e_ he_ => (hq_ e_ he_).elim (fun h => h_.1 e_ h) (fun h => nomatch h), h_.2⟩) fun y7 => ?_
  ·exact J.g 3 <| OJ.nil ⟨(Cov.mem Cov.nil), rfl, _, rfl, by kernel_rfl⟩
  ·exact J.g 3 <| OJ.nil ⟨(Cov.mem Cov.nil), rfl, _, rfl, by kernel_rfl⟩
  ·exact J.g 1 <| OJ.nil ⟨(Cov.mem Cov.nil), rfl, _, rfl, by kernel_rfl⟩
 ·exact J.g 7 <| OJ.nil ⟨(Cov.mem Cov.nil), rfl, _, rfl, by kernel_rfl⟩
 ·refine J.z 0 <| J.f ?_ ?_
  ·exact SJ.rg 4 <| J.k 2 0 rfl Ty3 (Zbh _) <| J.C 0 F20 (ZaV _ _ _) fun r10 => J.z 0 <| SJ.sr 2 <| J.z 2 <| J.r
  ·exact SJ.skip <| SJ.sr 2 <| J.z 2 <| J.r

/-! ### internal/stringslite.IndexByte: function 93 -/
noncomputable def Zby.out (r_ : Int) : Value := .int .i64 r_
noncomputable def Zby (a0 : ByteArray) (a1 : Int) : M Int :=
 idxB a0 a1 >>= fun r1 =>
 pure r1
theorem ZdD (a0 : ByteArray) (a1 : Int) : Ref Tryd.prog 93 [.string a0, .int .u8 a1] (Zby a0 a1) Zby.out := by
 refine J.Fn Tryd.func93 ?_
 unfold Zby
 exact SJ.sr 1 <| J.z 1 <| SJ.sr 4 <| J.g 2 <| OJ.ext (d := 7) (g := 100) (ats := #[9, 5]) (args := [.tmp 5, .tmp 6]) (out := fun r => .int .i64 r) (owed := []) Tryd.func100 Zrh fun r1 => OW.nil <| J.z 1 <| J.r

/-! ### internal/bytealg.Cutover: function 95 -/
noncomputable def Zdf.out (r_ : Int) : Value := .int .i64 r_
noncomputable def Zdf (a0 : Int) : M Int :=
 pure (IntKind.wrap .i64 (Int.tdiv (IntKind.wrap .i64 (a0 + 16)) 8))
theorem ZhA (a0 : Int) : Ref Tryd.prog 95 [.int .i64 a0] (Zdf a0) Zdf.out := by
 refine J.Fn Tryd.func95 ?_
 unfold Zdf
 exact SJ.sr 1 <| J.z 1 <| SJ.sr 4 <| J.z 4 <| J.r

/-! ### internal/bytealg.hashStr[string]: function 101 -/
noncomputable def Zaf.B : Code := bod Tryd.f101
noncomputable def Zaf.cx : Fx := ⟨Tryd.prog, 101, Tryd.f101, none⟩
noncomputable def Zaf.out (r_ : (Int × Int)) : Value := .tuple #[.int .u32 r_.1, .int .u32 r_.2]
noncomputable def Zaf.F1 (s1 : Int) : LF (Int × Int × Int) (Int × Int) := ⟨[.inBlock 2, .code (c2 (c2 (c2 (c2 (c2 Zaf.B)))))], c1 (c2 (c1 (c2 (c2 (c2 (c2 Zaf.B)))))), fun s_ => [(4, .int .u32 s1), (6, .int .u32 s_.1), (7, .int .u32 s_.2.1), (8, .int .i64 s_.2.2)], fun s_ => [], (rt Zaf.out)⟩
noncomputable def Zaf.L1 (s1 : Int) (s6 : Int) (s7 : Int) (s8 : Int) : M (LS (Int × Int × Int) (Int × Int)) :=
 if s8 > 0 then
  if (band .i64 s8 1) ≠ 0 then
   pure (LS.next (IntKind.wrap .u32 (s6 * s7), IntKind.wrap .u32 (s7 * s7), Int.fdiv s8 (2 ^ 1)))
  else
   pure (LS.next (s6, IntKind.wrap .u32 (s7 * s7), Int.fdiv s8 (2 ^ 1)))
 else
  pure (LS.done (s1, s6))
theorem Zaf.L1_ok (s1 : Int) : LJ Zaf.cx (Zaf.F1 s1) (fun s_ => Zaf.L1 s1 s_.1 s_.2.1 s_.2.2) := by
 rintro ⟨s6, s7, s8⟩
 show SJ _ _ _ _ (Zaf.L1 s1 s6 s7 s8) _
 unfold Zaf.L1
 refine SJ.seq <| SJ.sr 2 <| J.z 2 <| J.f ?_ ?_
 ·refine SJ.skip <| SJ.seq <| SJ.block (id := 3) <| SJ.seq <| SJ.sr 3 <| J.z 3 <| J.f ?_ ?_
  ·exact SJ.rg 4 <| J.z 4 <| SJ.rg 4 <| J.z 4 <| SJ.inBlock <| SJ.rg 3 <| J.z 3 <| J.o rfl
  ·exact SJ.skip <| SJ.rg 4 <| J.z 4 <| SJ.inBlock <| SJ.rg 3 <| J.z 3 <| J.o rfl
 ·exact SJ.exit (id := 2) (by rfl) <| SJ.sr 4 <| J.z 4 <| J.r
noncomputable def Zaf.K1 (a0 : ByteArray) (s1 : Int) : M (Int × Int) :=
 Zci (fun s_ : (Int × Int × Int) => Zaf.L1 s1 s_.1 s_.2.1 s_.2.2) (1, 16777619, (a0.size : Int))
theorem Zaf.K1_ok (a0 : ByteArray) (s1 : Int) :
  SJ Zaf.cx [.code (c2 (c2 (c2 Zaf.B)))] [(0, .string a0), (4, .int .u32 s1)] [] (Zaf.K1 a0 s1) (rt Zaf.out) := by
 unfold Zaf.K1
 exact SJ.sr 2 <| J.z 2 <| SJ.seq <| SJ.sr 3 <| J.z 3 <| SJ.block (id := 2) <| J.L (Zaf.L1_ok s1)
noncomputable def Zaf.F2 (a0 : ByteArray) : LF (Int × Int) (Int × Int) := ⟨[.inBlock 0, .code (c2 (c2 (c2 Zaf.B)))], c1 (c2 (c1 (c2 (c2 Zaf.B)))), fun s_ => [(0, .string a0), (4, .int .u32 s_.1), (5, .int .i64 s_.2)], fun s_ => [], (rt Zaf.out)⟩
noncomputable def Zaf.L2 (a0 : ByteArray) (s1 : Int) (s2 : Int) : M (LS (Int × Int) (Int × Int)) :=
 if s2 < (a0.size : Int) then
  chk ((0 : Int) ≤ s2 ∧ s2 < (a0.size : Int)) >>= fun _ =>
  pure (LS.next (IntKind.wrap .u32 ((IntKind.wrap .u32 (s1 * 16777619)) + (IntKind.wrap .u32 (sb a0 s2))), IntKind.wrap .i64 (s2 + 1)))
 else
  (Zaf.K1 a0 s1) >>= fun b => pure (LS.done b)
theorem Zaf.L2_ok (a0 : ByteArray) : LJ Zaf.cx (Zaf.F2 a0) (fun s_ => Zaf.L2 a0 s_.1 s_.2) := by
 rintro ⟨s1, s2⟩
 show SJ _ _ _ _ (Zaf.L2 a0 s1 s2) _
 unfold Zaf.L2
 refine SJ.seq <| SJ.sr 4 <| J.z 4 <| J.f ?_ ?_
 ·exact SJ.skip <| SJ.seq <| SJ.block (id := 1) <| SJ.rg 8 <| J.t 4 fun hb13 hb14 => J.z 3 <| SJ.inBlock <| SJ.rg 3 <| J.z 3 <| J.o rfl
 ·exact SJ.exit (id := 0) (by rfl) <| J.q <| SJ.done <| Zaf.K1_ok a0 s1
noncomputable def Zaf (a0 : ByteArray) : M (Int × Int) :=
 Zci (fun s_ : (Int × Int) => Zaf.L2 a0 s_.1 s_.2) (0, 0)
theorem Ze8 (a0 : ByteArray) : Ref Tryd.prog 101 [.string a0] (Zaf a0) Zaf.out := by
 refine J.Fn Tryd.func101 ?_
 unfold Zaf
 exact SJ.sr 2 <| J.z 2 <| SJ.sr 1 <| J.z 1 <| SJ.seq <| SJ.sr 1 <| J.z 1 <| SJ.block (id := 0) <| J.L (Zaf.L2_ok a0)

/-! ### internal/bytealg.IndexRabinKarp[string]: function 96 -/
noncomputable def Zad.B : Code := bod Tryd.f96
noncomputable def Zad.cx : Fx := ⟨Tryd.prog, 96, Tryd.f96, none⟩
noncomputable def Zad.out (r_ : Int) : Value := .int .i64 r_
noncomputable def Zad.F1 (a0 : ByteArray) (a1 : ByteArray) (r1 : (Int × Int)) : LF (Int × Int) Int := ⟨[.inBlock 2, .code (c2 (c2 (c2 (c2 (c2 (c2 (c2 Zad.B)))))))], c1 (c2 (c1 (c2 (c2 (c2 (c2 (c2 (c2 Zad.B)))))))), fun s_ => [(0, .string a0), (1, .string a1), (5, .int .u32 r1.1), (6, .int .u32 r1.2), (7, .int .i64 (a1.size : Int)), (8, .int .u32 s_.1), (10, .int .i64 s_.2)], fun s_ => [], (rt Zad.out)⟩
noncomputable def Zad.L1 (a0 : ByteArray) (a1 : ByteArray) (r1 : (Int × Int)) (s8 : Int) (s9 : Int) : M (LS (Int × Int) Int) :=
 if s9 < (a0.size : Int) then
  chk ((0 : Int) ≤ s9 ∧ s9 < (a0.size : Int)) >>= fun _ =>
  chk ((0 : Int) ≤ (IntKind.wrap .i64 (s9 - (a1.size : Int))) ∧ (IntKind.wrap .i64 (s9 - (a1.size : Int))) < (a0.size : Int)) >>= fun _ =>
  (if (IntKind.wrap .u32 ((IntKind.wrap .u32 ((IntKind.wrap .u32 (s8 * 16777619)) + (IntKind.wrap .u32 (sb a0 s9)))) - (IntKind.wrap .u32 (r1.2 * (IntKind.wrap .u32 (sb a0 (IntKind.wrap .i64 (s9 - (a1.size : Int))))))))) = r1.1 then
    chk (0 ≤ ((IntKind.wrap .i64 ((IntKind.wrap .i64 (s9 + 1)) - (a1.size : Int))) : Int) ∧ ((IntKind.wrap .i64 ((IntKind.wrap .i64 (s9 + 1)) - (a1.size : Int))) : Int) ≤ (IntKind.wrap .i64 (s9 + 1)) ∧ (IntKind.wrap .i64 (s9 + 1)) ≤ (a0.size : Int)) >>= fun _ =>
    pure ((ByteArray.extract a0 (Int.toNat (IntKind.wrap .i64 ((IntKind.wrap .i64 (s9 + 1)) - (a1.size : Int)))) (Int.toNat (IntKind.wrap .i64 (s9 + 1)))).toList == a1.toList)
   else
    pure false) >>= fun y21 =>
  if y21 = true then
   pure (LS.done (IntKind.wrap .i64 ((IntKind.wrap .i64 (s9 + 1)) - (a1.size : Int))))
  else
   pure (LS.next (IntKind.wrap .u32 ((IntKind.wrap .u32 ((IntKind.wrap .u32 (s8 * 16777619)) + (IntKind.wrap .u32 (sb a0 s9)))) - (IntKind.wrap .u32 (r1.2 * (IntKind.wrap .u32 (sb a0 (IntKind.wrap .i64 (s9 - (a1.size : Int)))))))), IntKind.wrap .i64 (s9 + 1)))
 else
  pure (LS.done (-1))
theorem Zad.L1_ok (a0 : ByteArray) (a1 : ByteArray) (r1 : (Int × Int)) : LJ Zad.cx (Zad.F1 a0 a1 r1) (fun s_ => Zad.L1 a0 a1 r1 s_.1 s_.2) := by
 rintro ⟨s8, s9⟩
 show SJ _ _ _ _ (Zad.L1 a0 a1 r1 s8 s9) _
 unfold Zad.L1
 refine SJ.seq <| SJ.sr 4 <| J.z 4 <| J.f ?_ ?_
 ·refine SJ.skip <| SJ.block (id := 3) <| SJ.sr 3 <| J.z 3 <| SJ.sr 7 <| J.t 3 fun hb17 hb18 => J.z 3 <| SJ.sr 11 <| J.t 6 fun hb19 hb20 => J.z 4 <| SJ.sr 3 <| J.z 3 <| SJ.sr 13 <| J.j 4 8 .bool ?_ ?_ fun y21 => ?_
  ·exact J.g 5 <| OJ.cutT (d := 74) (t := 9) (y := .tmp 69) (lo := (some (.tmp 72))) (hi := (some (.tmp 73))) (lo' := some (.i64, IntKind.wrap .i64 ((IntKind.wrap .i64 (s9 + 1)) - (a1.size : Int)))) (hi' := some (.i64, IntKind.wrap .i64 (s9 + 1))) <| J.e 3
  ·exact J.e 9
  ·refine J.z 0 <| J.f ?_ ?_
   ·exact SJ.sr 4 <| J.z 4 <| J.r
   ·exact SJ.skip <| SJ.inBlock <| J.o rfl
 ·exact SJ.exit (id := 2) (by rfl) <| SJ.sr 1 <| J.z 1 <| J.r
noncomputable def Zad.K1 (a0 : ByteArray) (a1 : ByteArray) (r1 : (Int × Int)) (s2 : Int) : M Int :=
 (if s2 = r1.1 then
   chk (0 ≤ (0 : Int) ∧ (0 : Int) ≤ (a1.size : Int) ∧ (a1.size : Int) ≤ (a0.size : Int)) >>= fun _ =>
   pure ((ByteArray.extract a0 (Int.toNat 0) (Int.toNat (a1.size : Int))).toList == a1.toList)
  else
   pure false) >>= fun y7 =>
 if y7 = true then
  pure 0
 else
  Zci (fun s_ : (Int × Int) => Zad.L1 a0 a1 r1 s_.1 s_.2) (s2, (a1.size : Int))
theorem Zad.K1_ok (a0 : ByteArray) (a1 : ByteArray) (r1 : (Int × Int)) (s2 : Int) :
  SJ Zad.cx [.code (c2 (c2 (c2 (c2 (c2 Zad.B)))))] [(0, .string a0), (1, .string a1), (5, .int .u32 r1.1), (6, .int .u32 r1.2), (7, .int .i64 (a1.size : Int)), (8, .int .u32 s2)] [] (Zad.K1 a0 a1 r1 s2) (rt Zad.out) := by
 unfold Zad.K1
 refine SJ.seq <| SJ.sr 10 <| J.j 4 5 .bool ?_ ?_ fun y7 => ?_
 ·exact J.g 2 <| OJ.cutT (d := 36) (t := 9) (y := .tmp 34) (lo := none) (hi := (some (.tmp 35))) (lo' := none) (hi' := some (.i64, (a1.size : Int))) <| J.e 3
 ·exact J.e 6
 ·refine J.z 0 <| J.f ?_ ?_
  ·exact SJ.sr 1 <| J.z 1 <| J.r
  ·exact SJ.skip <| SJ.seq <| SJ.sr 2 <| J.z 2 <| SJ.block (id := 2) <| J.L (Zad.L1_ok a0 a1 r1)
noncomputable def Zad.F2 (a0 : ByteArray) (a1 : ByteArray) (r1 : (Int × Int)) : LF (Int × Int) Int := ⟨[.inBlock 0, .code (c2 (c2 (c2 (c2 (c2 Zad.B)))))], c1 (c2 (c1 (c2 (c2 (c2 (c2 Zad.B)))))), fun s_ => [(0, .string a0), (1, .string a1), (5, .int .u32 r1.1), (6, .int .u32 r1.2), (7, .int .i64 (a1.size : Int)), (8, .int .u32 s_.1), (9, .int .i64 s_.2)], fun s_ => [], (rt Zad.out)⟩
noncomputable def Zad.L2 (a0 : ByteArray) (a1 : ByteArray) (r1 : (Int × Int)) (s2 : Int) (s3 : Int) : M (LS (Int × Int) Int) :=
 if s3 < (a1.size : Int) then
  chk ((0 : Int) ≤ s3 ∧ s3 < (a0.size : Int)) >>= fun _ =>
  pure (LS.next (IntKind.wrap .u32 ((IntKind.wrap .u32 (s2 * 16777619)) + (IntKind.wrap .u32 (sb a0 s3))), IntKind.wrap .i64 (s3 + 1)))
 else
  (Zad.K1 a0 a1 r1 s2) >>= fun b => pure (LS.done b)
theorem Zad.L2_ok (a0 : ByteArray) (a1 : ByteArray) (r1 : (Int × Int)) : LJ Zad.cx (Zad.F2 a0 a1 r1) (fun s_ => Zad.L2 a0 a1 r1 s_.1 s_.2) := by
 rintro ⟨s2, s3⟩
 show SJ _ _ _ _ (Zad.L2 a0 a1 r1 s2 s3) _
 unfold Zad.L2
 refine SJ.seq <| SJ.sr 3 <| J.z 3 <| J.f ?_ ?_
 ·exact SJ.skip <| SJ.seq <| SJ.block (id := 1) <| SJ.rg 8 <| J.t 4 fun hb25 hb26 => J.z 3 <| SJ.inBlock <| SJ.rg 3 <| J.z 3 <| J.o rfl
 ·exact SJ.exit (id := 0) (by rfl) <| J.q <| SJ.done <| Zad.K1_ok a0 a1 r1 s2
noncomputable def Zad (a0 : ByteArray) (a1 : ByteArray) : M Int :=
 Zaf a1 >>= fun r1 =>
 Zci (fun s_ : (Int × Int) => Zad.L2 a0 a1 r1 s_.1 s_.2) (0, 0)
theorem Zd3 (a0 : ByteArray) (a1 : ByteArray) : Ref Tryd.prog 96 [.string a0, .string a1] (Zad a0 a1) Zad.out := by
 refine J.Fn Tryd.func96 ?_
 unfold Zad
 exact SJ.sr 1 <| J.z 1 <| SJ.sr 7 <| J.C 1 F101 (Ze8 _) fun r1 => J.z 5 <| SJ.sr 3 <| J.z 3 <| SJ.sr 1 <| J.z 1 <| SJ.seq <| SJ.sr 1 <| J.z 1 <| SJ.block (id := 0) <| J.L (Zad.L2_ok a0 a1 r1)

/-! ### internal/stringslite.Index: function 87 -/
noncomputable def Zaz.B : Code := bod Tryd.f87
noncomputable def Zaz.cx : Fx := ⟨Tryd.prog, 87, Tryd.f87, none⟩
noncomputable def Zaz.out (r_ : Int) : Value := .int .i64 r_
noncomputable def Zaz.F1 (a0 : ByteArray) (a1 : ByteArray) : LF (Int × Int) Int := ⟨[.inBlock 1, .code (c2 (c2 (c2 (c2 (c2 (c2 (c2 (c2 (c2 Zaz.B)))))))))], c1 (c1 (c2 (c2 (c2 (c2 (c2 (c2 (c2 (c2 Zaz.B))))))))), fun s_ => [(0, .string a0), (1, .string a1), (5, .int .i64 (a1.size : Int)), (6, .int .u8 (sb a1 0)), (7, .int .u8 (sb a1 1)), (8, .int .i64 s_.1), (9, .int .i64 (IntKind.wrap .i64 ((IntKind.wrap .i64 ((a0.size : Int) - (a1.size : Int))) + 1))), (10, .int .i64 s_.2)], fun s_ => [], (rt Zaz.out)⟩
noncomputable def Zaz.K1 (a0 : ByteArray) (a1 : ByteArray) (s46 : Int) (j84 : Int) : M (LS (Int × Int) Int) :=
 chk ((0 : Int) ≤ (IntKind.wrap .i64 (j84 + 1)) ∧ (IntKind.wrap .i64 (j84 + 1)) < (a0.size : Int)) >>= fun _ =>
 (if (sb a0 (IntKind.wrap .i64 (j84 + 1))) = (sb a1 1) then
   chk (0 ≤ (j84 : Int) ∧ (j84 : Int) ≤ (IntKind.wrap .i64 (j84 + (a1.size : Int))) ∧ (IntKind.wrap .i64 (j84 + (a1.size : Int))) ≤ (a0.size : Int)) >>= fun _ =>
   pure ((ByteArray.extract a0 (Int.toNat j84) (Int.toNat (IntKind.wrap .i64 (j84 + (a1.size : Int))))).toList == a1.toList)
  else
   pure false) >>= fun y87 =>
 if y87 = true then
  pure (LS.done j84)
 else
  ld (cI .i64) ⟨4, 0, none⟩ >>= fun x88 =>
  (if (a1.size : Int) ≤ x88 then
    Zdf (IntKind.wrap .i64 (j84 + 1)) >>= fun r89 =>
    pure (decide ((IntKind.wrap .i64 (s46 + 1)) > r89))
   else
    pure false) >>= fun y90 =>
  if y90 = true then
   chk (0 ≤ ((IntKind.wrap .i64 (j84 + 1)) : Int) ∧ ((IntKind.wrap .i64 (j84 + 1)) : Int) ≤ (a0.size : Int) ∧ (a0.size : Int) ≤ (a0.size : Int)) >>= fun _ =>
   fail
  else
   ld (cI .i64) ⟨4, 0, none⟩ >>= fun x99 =>
   (if (a1.size : Int) > x99 then
     pure (decide ((IntKind.wrap .i64 (s46 + 1)) ≥ (IntKind.wrap .i64 (4 + (Int.fdiv (IntKind.wrap .i64 (j84 + 1)) (2 ^ 4))))))
    else
     pure false) >>= fun y100 =>
   (if y100 = true then
     pure (decide ((IntKind.wrap .i64 (j84 + 1)) < (IntKind.wrap .i64 ((IntKind.wrap .i64 ((a0.size : Int) - (a1.size : Int))) + 1))))
    else
     pure false) >>= fun y101 =>
   if y101 = true then
    chk (0 ≤ ((IntKind.wrap .i64 (j84 + 1)) : Int) ∧ ((IntKind.wrap .i64 (j84 + 1)) : Int) ≤ (a0.size : Int) ∧ (a0.size : Int) ≤ (a0.size : Int)) >>= fun _ =>
    Zad (ByteArray.extract a0 (Int.toNat (IntKind.wrap .i64 (j84 + 1))) (Int.toNat (a0.size : Int))) a1 >>= fun r104 =>
    if r104 < 0 then
     pure (LS.done (-1))
    else
     pure (LS.done (IntKind.wrap .i64 ((IntKind.wrap .i64 (j84 + 1)) + r104)))
   else
    pure (LS.next (IntKind.wrap .i64 (j84 + 1), IntKind.wrap .i64 (s46 + 1)))
theorem Zaz.K1_ok (a0 : ByteArray) (a1 : ByteArray) (s46 : Int) (j84 : Int) :
  SJ Zaz.cx [.code (c2 (c1 (c2 (c1 (c1 (c1 (c2 (c2 (c2 (c2 (c2 (c2 (c2 (c2 Zaz.B)))))))))))))), .inBlock 2, .inLoop (c1 (c1 (c1 (c2 (c2 (c2 (c2 (c2 (c2 (c2 (c2 Zaz.B))))))))))), .inBlock 1, .code (c2 (c2 (c2 (c2 (c2 (c2 (c2 (c2 (c2 Zaz.B)))))))))] [(0, .string a0), (1, .string a1), (5, .int .i64 (a1.size : Int)), (6, .int .u8 (sb a1 0)), (7, .int .u8 (sb a1 1)), (8, .int .i64 j84), (9, .int .i64 (IntKind.wrap .i64 ((IntKind.wrap .i64 ((a0.size : Int) - (a1.size : Int))) + 1))), (10, .int .i64 s46)] [] (Zaz.K1 a0 a1 s46 j84) (Zaz.F1 a0 a1).f := by
 unfold Zaz.K1
 refine SJ.seq <| SJ.sr 16 <| J.t 3 fun hb85 hb86 => J.j 3 8 .bool ?_ ?_ fun y87 => ?_
 ·exact J.g 5 <| OJ.cutT (d := 90) (t := 9) (y := .tmp 85) (lo := (some (.tmp 86))) (hi := (some (.tmp 89))) (lo' := some (.i64, j84)) (hi' := some (.i64, IntKind.wrap .i64 (j84 + (a1.size : Int)))) <| J.e 3
 ·exact J.e 9
 ·refine J.z 0 <| J.f ?_ ?_
  ·exact SJ.sr 2 <| J.z 2 <| J.r
  ·refine SJ.skip <| SJ.sr 3 <| J.z 3 <| SJ.sr 3 <| J.z 3 <| SJ.sr 9 <| J.l 1 Ty3 fun x88 => J.j 2 4 .bool ?_ ?_ fun y90 => ?_
   ·exact J.C 2 F95 (ZhA _) fun r89 => J.e 2
   ·exact J.e 5
   ·refine J.z 0 <| J.f ?_ ?_
    ·exact SJ.sr 6 <| J.g 2 <| OJ.cutT (d := 110) (t := 9) (y := .tmp 108) (lo := (some (.tmp 109))) (hi := none) (lo' := some (.i64, IntKind.wrap .i64 (j84 + 1))) (hi' := none) <| J.g 1 <| OJ.fail
    ·refine SJ.sr 15 <| J.l 1 Ty3 fun x99 => J.j 2 5 .bool ?_ ?_ fun y100 => ?_
     ·exact J.e 6
     ·exact J.e 6
     ·refine J.j 1 3 .bool ?_ ?_ fun y101 => ?_
      ·exact J.e 4
      ·exact J.e 4
      ·refine J.z 0 <| J.f ?_ ?_
       ·refine SJ.sr 6 <| J.g 2 <| OJ.cutT (d := 135) (t := 9) (y := .tmp 133) (lo := (some (.tmp 134))) (hi := none) (lo' := some (.i64, IntKind.wrap .i64 (j84 + 1))) (hi' := none) <| J.C 1 F96 (Zd3 _ _) fun r104 => J.z 1 <| SJ.seq <| SJ.sr 2 <| J.z 2 <| J.f ?_ ?_
        ·exact SJ.sr 1 <| J.z 1 <| J.r
        ·exact SJ.skip <| SJ.sr 4 <| J.z 4 <| J.r
       ·exact SJ.skip <| SJ.inBlock <| J.o rfl
noncomputable def Zaz.L1 (a0 : ByteArray) (a1 : ByteArray) (s45 : Int) (s46 : Int) : M (LS (Int × Int) Int) :=
 if s45 < (IntKind.wrap .i64 ((IntKind.wrap .i64 ((a0.size : Int) - (a1.size : Int))) + 1)) then
  chk ((0 : Int) ≤ s45 ∧ s45 < (a0.size : Int)) >>= fun _ =>
  if (sb a0 s45) ≠ (sb a1 0) then
   chk (0 ≤ ((IntKind.wrap .i64 (s45 + 1)) : Int) ∧ ((IntKind.wrap .i64 (s45 + 1)) : Int) ≤ (IntKind.wrap .i64 ((IntKind.wrap .i64 ((a0.size : Int) - (a1.size : Int))) + 1)) ∧ (IntKind.wrap .i64 ((IntKind.wrap .i64 ((a0.size : Int) - (a1.size : Int))) + 1)) ≤ (a0.size : Int)) >>= fun _ =>
   Zby (ByteArray.extract a0 (Int.toNat (IntKind.wrap .i64 (s45 + 1))) (Int.toNat (IntKind.wrap .i64 ((IntKind.wrap .i64 ((a0.size : Int) - (a1.size : Int))) + 1)))) (sb a1 0) >>= fun r109 =>
   if r109 < 0 then
    pure (LS.done (-1))
   else
    Zaz.K1 a0 a1 s46 (IntKind.wrap .i64 (s45 + (IntKind.wrap .i64 (r109 + 1))))
  else
   Zaz.K1 a0 a1 s46 s45
 else
  pure (LS.done (-1))
theorem Zaz.L1_ok (a0 : ByteArray) (a1 : ByteArray) : LJ Zaz.cx (Zaz.F1 a0 a1) (fun s_ => Zaz.L1 a0 a1 s_.1 s_.2) := by
 rintro ⟨s45, s46⟩
 show SJ _ _ _ _ (Zaz.L1 a0 a1 s45 s46) _
 unfold Zaz.L1
 refine SJ.seq <| SJ.sr 3 <| J.z 3 <| J.f ?_ ?_
 ·refine SJ.skip <| SJ.block (id := 2) <| SJ.seq <| SJ.sr 5 <| J.t 2 fun hb80 hb81 => J.z 2 <| J.f ?_ ?_
  ·refine SJ.sr 8 <| J.g 4 <| OJ.cutT (d := 69) (t := 9) (y := .tmp 65) (lo := (some (.tmp 67))) (hi := (some (.tmp 68))) (lo' := some (.i64, IntKind.wrap .i64 (s45 + 1))) (hi' := some (.i64, IntKind.wrap .i64 ((IntKind.wrap .i64 ((a0.size : Int) - (a1.size : Int))) + 1))) <| J.C 1 F93 (ZdD _ _) fun r109 => J.z 1 <| SJ.seq <| SJ.sr 2 <| J.z 2 <| J.f ?_ ?_
   ·exact SJ.sr 1 <| J.z 1 <| J.r
   ·exact SJ.skip <| SJ.rg 5 <| J.z 5 <| J.q <| Zaz.K1_ok a0 a1 s46 (IntKind.wrap .i64 (s45 + (IntKind.wrap .i64 (r109 + 1))))
  ·exact SJ.skip <| J.q <| Zaz.K1_ok a0 a1 s46 s45
 ·exact SJ.exit (id := 1) (by rfl) <| SJ.sr 1 <| J.z 1 <| J.r
noncomputable def Zaz (a0 : ByteArray) (a1 : ByteArray) : M Int :=
 (if (a1.size : Int) = 0 then
   pure true
  else
   pure (a1.toList == a0.toList)) >>= fun y1 =>
 if y1 = true then
  pure 0
 else
  if (a1.size : Int) = 1 then
   chk ((0 : Int) ≤ 0 ∧ 0 < (a1.size : Int)) >>= fun _ =>
   Zby a0 (sb a1 0) >>= fun r35 =>
   pure r35
  else
   if (a1.size : Int) ≥ (a0.size : Int) then
    pure (-1)
   else
    ld (cI .i64) ⟨4, 0, none⟩ >>= fun x39 =>
    (if (a1.size : Int) ≤ x39 then
      pure (decide ((a0.size : Int) ≤ 64))
     else
      pure false) >>= fun y40 =>
    if y40 = true then
     fail
    else
     chk ((0 : Int) ≤ 0 ∧ 0 < (a1.size : Int)) >>= fun _ =>
     chk ((0 : Int) ≤ 1 ∧ 1 < (a1.size : Int)) >>= fun _ =>
     Zci (fun s_ : (Int × Int) => Zaz.L1 a0 a1 s_.1 s_.2) (0, 0)
theorem Zep (a0 : ByteArray) (a1 : ByteArray) : Ref Tryd.prog 87 [.string a0, .string a1] (Zaz a0 a1) Zaz.out := by
 refine J.Fn Tryd.func87 ?_
 unfold Zaz
 refine SJ.sr 1 <| J.z 1 <| SJ.sr 3 <| J.z 3 <| SJ.seq <| SJ.block (id := 0) <| SJ.sr 8 <| J.j 3 3 .bool ?_ ?_ fun y1 => ?_
 ·exact J.e 4
 ·exact J.e 4
 ·refine J.z 1 <| J.f ?_ ?_
  ·exact SJ.sr 1 <| J.z 1 <| J.r
  ·refine SJ.sr 3 <| J.z 3 <| J.f ?_ ?_
   ·exact SJ.sr 5 <| J.t 2 fun hb33 hb34 => J.C 0 F93 (ZdD _ _) fun r35 => J.z 1 <| J.r
   ·refine SJ.sr 5 <| J.z 5 <| J.f ?_ ?_
    ·exact SJ.sr 1 <| J.z 1 <| J.r
    ·refine SJ.sr 9 <| J.l 1 Ty3 fun x39 => J.j 2 3 .bool ?_ ?_ fun y40 => ?_
     ·exact J.e 4
     ·exact J.e 4
     ·refine J.z 1 <| J.f ?_ ?_
      ·exact SJ.sr 4 <| J.g 2 <| OJ.fail
      ·exact SJ.skip <| SJ.inBlock <| SJ.sr 3 <| J.t 1 fun hb41 hb42 => J.z 1 <| SJ.sr 3 <| J.t 1 fun hb43 hb44 => J.z 1 <| SJ.sr 1 <| J.z 1 <| SJ.sr 6 <| J.z 6 <| SJ.sr 1 <| J.z 1 <| SJ.seq <| SJ.block (id := 1) <| J.L (Zaz.L1_ok a0 a1)

/-! ### internal/stringslite.Cut: function 75 -/
noncomputable def Zco.out (r_ : (ByteArray × ByteArray × Bool)) : Value := .tuple #[.string r_.1, .string r_.2.1, .bool r_.2.2]
noncomputable def Zco (a0 : ByteArray) (a1 : ByteArray) : M (ByteArray × ByteArray × Bool) :=
 Zaz a0 a1 >>= fun r1 =>
 if r1 ≥ 0 then
  draw >>= fun _ =>
  chk (0 ≤ (0 : Int) ∧ (0 : Int) ≤ r1 ∧ r1 ≤ (a0.size : Int)) >>= fun _ =>
  chk (0 ≤ ((IntKind.wrap .i64 (r1 + (a1.size : Int))) : Int) ∧ ((IntKind.wrap .i64 (r1 + (a1.size : Int))) : Int) ≤ (a0.size : Int) ∧ (a0.size : Int) ≤ (a0.size : Int)) >>= fun _ =>
  pure ((ByteArray.extract a0 (Int.toNat 0) (Int.toNat r1)), (ByteArray.extract a0 (Int.toNat (IntKind.wrap .i64 (r1 + (a1.size : Int)))) (Int.toNat (a0.size : Int))), true)
 else
  pure (a0, ByteArray.empty, false)
theorem Zha (a0 : ByteArray) (a1 : ByteArray) : Ref Tryd.prog 75 [.string a0, .string a1] (Zco a0 a1) Zco.out := by
 refine J.Fn Tryd.func75 ?_
 unfold Zco
 refine SJ.sr 3 <| J.z 3 <| SJ.seq <| SJ.sr 4 <| J.C 2 F87 (Zep _ _) fun r1 => J.z 1 <| SJ.sr 2 <| J.z 2 <| J.f ?_ ?_
 ·exact SJ.seq <| J.R 12 Zc3 <| J.g 2 <| OJ.cutT (d := 15) (t := 9) (y := .tmp 13) (lo := none) (hi := (some (.tmp 14))) (lo' := none) (hi' := some (.i64, r1)) <| J.g 5 <| OJ.cutT (d := 21) (t := 9) (y := .tmp 16) (lo := (some (.tmp 20))) (hi := none) (lo' := some (.i64, IntKind.wrap .i64 (r1 + (a1.size : Int)))) (hi' := none) <| J.z 3 <| J.r
 ·exact SJ.skip <| SJ.sr 4 <| J.z 4 <| J.r

/-! ### strings.Cut: function 64 -/
noncomputable def Zcp.out (r_ : (ByteArray × ByteArray × Bool)) : Value := .tuple #[.string r_.1, .string r_.2.1, .bool r_.2.2]
noncomputable def Zcp (a0 : ByteArray) (a1 : ByteArray) : M (ByteArray × ByteArray × Bool) :=
 Zco a0 a1 >>= fun r1 =>
 pure (r1.1, r1.2.1, r1.2.2)
theorem ZgD (a0 : ByteArray) (a1 : ByteArray) : Ref Tryd.prog 64 [.string a0, .string a1] (Zcp a0 a1) Zcp.out := by
 refine J.Fn Tryd.func64 ?_
 unfold Zcp
 exact SJ.sr 3 <| J.z 3 <| SJ.sr 9 <| J.C 2 F75 (Zha _ _) fun r1 => J.z 6 <| J.r

/-! ### strings.Index: function 90 -/
noncomputable def Zdk.out (r_ : Int) : Value := .int .i64 r_
noncomputable def Zdk (a0 : ByteArray) (a1 : ByteArray) : M Int :=
 Zaz a0 a1 >>= fun r1 =>
 pure r1
theorem Ziq (a0 : ByteArray) (a1 : ByteArray) : Ref Tryd.prog 90 [.string a0, .string a1] (Zdk a0 a1) Zdk.out := by
 refine J.Fn Tryd.func90 ?_
 unfold Zdk
 exact SJ.sr 1 <| J.z 1 <| SJ.sr 4 <| J.C 2 F87 (Zep _ _) fun r1 => J.z 1 <| J.r

/-! ### strings.Contains: function 81 -/
noncomputable def Zcc.out (r_ : Bool) : Value := .bool r_
noncomputable def Zcc (a0 : ByteArray) (a1 : ByteArray) : M Bool :=
 Zdk a0 a1 >>= fun r1 =>
 pure (decide (r1 ≥ 0))
theorem ZgN (a0 : ByteArray) (a1 : ByteArray) : Ref Tryd.prog 81 [.string a0, .string a1] (Zcc a0 a1) Zcc.out := by
 refine J.Fn Tryd.func81 ?_
 unfold Zcc
 exact SJ.sr 1 <| J.z 1 <| SJ.sr 5 <| J.C 2 F90 (Ziq _ _) fun r1 => J.z 2 <| J.r

/-! ### weir/addr.missing: function 86 -/
noncomputable def ZcD.out (r_ : (Option Addr)) : Value := .pointer r_
noncomputable def ZcD (a0 : ByteArray) (a1 : Int) : M (Option Addr) :=
 if a1 = (a0.size : Int) then
  newv 131 Za6 (⟨42, a1⟩ : Zbo) >>= fun b2 =>
  pure (some (pt b2 0))
 else
  newv 131 Za6 (⟨41, a1⟩ : Zbo) >>= fun b3 =>
  pure (some (pt b3 0))
theorem ZeK (a0 : ByteArray) (a1 : Int) : Ref Tryd.prog 86 [.string a0, .int .i64 a1] (ZcD a0 a1) ZcD.out := by
 refine J.Fn Tryd.func86 ?_
 unfold ZcD
 refine SJ.sr 1 <| J.z 1 <| SJ.seq <| SJ.sr 4 <| J.z 4 <| J.f ?_ ?_
 ·exact SJ.sr 4 <| J.u 1 ZhF (.f 0 (Za8 _ 42) (.f 1 (Za9 _ a1) .nil)) <| J.B 0 fun b2 => J.z 1 <| J.r
 ·exact SJ.skip <| SJ.sr 4 <| J.u 1 ZhF (.f 0 (Za8 _ 41) (.f 1 (Za9 _ a1) .nil)) <| J.B 0 fun b3 => J.z 1 <| J.r

/-! ### weir/addr.digit: function 85 -/
noncomputable def ZdG.out (r_ : Bool) : Value := .bool r_
noncomputable def ZdG (a0 : Int) : M Bool :=
 (if a0 ≥ 48 then
   pure (decide (a0 ≤ 57))
  else
   pure false) >>= fun y1 =>
 pure y1
theorem ZhD (a0 : Int) : Ref Tryd.prog 85 [.int .u8 a0] (ZdG a0) ZdG.out := by
 refine J.Fn Tryd.func85 ?_
 unfold ZdG
 refine SJ.sr 1 <| J.z 1 <| SJ.sr 7 <| J.j 3 2 .bool ?_ ?_ fun y1 => ?_
 ·exact J.e 3
 ·exact J.e 3
 ·exact J.z 1 <| J.r

/-! ### weir/addr.number: function 74 -/
noncomputable def ZaG.B : Code := bod Tryd.f74
noncomputable def ZaG.cx : Fx := ⟨Tryd.prog, 74, Tryd.f74, none⟩
noncomputable def ZaG.out (r_ : (Int × Int × (Option Addr))) : Value := .tuple #[.int .i64 r_.1, .int .i64 r_.2.1, .pointer r_.2.2]
noncomputable def ZaG.F1 (a0 : ByteArray) (a1 : Int) (a2 : Int) (a3 : Int) (s1 : Int) : LF (Int × Int) (Int × Int × (Option Addr)) := ⟨[.inBlock 2, .code (c2 (c2 (c2 (c2 (c2 (c2 (c2 ZaG.B)))))))], c1 (c2 (c1 (c2 (c2 (c2 (c2 (c2 (c2 ZaG.B)))))))), fun s_ => [(0, .string a0), (1, .int .i64 a1), (2, .int .i64 a2), (3, .int .i64 a3), (11, .int .i64 s1), (12, .int .i64 s_.1), (13, .int .i64 s_.2)], fun s_ => [], (rt ZaG.out)⟩
noncomputable def ZaG.L1 (a0 : ByteArray) (a1 : Int) (a2 : Int) (a3 : Int) (s1 : Int) (s15 : Int) (s16 : Int) : M (LS (Int × Int) (Int × Int × (Option Addr))) :=
 if s16 < s1 then
  chk ((0 : Int) ≤ s16 ∧ s16 < (a0.size : Int)) >>= fun _ =>
  pure (LS.next (IntKind.wrap .i64 ((IntKind.wrap .i64 (10 * s15)) + (IntKind.wrap .i64 (IntKind.wrap .u8 ((sb a0 s16) - 48)))), IntKind.wrap .i64 (s16 + 1)))
 else
  if s15 > a2 then
   newv 131 Za6 (⟨a3, a1⟩ : Zbo) >>= fun b26 =>
   pure (LS.done (0, 0, (some (pt b26 0))))
  else
   pure (LS.done (s15, s1, none))
theorem ZaG.L1_ok (a0 : ByteArray) (a1 : Int) (a2 : Int) (a3 : Int) (s1 : Int) : LJ ZaG.cx (ZaG.F1 a0 a1 a2 a3 s1) (fun s_ => ZaG.L1 a0 a1 a2 a3 s1 s_.1 s_.2) := by
 rintro ⟨s15, s16⟩
 show SJ _ _ _ _ (ZaG.L1 a0 a1 a2 a3 s1 s15 s16) _
 unfold ZaG.L1
 refine SJ.seq <| SJ.sr 3 <| J.z 3 <| J.f ?_ ?_
 ·exact SJ.skip <| SJ.seq <| SJ.block (id := 3) <| SJ.rg 9 <| J.t 4 fun hb23 hb24 => J.z 4 <| SJ.inBlock <| SJ.rg 3 <| J.z 3 <| J.o rfl
 ·refine SJ.exit (id := 2) (by rfl) <| SJ.seq <| SJ.sr 3 <| J.z 3 <| J.f ?_ ?_
  ·exact SJ.sr 7 <| J.u 2 ZhF (.f 0 (Za8 _ a3) (.f 1 (Za9 _ a1) .nil)) <| J.B 0 fun b26 => J.z 3 <| J.r
  ·exact SJ.skip <| SJ.sr 5 <| J.z 5 <| J.r
noncomputable def ZaG.K1 (a0 : ByteArray) (a1 : Int) (a2 : Int) (a3 : Int) (s1 : Int) : M (Int × Int × (Option Addr)) :=
 if s1 = a1 then
  ZcD a0 a1 >>= fun r8 =>
  pure (0, 0, r8)
 else
  (if (IntKind.wrap .i64 (s1 - a1)) > 3 then
    pure true
   else
    (if (IntKind.wrap .i64 (s1 - a1)) > 1 then
      chk ((0 : Int) ≤ a1 ∧ a1 < (a0.size : Int)) >>= fun _ =>
      pure ((sb a0 a1) == 48)
     else
      pure false) >>= fun y11 =>
    pure y11) >>= fun y12 =>
  if y12 = true then
   newv 131 Za6 (⟨a3, a1⟩ : Zbo) >>= fun b14 =>
   pure (0, 0, (some (pt b14 0)))
  else
   Zci (fun s_ : (Int × Int) => ZaG.L1 a0 a1 a2 a3 s1 s_.1 s_.2) (0, a1)
theorem ZaG.K1_ok (a0 : ByteArray) (a1 : Int) (a2 : Int) (a3 : Int) (s1 : Int) :
  SJ ZaG.cx [.code (c2 (c2 (c2 ZaG.B)))] [(0, .string a0), (1, .int .i64 a1), (2, .int .i64 a2), (3, .int .i64 a3), (11, .int .i64 s1)] [] (ZaG.K1 a0 a1 a2 a3 s1) (rt ZaG.out) := by
 unfold ZaG.K1
 refine SJ.seq <| SJ.sr 3 <| J.z 3 <| J.f ?_ ?_
 ·exact SJ.sr 6 <| J.C 2 F86 (ZeK _ _) fun r8 => J.z 3 <| J.r
 ·refine SJ.skip <| SJ.seq <| SJ.sr 16 <| J.g 5 <| OJ.join (b := decide ((IntKind.wrap .i64 (s1 - a1)) > 3)) [5, 6, 7, 8, 9, 10, 11, 12, 13, 14, 15] [] [0, 1, 2, 3, 11, 48] (fun y12 => [(0, .string a0), (1, .int .i64 a1), (2, .int .i64 a2), (3, .int .i64 a3), (11, .int .i64 s1), (48, .bool y12)]) [] [] (t := 37) decide_eq_true_iff (fun hp_ => ?_) (fun hp_ => ?_) (fun _ _ _ _ _ _ h_ => h_) fun y12 => ?_
  ·exact J.g 11 <| OJ.nil ⟨(Cov.mem Cov.nil), rfl, _, rfl, by kernel_rfl⟩
  ·refine J.g 5 <| OJ.join (b := decide ((IntKind.wrap .i64 (s1 - a1)) > 1)) [10, 11, 12, 13, 14] [15] [0, 1, 2, 3, 11, 37, 47] (fun y11 => [(0, .string a0), (1, .int .i64 a1), (2, .int .i64 a2), (3, .int .i64 a3), (11, .int .i64 s1), (37, .bool false), (47, .bool y11)]) [] [] (t := 42) decide_eq_true_iff (fun hp_ => ?_) (fun hp_ => ?_) (fun _ _ _ _ _ hq_ h_ => ⟨fun e_ he_ => (hq_ e_ he_).elim (fun h => h_.1 e_ h) (fun h => nomatch h), h_.2⟩) fun y11 => ?_
   ·exact J.t 2 fun hb9 hb10 => J.g 2 <| OJ.nil ⟨(Cov.mem Cov.nil), rfl, _, rfl, by kernel_rfl⟩
   ·exact J.g 5 <| OJ.nil ⟨(Cov.mem Cov.nil), rfl, _, rfl, by kernel_rfl⟩
   ·exact J.g 1 <| OJ.nil ⟨(Cov.mem Cov.nil), rfl, _, rfl, by kernel_rfl⟩
  ·refine J.z 0 <| J.f ?_ ?_
   ·exact SJ.sr 7 <| J.u 2 ZhF (.f 0 (Za8 _ a3) (.f 1 (Za9 _ a1) .nil)) <| J.B 0 fun b14 => J.z 3 <| J.r
   ·exact SJ.skip <| SJ.sr 1 <| J.z 1 <| SJ.seq <| SJ.sr 2 <| J.z 2 <| SJ.block (id := 2) <| J.L (ZaG.L1_ok a0 a1 a2 a3 s1)
noncomputable def ZaG.F2 (a0 : ByteArray) (a1 : Int) (a2 : Int) (a3 : Int) : LF Int (Int × Int × (Option Addr)) := ⟨[.inBlock 0, .code (c2 (c2 (c2 ZaG.B)))], c1 (c1 (c2 (c2 ZaG.B))), fun s_ => [(0, .string a0), (1, .int .i64 a1), (2, .int .i64 a2), (3, .int .i64 a3), (11, .int .i64 s_)], fun s_ => [], (rt ZaG.out)⟩
noncomputable def ZaG.L2 (a0 : ByteArray) (a1 : Int) (a2 : Int) (a3 : Int) (s1 : Int) : M (LS Int (Int × Int × (Option Addr))) :=
 (if s1 < (a0.size : Int) then
   chk ((0 : Int) ≤ s1 ∧ s1 < (a0.size : Int)) >>= fun _ =>
   ZdG (sb a0 s1) >>= fun r33 =>
   pure r33
  else
   pure false) >>= fun y34 =>
 if y34 = true then
  pure (LS.next (IntKind.wrap .i64 (s1 + 1)))
 else
  (ZaG.K1 a0 a1 a2 a3 s1) >>= fun b => pure (LS.done b)
theorem ZaG.L2_ok (a0 : ByteArray) (a1 : Int) (a2 : Int) (a3 : Int) : LJ ZaG.cx (ZaG.F2 a0 a1 a2 a3) (fun s_ => ZaG.L2 a0 a1 a2 a3 s_) := by
 rintro s1
 show SJ _ _ _ _ (ZaG.L2 a0 a1 a2 a3 s1) _
 unfold ZaG.L2
 refine SJ.seq <| SJ.sr 10 <| J.j 5 4 .bool ?_ ?_ fun y34 => ?_
 ·exact J.t 2 fun hb31 hb32 => J.C 0 F85 (ZhD _) fun r33 => J.e 1
 ·exact J.e 5
 ·refine J.z 0 <| J.f ?_ ?_
  ·exact SJ.skip <| SJ.block (id := 1) <| SJ.rg 3 <| J.z 3 <| SJ.inBlock <| J.o rfl
  ·exact SJ.exit (id := 0) (by rfl) <| J.q <| SJ.done <| ZaG.K1_ok a0 a1 a2 a3 s1
noncomputable def ZaG (a0 : ByteArray) (a1 : Int) (a2 : Int) (a3 : Int) : M (Int × Int × (Option Addr)) :=
 Zci (fun s_ : Int => ZaG.L2 a0 a1 a2 a3 s_) a1
theorem ZgI (a0 : ByteArray) (a1 : Int) (a2 : Int) (a3 : Int) : Ref Tryd.prog 74 [.string a0, .int .i64 a1, .int .i64 a2, .int .i64 a3] (ZaG a0 a1 a2 a3) ZaG.out := by
 refine J.Fn Tryd.func74 ?_
 unfold ZaG
 exact SJ.sr 3 <| J.z 3 <| SJ.sr 2 <| J.z 2 <| SJ.seq <| SJ.block (id := 0) <| J.L (ZaG.L2_ok a0 a1 a2 a3)

/-! ### weir/addr.four: function 82 -/
noncomputable def ZaR.B : Code := bod Tryd.f82
noncomputable def ZaR.cx : Fx := ⟨Tryd.prog, 82, Tryd.f82, none⟩
noncomputable def ZaR.out (r_ : ((Vec Int 4) × (Option Addr))) : Value := .tuple #[((cI .u8).arr 4).val r_.1, .pointer r_.2]
noncomputable def ZaR.K1 (a0 : ByteArray) (s3 : Int) (s5 : (Vec Int 4)) : M ((Vec Int 4) × (Option Addr)) :=
 if s3 < (a0.size : Int) then
  newv 131 Za6 (⟨41, s3⟩ : Zbo) >>= fun b27 =>
  pure (s5, (some (pt b27 0)))
 else
  pure (s5, none)
theorem ZaR.K1_ok (a0 : ByteArray) (b1 : Nat) (b2 : Nat) (s3 : Int) (s5 : (Vec Int 4)) (s6 : (Vec Int 4)) :
  SJ ZaR.cx [.code (c2 (c2 (c2 ZaR.B)))] [(0, .string a0), (1, .int .i64 s3), (4, .pointer (some (pt b1 0))), (6, .pointer (some (pt b2 0)))] [(b2, ((cI .u8).arr 4).enc s5), (b1, ((cI .u8).arr 4).enc s6)] (ZaR.K1 a0 s3 s5) (rt ZaR.out) := by
 unfold ZaR.K1
 refine SJ.seq <| SJ.sr 4 <| J.z 4 <| J.f ?_ ?_
 ·exact SJ.sr 6 <| J.k 0 0 rfl ZfK (At.whole _) <| J.u 1 ZhF (.f 0 (Za8 _ 41) (.f 1 (Za9 _ s3) .nil)) <| J.B 0 fun b27 => J.s 0 1 rfl ZfK (Upd.w s5) <| J.z 1 <| SJ.ret rfl (Res.run (ys := [((cI .u8).arr 4).val s5, .pointer (some (pt b27 0))]) (.cell (j := 1) (b := b1) (cd := ((cI .u8).arr 4)) (q := s5) (by kernel_rfl) rfl ZfK (At.whole _) (.tmp (by kernel_rfl) .nil)) rfl)
 ·exact SJ.skip <| SJ.sr 3 <| J.k 0 0 rfl ZfK (At.whole _) <| J.s 0 1 rfl ZfK (Upd.w s5) <| J.z 1 <| SJ.ret rfl (Res.run (ys := [((cI .u8).arr 4).val s5, .pointer none]) (.cell (j := 1) (b := b1) (cd := ((cI .u8).arr 4)) (q := s5) (by kernel_rfl) rfl ZfK (At.whole _) (.tmp (by kernel_rfl) .nil)) rfl)
noncomputable def ZaR.F1 (a0 : ByteArray) (b1 : Nat) (b2 : Nat) : LF (Int × Int × (Vec Int 4) × (Vec Int 4)) ((Vec Int 4) × (Option Addr)) := ⟨[.inBlock 0, .code (c2 (c2 (c2 ZaR.B)))], c1 (c2 (c1 (c2 (c2 ZaR.B)))), fun s_ => [(0, .string a0), (1, .int .i64 s_.1), (4, .pointer (some (pt b1 0))), (6, .pointer (some (pt b2 0))), (11, .int .i64 s_.2.1)], fun s_ => [(b2, ((cI .u8).arr 4).enc s_.2.2.1), (b1, ((cI .u8).arr 4).enc s_.2.2.2)], (rt ZaR.out)⟩
noncomputable def ZaR.K2 (a0 : ByteArray) (s4 : Int) (s5 : (Vec Int 4)) (s6 : (Vec Int 4)) (j35 : Int) : M (LS (Int × Int × (Vec Int 4) × (Vec Int 4)) ((Vec Int 4) × (Option Addr))) :=
 ZaG a0 j35 255 43 >>= fun r36 =>
 if ¬ (r36.2.2 = none) then
  pure (LS.done (s5, r36.2.2))
 else
  chk ((0 : Int) ≤ s4 ∧ s4 < (4 : Nat)) >>= fun _ =>
  pure (LS.next (r36.2.1, IntKind.wrap .i64 (s4 + 1), (Vec.s s5 s4 (IntKind.wrap .u8 r36.1)), s6))
theorem ZaR.K2_ok (a0 : ByteArray) (b1 : Nat) (b2 : Nat) (s4 : Int) (s5 : (Vec Int 4)) (s6 : (Vec Int 4)) (j35 : Int) :
  SJ ZaR.cx [.code (c2 (c2 (c1 (c1 (c2 (c2 (c1 (c1 (c2 (c1 (c2 (c2 ZaR.B)))))))))))), .inBlock 1, .code (c2 (c2 (c2 (c1 (c1 (c2 (c1 (c2 (c2 ZaR.B))))))))), .inLoop (c1 (c1 (c2 (c1 (c2 (c2 ZaR.B)))))), .inBlock 0, .code (c2 (c2 (c2 ZaR.B)))] [(0, .string a0), (1, .int .i64 j35), (4, .pointer (some (pt b1 0))), (6, .pointer (some (pt b2 0))), (11, .int .i64 s4), (7, .int .i64 s4)] [(b2, ((cI .u8).arr 4).enc s5), (b1, ((cI .u8).arr 4).enc s6)] (ZaR.K2 a0 s4 s5 s6 j35) (ZaR.F1 a0 b1 b2).f := by
 unfold ZaR.K2
 refine SJ.sr 10 <| J.C 2 F74 (ZgI _ _ _ _) fun r36 => J.z 7 <| SJ.seq <| SJ.sr 2 <| J.z 2 <| J.f ?_ ?_
 ·exact SJ.sr 4 <| J.k 0 0 rfl ZfK (At.whole _) <| J.s 1 1 rfl ZfK (Upd.w s5) <| J.z 1 <| SJ.ret rfl (Res.run (ys := [((cI .u8).arr 4).val s5, .pointer r36.2.2]) (.cell (j := 1) (b := b1) (cd := ((cI .u8).arr 4)) (q := s5) (by kernel_rfl) rfl ZfK (At.whole _) (.tmp (by kernel_rfl) .nil)) rfl)
 ·exact SJ.skip <| SJ.sr 5 <| J.y 3 fun hb37 hb38 => J.s (u := (IntKind.wrap .u8 r36.1)) 0 0 rfl Ty5 (Upd.zero (Upd.arr hb37 hb38)) <| J.z 0 <| SJ.rg 2 <| J.z 2 <| SJ.inBlock <| SJ.rg 2 <| J.z 2 <| J.o rfl
noncomputable def ZaR.L1 (a0 : ByteArray) (s3 : Int) (s4 : Int) (s5 : (Vec Int 4)) (s6 : (Vec Int 4)) : M (LS (Int × Int × (Vec Int 4) × (Vec Int 4)) ((Vec Int 4) × (Option Addr))) :=
 if s4 < 4 then
  if s4 > 0 then
   (if s3 = (a0.size : Int) then
     pure true
    else
     chk ((0 : Int) ≤ s3 ∧ s3 < (a0.size : Int)) >>= fun _ =>
     pure ((sb a0 s3) != 46)) >>= fun y42 =>
   if y42 = true then
    draw >>= fun _ =>
    ZcD a0 s3 >>= fun r44 =>
    pure (LS.done (s5, r44))
   else
    ZaR.K2 a0 s4 s5 s6 (IntKind.wrap .i64 (s3 + 1))
  else
   ZaR.K2 a0 s4 s5 s6 s3
 else
  (ZaR.K1 a0 s3 s5) >>= fun b => pure (LS.done b)
theorem ZaR.L1_ok (a0 : ByteArray) (b1 : Nat) (b2 : Nat) : LJ ZaR.cx (ZaR.F1 a0 b1 b2) (fun s_ => ZaR.L1 a0 s_.1 s_.2.1 s_.2.2.1 s_.2.2.2) := by
 rintro ⟨s3, s4, s5, s6⟩
 show SJ _ _ _ _ (ZaR.L1 a0 s3 s4 s5 s6) _
 unfold ZaR.L1
 refine SJ.sr 1 <| J.z 1 <| SJ.seq <| J.f ?_ ?_
 ·refine SJ.skip <| SJ.seq <| SJ.block (id := 1) <| SJ.sr 2 <| J.z 2 <| SJ.seq <| SJ.sr 2 <| J.z 2 <| J.f ?_ ?_
  ·refine SJ.seq <| SJ.sr 10 <| J.j 5 4 .bool ?_ ?_ fun y42 => ?_
   ·exact J.e 5
   ·exact J.t 2 fun hb40 hb41 => J.e 2
   ·refine J.z 0 <| J.f ?_ ?_
    ·exact SJ.seq <| J.R 6 Zc3 <| J.k 0 0 rfl ZfK (At.whole _) <| J.g 2 <| OJ.call (d := 29) (g := 86) (ats := #[9, 3]) (args := [.tmp 27, .tmp 28]) (owed := [⟨0, 137, (pt b2 0), ((cI .u8).arr 4).val s5⟩]) F86 (ZeK a0 s3) fun r44 => OW.known (j := 0) (q := s5) ZfK rfl (At.whole _) <| OW.nil <| J.s 0 1 rfl ZfK (Upd.w s5) <| J.z 1 <| SJ.ret rfl (Res.run (ys := [((cI .u8).arr 4).val s5, .pointer r44]) (.cell (j := 1) (b := b1) (cd := ((cI .u8).arr 4)) (q := s5) (by kernel_rfl) rfl ZfK (At.whole _) (.tmp (by kernel_rfl) .nil)) rfl)
    ·exact SJ.skip <| SJ.rg 3 <| J.z 3 <| J.q <| ZaR.K2_ok a0 b1 b2 s4 s5 s6 (IntKind.wrap .i64 (s3 + 1))
  ·exact SJ.skip <| J.q <| ZaR.K2_ok a0 b1 b2 s4 s5 s6 s3
 ·exact SJ.exit (id := 0) (by rfl) <| J.q <| SJ.done <| ZaR.K1_ok a0 b1 b2 s3 s5 s6
noncomputable def ZaR (a0 : ByteArray) (a1 : Int) : M ((Vec Int 4) × (Option Addr)) :=
 slot 137 >>= fun b1 =>
 slot 137 >>= fun b2 =>
 Zci (fun s_ : (Int × Int × (Vec Int 4) × (Vec Int 4)) => ZaR.L1 a0 s_.1 s_.2.1 s_.2.2.1 s_.2.2.2) (a1, 0, (Vec.rep 4 0), (Vec.rep 4 0))
theorem Zip (a0 : ByteArray) (a1 : Int) : Ref Tryd.prog 82 [.string a0, .int .i64 a1] (ZaR a0 a1) ZaR.out := by
 refine J.Fn Tryd.func82 ?_
 unfold ZaR
 exact SJ.sr 2 <| J.a 0 ZfK fun b1 => J.z 1 <| SJ.sr 1 <| J.a 0 ZfK fun b2 => J.z 0 <| SJ.seq <| SJ.sr 1 <| J.z 1 <| SJ.block (id := 0) <| J.L (ZaR.L1_ok a0 b1 b2)

/-! ### strings.HasPrefix: function 97 -/
noncomputable def Zb1.out (r_ : Bool) : Value := .bool r_
noncomputable def Zb1 (a0 : ByteArray) (a1 : ByteArray) : M Bool :=
 Zbs a0 a1 >>= fun r1 =>
 pure r1
theorem Zgt (a0 : ByteArray) (a1 : ByteArray) : Ref Tryd.prog 97 [.string a0, .string a1] (Zb1 a0 a1) Zb1.out := by
 refine J.Fn Tryd.func97 ?_
 unfold Zb1
 exact SJ.sr 1 <| J.z 1 <| SJ.sr 4 <| J.C 2 F72 (ZdE _ _) fun r1 => J.z 1 <| J.r

/-! ### (*weir/addr.six).double: function 91 -/
noncomputable def Zb9.out (r_ : (Bool × (Option Addr))) : Value := .tuple #[.bool r_.1, .pointer r_.2]
noncomputable def Zb9 (a0 : (Option Addr)) : M (Bool × (Option Addr)) :=
 draw >>= fun _ =>
 nilck a0 >>= fun p1 =>
 ld cS p1 >>= fun x2 =>
 nilck a0 >>= fun p3 =>
 ld (cI .i64) (Addr.add p3 1) >>= fun x4 =>
 chk (0 ≤ (x4 : Int) ∧ (x4 : Int) ≤ (x2.size : Int) ∧ (x2.size : Int) ≤ (x2.size : Int)) >>= fun _ =>
 Zb1 (ByteArray.extract x2 (Int.toNat x4) (Int.toNat (x2.size : Int))) ZhK >>= fun r5 =>
 if ¬ (r5 = true) then
  pure (false, none)
 else
  nilck a0 >>= fun p6 =>
  ld (cI .i64) (Addr.add p6 3) >>= fun x7 =>
  (if x7 ≥ 0 then
    pure true
   else
    nilck a0 >>= fun p8 =>
    ld cL (Addr.add p8 2) >>= fun x9 =>
    pure ((x9.len : Int) == 8)) >>= fun y10 =>
  if y10 = true then
   draw >>= fun _ =>
   nilck a0 >>= fun p14 =>
   ld (cI .i64) (Addr.add p14 1) >>= fun x15 =>
   newv 131 Za6 (⟨44, x15⟩ : Zbo) >>= fun b16 =>
   pure (false, (some (pt b16 0)))
  else
   nilck a0 >>= fun p17 =>
   ld cL (Addr.add p17 2) >>= fun x18 =>
   nilck a0 >>= fun p19 =>
   st (cI .i64) (Addr.add p19 3) (x18.len : Int) >>= fun _ =>
   nilck a0 >>= fun p20 =>
   ld (cI .i64) (Addr.add p20 1) >>= fun x21 =>
   nilck a0 >>= fun p22 =>
   st (cI .i64) (Addr.add p22 1) (IntKind.wrap .i64 (x21 + 2)) >>= fun _ =>
   pure (true, none)
theorem Ze0 (a0 : (Option Addr)) : Ref Tryd.prog 91 [.pointer a0] (Zb9 a0) Zb9.out := by
 refine J.Fn Tryd.func91 ?_
 unfold Zb9
 refine SJ.sr 2 <| J.z 2 <| SJ.seq <| SJ.seq <| J.R 11 Zc3 <| J.n 1 fun p1 => J.l 1 Ty9 fun x2 => J.n 1 fun p3 => J.l 1 Ty3 fun x4 => OJ.cutT (d := 12) (t := 9) (y := .tmp 7) (lo := (some (.tmp 11))) (hi := none) (lo' := some (.i64, x4)) (hi' := none) <| J.C 0 F97 (Zgt _ _) fun r5 => J.z 1 <| J.f ?_ ?_
 ·exact SJ.sr 2 <| J.z 2 <| J.r
 ·refine SJ.skip <| SJ.seq <| SJ.sr 13 <| J.n 1 fun p6 => J.l 1 Ty3 fun x7 => J.j 2 6 .bool ?_ ?_ fun y10 => ?_
  ·exact J.e 7
  ·exact J.n 1 fun p8 => J.l 1 Zh7 fun x9 => J.e 3
  ·refine J.z 0 <| J.f ?_ ?_
   ·exact SJ.seq <| J.R 8 Zc3 <| J.n 1 fun p14 => J.l 1 Ty3 fun x15 => J.u 0 ZhF (.f 0 (Za8 _ 44) (.f 1 (Za9 _ x15) .nil)) <| J.B 0 fun b16 => J.z 2 <| J.r
   ·exact SJ.skip <| SJ.sr 9 <| J.n 2 fun p17 => J.l 1 Zh7 fun x18 => J.n 1 fun p19 => J.w 1 Ty3 <| J.z 0 <| SJ.sr 8 <| J.n 1 fun p20 => J.l 1 Ty3 fun x21 => J.n 1 fun p22 => J.w 1 Ty3 <| J.z 0 <| SJ.sr 2 <| J.z 2 <| J.r

/-! ### weir/addr.hexa: function 98 -/
noncomputable def Zek.out (r_ : Int) : Value := .int .i64 r_
noncomputable def Zek (a0 : Int) : M Int :=
 ZdG a0 >>= fun r1 =>
 if r1 = true then
  pure (IntKind.wrap .i64 (IntKind.wrap .u8 (a0 - 48)))
 else
  (if a0 ≥ 97 then
    pure (decide (a0 ≤ 102))
   else
    pure false) >>= fun y8 =>
  if y8 = true then
   pure (IntKind.wrap .i64 ((IntKind.wrap .i64 (IntKind.wrap .u8 (a0 - 97))) + 10))
  else
   (if a0 ≥ 65 then
     pure (decide (a0 ≤ 70))
    else
     pure false) >>= fun y11 =>
   if y11 = true then
    pure (IntKind.wrap .i64 ((IntKind.wrap .i64 (IntKind.wrap .u8 (a0 - 65))) + 10))
   else
    pure (-1)
theorem Zio (a0 : Int) : Ref Tryd.prog 98 [.int .u8 a0] (Zek a0) Zek.out := by
 refine J.Fn Tryd.func98 ?_
 unfold Zek
 refine SJ.sr 1 <| J.z 1 <| SJ.seq <| SJ.block (id := 0) <| SJ.sr 3 <| J.C 1 F85 (ZhD _) fun r1 => J.z 1 <| J.f ?_ ?_
 ·exact SJ.sr 4 <| J.z 4 <| J.r
 ·refine SJ.sr 7 <| J.j 3 2 .bool ?_ ?_ fun y8 => ?_
  ·exact J.e 3
  ·exact J.e 3
  ·refine J.z 1 <| J.f ?_ ?_
   ·exact SJ.sr 5 <| J.z 5 <| J.r
   ·refine SJ.sr 7 <| J.j 3 2 .bool ?_ ?_ fun y11 => ?_
    ·exact J.e 3
    ·exact J.e 3
    ·refine J.z 1 <| J.f ?_ ?_
     ·exact SJ.sr 5 <| J.z 5 <| J.r
     ·exact SJ.skip <| SJ.inBlock <| SJ.sr 1 <| J.z 1 <| J.r

/-! ### (*weir/addr.six).room: function 99 -/
noncomputable def ZcC.out (r_ : Int) : Value := .int .i64 r_
noncomputable def ZcC (a0 : (Option Addr)) : M Int :=
 nilck a0 >>= fun p1 =>
 ld (cI .i64) (Addr.add p1 3) >>= fun x2 =>
 if x2 ≥ 0 then
  nilck a0 >>= fun p5 =>
  ld cL (Addr.add p5 2) >>= fun x6 =>
  pure (IntKind.wrap .i64 (7 - (x6.len : Int)))
 else
  nilck a0 >>= fun p7 =>
  ld cL (Addr.add p7 2) >>= fun x8 =>
  pure (IntKind.wrap .i64 (8 - (x8.len : Int)))
theorem ZfQ (a0 : (Option Addr)) : Ref Tryd.prog 99 [.pointer a0] (ZcC a0) ZcC.out := by
 refine J.Fn Tryd.func99 ?_
 unfold ZcC
 refine SJ.sr 1 <| J.z 1 <| SJ.seq <| SJ.sr 5 <| J.n 1 fun p1 => J.l 1 Ty3 fun x2 => J.z 1 <| J.f ?_ ?_
 ·exact SJ.sr 7 <| J.n 1 fun p5 => J.l 1 Zh7 fun x6 => J.z 3 <| J.r
 ·exact SJ.skip <| SJ.sr 7 <| J.n 1 fun p7 => J.l 1 Zh7 fun x8 => J.z 3 <| J.r

/-! ### (*weir/addr.six).group: function 92 -/
noncomputable def ZaL.B : Code := bod Tryd.f92
noncomputable def ZaL.cx : Fx := ⟨Tryd.prog, 92, Tryd.f92, none⟩
noncomputable def ZaL.out (r_ : (Bool × (Option Addr))) : Value := .tuple #[.bool r_.1, .pointer r_.2]
noncomputable def ZaL.K1 (a0 : (Option Addr)) (x2 : Int) (s3 : Int) (s4 : Int) : M (Bool × (Option Addr)) :=
 if s4 = x2 then
  nilck a0 >>= fun p22 =>
  ld cS p22 >>= fun x23 =>
  ZcD x23 x2 >>= fun r24 =>
  pure (false, r24)
 else
  nilck a0 >>= fun p25 =>
  ld cS p25 >>= fun x26 =>
  (if s4 < (x26.size : Int) then
    nilck a0 >>= fun p27 =>
    ld cS p27 >>= fun x28 =>
    chk ((0 : Int) ≤ s4 ∧ s4 < (x28.size : Int)) >>= fun _ =>
    pure ((sb x28 s4) == 46)
   else
    pure false) >>= fun y31 =>
  (if y31 = true then
    nilck a0 >>= fun p32 =>
    ld cL (Addr.add p32 2) >>= fun x33 =>
    (if (x33.len : Int) > 0 then
      pure true
     else
      nilck a0 >>= fun p34 =>
      ld (cI .i64) (Addr.add p34 3) >>= fun x35 =>
      pure (decide (x35 ≥ 0))) >>= fun y36 =>
    pure y36
   else
    pure false) >>= fun y37 =>
  if y37 = true then
   ZcC a0 >>= fun r51 =>
   if r51 < 2 then
    newv 131 Za6 (⟨44, x2⟩ : Zbo) >>= fun b53 =>
    pure (false, (some (pt b53 0)))
   else
    nilck a0 >>= fun p54 =>
    ld cS p54 >>= fun x55 =>
    ZaR x55 x2 >>= fun r56 =>
    slot 137 >>= fun b57 =>
    draw >>= fun _ =>
    nilck a0 >>= fun p58 =>
    ld cL (Addr.add p58 2) >>= fun x59 =>
    slot 3 >>= fun b60 =>
    same cL (Addr.add p58 2) x59 >>= fun _ =>
    appl (cI .i64) 3 8 0 x59 [bor .i64 (IntKind.wrap .i64 ((IntKind.wrap .i64 (Vec.g r56.1 0 0)) * 2 ^ 8)) (IntKind.wrap .i64 (Vec.g r56.1 1 0)), bor .i64 (IntKind.wrap .i64 ((IntKind.wrap .i64 (Vec.g r56.1 2 0)) * 2 ^ 8)) (IntKind.wrap .i64 (Vec.g r56.1 3 0))] >>= fun r61 =>
    nilck a0 >>= fun p62 =>
    st cL (Addr.add p62 2) r61 >>= fun _ =>
    pure (true, r56.2)
  else
   ZcC a0 >>= fun r64 =>
   if r64 < 1 then
    newv 131 Za6 (⟨44, x2⟩ : Zbo) >>= fun b66 =>
    pure (false, (some (pt b66 0)))
   else
    if (IntKind.wrap .i64 (s4 - x2)) > 4 then
     newv 131 Za6 (⟨43, x2⟩ : Zbo) >>= fun b68 =>
     pure (false, (some (pt b68 0)))
    else
     nilck a0 >>= fun p69 =>
     ld cL (Addr.add p69 2) >>= fun x70 =>
     slot 3 >>= fun b71 =>
     appl (cI .i64) 3 8 0 x70 [s3] >>= fun r72 =>
     nilck a0 >>= fun p73 =>
     st cL (Addr.add p73 2) r72 >>= fun _ =>
     nilck a0 >>= fun p74 =>
     st (cI .i64) (Addr.add p74 1) s4 >>= fun _ =>
     pure (false, none)
theorem ZaL.K1_ok (a0 : (Option Addr)) (x2 : Int) (s3 : Int) (s4 : Int) :
  SJ ZaL.cx [.code (c2 (c2 (c2 (c2 ZaL.B))))] [(0, .pointer a0), (4, .int .i64 x2), (5, .int .i64 s3), (6, .int .i64 s4)] [] (ZaL.K1 a0 x2 s3 s4) (rt ZaL.out) := by
 unfold ZaL.K1
 refine SJ.seq <| SJ.sr 3 <| J.z 3 <| J.f ?_ ?_
 ·exact SJ.sr 8 <| J.n 1 fun p22 => J.l 1 Ty9 fun x23 => J.C 1 F86 (ZeK _ _) fun r24 => J.z 2 <| J.r
 ·refine SJ.skip <| SJ.seq <| SJ.sr 31 <| J.n 2 fun p25 => J.l 1 Ty9 fun x26 => J.j 3 7 .bool ?_ ?_ fun y31 => ?_
  ·exact J.n 1 fun p27 => J.l 1 Ty9 fun x28 => J.t 1 fun hb29 hb30 => J.e 2
  ·exact J.e 8
  ·refine J.g 1 <| OJ.join (b := y31) [17, 18, 19, 20, 21, 22, 23, 24, 25, 26, 27, 28, 29, 30] [] [0, 4, 5, 6, 83] (fun y37 => [(0, .pointer a0), (4, .int .i64 x2), (5, .int .i64 s3), (6, .int .i64 s4), (83, .bool y37)]) [] [] (t := 69) Iff.rfl (fun hp_ => ?_) (fun hp_ => ?_) (fun _ _ _ _ _ _ h_ => h_) fun y37 => ?_
   ·refine J.n 1 fun p32 => J.l 1 Zh7 fun x33 => J.g 3 <| OJ.join (b := decide ((x33.len : Int) > 0)) [24, 25, 26, 27, 28, 29] [30] [0, 4, 5, 6, 69, 82] (fun y36 => [(0, .pointer a0), (4, .int .i64 x2), (5, .int .i64 s3), (6, .int .i64 s4), (69, .bool true), (82, .bool y36)]) [] [] (t := 76) decide_eq_true_iff (fun hp_ => ?_) (fun hp_ => ?_) (fun _ _ _ _ _ hq_ h_ => ⟨fun e_ he_ => (hq_ e_ he_).elim (fun h => h_.1 e_ h) (fun h => nomatch h), h_.2⟩) fun y36 => ?_
    ·exact J.g 6 <| OJ.nil ⟨(Cov.mem Cov.nil), rfl, _, rfl, by kernel_rfl⟩
    ·exact J.n 1 fun p34 => J.l 1 Ty3 fun x35 => J.g 2 <| OJ.nil ⟨(Cov.mem Cov.nil), rfl, _, rfl, by kernel_rfl⟩
    ·exact J.g 1 <| OJ.nil ⟨(Cov.mem Cov.nil), rfl, _, rfl, by kernel_rfl⟩
   ·exact J.g 14 <| OJ.nil ⟨(Cov.mem Cov.nil), rfl, _, rfl, by kernel_rfl⟩
   ·refine J.z 0 <| J.f ?_ ?_
    ·refine SJ.seq <| SJ.sr 3 <| J.C 1 F99 (ZfQ _) fun r51 => J.z 1 <| J.f ?_ ?_
     ·exact SJ.sr 5 <| J.u 1 ZhF (.f 0 (Za8 _ 44) (.f 1 (Za9 _ x2) .nil)) <| J.B 0 fun b53 => J.z 2 <| J.r
     ·exact SJ.skip <| SJ.sr 12 <| J.n 1 fun p54 => J.l 1 Ty9 fun x55 => J.C 1 F82 (Zip _ _) fun r56 => J.a 3 ZfK fun b57 => J.s 0 0 rfl ZfK (Upd.w r56.1) <| J.z 1 <| SJ.seq <| J.R 26 Zc3 <| J.n 2 fun p58 => J.l 1 Zh7 fun x59 => J.k 1 0 rfl Ty5 (At.zero (At.arr (z := 0) (i := 0) (n := 4) (by decide) (by decide))) <| J.k 3 0 rfl Ty5 (At.zero (At.arr (z := 0) (i := 1) (n := 4) (by decide) (by decide))) <| J.k 3 0 rfl Ty5 (At.zero (At.arr (z := 0) (i := 2) (n := 4) (by decide) (by decide))) <| J.k 3 0 rfl Ty5 (At.zero (At.arr (z := 0) (i := 3) (n := 4) (by decide) (by decide))) <| J.g 2 <| OJ.rowSlot (d := 120) (t := 107) (parts := [(0, .tmp 111), (1, .tmp 119)]) (ps := [(0, (cI .i64).val (bor .i64 (IntKind.wrap .i64 ((IntKind.wrap .i64 (Vec.g r56.1 0 0)) * 2 ^ 8)) (IntKind.wrap .i64 (Vec.g r56.1 1 0)))), (1, (cI .i64).val (bor .i64 (IntKind.wrap .i64 ((IntKind.wrap .i64 (Vec.g r56.1 2 0)) * 2 ^ 8)) (IntKind.wrap .i64 (Vec.g r56.1 3 0))))]) (cd := (cI .i64)) (⟨[bor .i64 (IntKind.wrap .i64 ((IntKind.wrap .i64 (Vec.g r56.1 0 0)) * 2 ^ 8)) (IntKind.wrap .i64 (Vec.g r56.1 1 0)), bor .i64 (IntKind.wrap .i64 ((IntKind.wrap .i64 (Vec.g r56.1 2 0)) * 2 ^ 8)) (IntKind.wrap .i64 (Vec.g r56.1 3 0))], rfl⟩ : Vec Int 2) (owed := [⟨4, 107, (Addr.add p58 2), cL.val x59⟩]) Ty3 (Zbj.cons (cd := (cI .i64)) (q := (bor .i64 (IntKind.wrap .i64 ((IntKind.wrap .i64 (Vec.g r56.1 0 0)) * 2 ^ 8)) (IntKind.wrap .i64 (Vec.g r56.1 1 0)))) (o := 0) rfl (Upd.arr (i := 0) (by decide) (by decide)) (Zbj.cons (cd := (cI .i64)) (q := (bor .i64 (IntKind.wrap .i64 ((IntKind.wrap .i64 (Vec.g r56.1 2 0)) * 2 ^ 8)) (IntKind.wrap .i64 (Vec.g r56.1 3 0)))) (o := 1) rfl (Upd.arr (i := 1) (by decide) (by decide)) Zbj.nil)) fun b60 => OW.same Zh7 <| OW.nil <| OJ.appl (d := 121) (t := 107) (u := 107) (so := .tmp 103) (xo := .tmp 120) (j := 0) (b := b60) (l := ((cI .i64).arr 2).enc (⟨[bor .i64 (IntKind.wrap .i64 ((IntKind.wrap .i64 (Vec.g r56.1 0 0)) * 2 ^ 8)) (IntKind.wrap .i64 (Vec.g r56.1 1 0)), bor .i64 (IntKind.wrap .i64 ((IntKind.wrap .i64 (Vec.g r56.1 2 0)) * 2 ^ 8)) (IntKind.wrap .i64 (Vec.g r56.1 3 0))], rfl⟩ : Vec Int 2)) (n := 2) (k := 2) [bor .i64 (IntKind.wrap .i64 ((IntKind.wrap .i64 (Vec.g r56.1 0 0)) * 2 ^ 8)) (IntKind.wrap .i64 (Vec.g r56.1 1 0)), bor .i64 (IntKind.wrap .i64 ((IntKind.wrap .i64 (Vec.g r56.1 2 0)) * 2 ^ 8)) (IntKind.wrap .i64 (Vec.g r56.1 3 0))] (owed := []) Ty3 (by rfl) (Cod.arr_enc _ _ _) (by rfl) fun r61 => OW.nil <| J.n 0 fun p62 => J.w 1 Zh7 <| J.z 0 <| SJ.sr 3 <| J.z 3 <| J.r
    ·refine SJ.skip <| SJ.seq <| SJ.sr 3 <| J.C 1 F99 (ZfQ _) fun r64 => J.z 1 <| J.f ?_ ?_
     ·exact SJ.sr 5 <| J.u 1 ZhF (.f 0 (Za8 _ 44) (.f 1 (Za9 _ x2) .nil)) <| J.B 0 fun b66 => J.z 2 <| J.r
     ·refine SJ.skip <| SJ.seq <| SJ.sr 4 <| J.z 4 <| J.f ?_ ?_
      ·exact SJ.sr 5 <| J.u 1 ZhF (.f 0 (Za8 _ 43) (.f 1 (Za9 _ x2) .nil)) <| J.B 0 fun b68 => J.z 2 <| J.r
      ·exact SJ.skip <| SJ.sr 11 <| J.n 2 fun p69 => J.l 1 Zh7 fun x70 => J.g 1 <| OJ.rowSlot (d := 144) (t := 107) (parts := [(0, .tmp 143)]) (ps := [(0, (cI .i64).val s3)]) (cd := (cI .i64)) (⟨[s3], rfl⟩ : Vec Int 1) (owed := []) Ty3 (Zbj.cons (cd := (cI .i64)) (q := s3) (o := 0) rfl (Upd.arr (i := 0) (by decide) (by decide)) Zbj.nil) fun b71 => OW.nil <| OJ.appl (d := 145) (t := 107) (u := 107) (so := .tmp 142) (xo := .tmp 144) (j := 0) (b := b71) (l := ((cI .i64).arr 1).enc (⟨[s3], rfl⟩ : Vec Int 1)) (n := 1) (k := 1) [s3] (owed := []) Ty3 (by rfl) (Cod.arr_enc _ _ _) (by rfl) fun r72 => OW.nil <| J.n 0 fun p73 => J.w 1 Zh7 <| J.z 0 <| SJ.sr 5 <| J.n 2 fun p74 => J.w 1 Ty3 <| J.z 0 <| SJ.sr 2 <| J.z 2 <| J.r
noncomputable def ZaL.F1 (a0 : (Option Addr)) (x2 : Int) : LF (Int × Int) (Bool × (Option Addr)) := ⟨[.inBlock 0, .code (c2 (c2 (c2 (c2 ZaL.B))))], c1 (c1 (c2 (c2 (c2 ZaL.B)))), fun s_ => [(0, .pointer a0), (4, .int .i64 x2), (5, .int .i64 s_.1), (6, .int .i64 s_.2)], fun s_ => [], (rt ZaL.out)⟩
noncomputable def ZaL.L1 (a0 : (Option Addr)) (x2 : Int) (s3 : Int) (s4 : Int) : M (LS (Int × Int) (Bool × (Option Addr))) :=
 nilck a0 >>= fun p79 =>
 ld cS p79 >>= fun x80 =>
 (if s4 < (x80.size : Int) then
   nilck a0 >>= fun p81 =>
   ld cS p81 >>= fun x82 =>
   chk ((0 : Int) ≤ s4 ∧ s4 < (x82.size : Int)) >>= fun _ =>
   Zek (sb x82 s4) >>= fun r85 =>
   pure (decide (r85 ≥ 0))
  else
   pure false) >>= fun y86 =>
 if y86 = true then
  nilck a0 >>= fun p87 =>
  ld cS p87 >>= fun x88 =>
  chk ((0 : Int) ≤ s4 ∧ s4 < (x88.size : Int)) >>= fun _ =>
  Zek (sb x88 s4) >>= fun r91 =>
  pure (LS.next (bor .i64 (band .i64 (IntKind.wrap .i64 (s3 * 2 ^ 4)) 1048575) r91, IntKind.wrap .i64 (s4 + 1)))
 else
  (ZaL.K1 a0 x2 s3 s4) >>= fun b => pure (LS.done b)
theorem ZaL.L1_ok (a0 : (Option Addr)) (x2 : Int) : LJ ZaL.cx (ZaL.F1 a0 x2) (fun s_ => ZaL.L1 a0 x2 s_.1 s_.2) := by
 rintro ⟨s3, s4⟩
 show SJ _ _ _ _ (ZaL.L1 a0 x2 s3 s4) _
 unfold ZaL.L1
 refine SJ.seq <| SJ.sr 17 <| J.n 2 fun p79 => J.l 1 Ty9 fun x80 => J.j 3 8 .bool ?_ ?_ fun y86 => ?_
 ·exact J.n 1 fun p81 => J.l 1 Ty9 fun x82 => J.t 1 fun hb83 hb84 => J.C 0 F98 (Zio _) fun r85 => J.e 2
 ·exact J.e 9
 ·refine J.z 0 <| J.f ?_ ?_
  ·exact SJ.skip <| SJ.block (id := 1) <| SJ.sr 12 <| J.n 4 fun p87 => J.l 1 Ty9 fun x88 => J.t 1 fun hb89 hb90 => J.C 0 F98 (Zio _) fun r91 => J.z 2 <| SJ.rg 3 <| J.z 3 <| SJ.inBlock <| J.o rfl
  ·exact SJ.exit (id := 0) (by rfl) <| J.q <| SJ.done <| ZaL.K1_ok a0 x2 s3 s4
noncomputable def ZaL (a0 : (Option Addr)) : M (Bool × (Option Addr)) :=
 nilck a0 >>= fun p1 =>
 ld (cI .i64) (Addr.add p1 1) >>= fun x2 =>
 Zci (fun s_ : (Int × Int) => ZaL.L1 a0 x2 s_.1 s_.2) (0, x2)
theorem Zh3 (a0 : (Option Addr)) : Ref Tryd.prog 92 [.pointer a0] (ZaL a0) ZaL.out := by
 refine J.Fn Tryd.func92 ?_
 unfold ZaL
 exact SJ.sr 2 <| J.z 2 <| SJ.sr 6 <| J.n 1 fun p1 => J.l 1 Ty3 fun x2 => J.z 2 <| SJ.sr 2 <| J.z 2 <| SJ.seq <| SJ.block (id := 0) <| J.L (ZaL.L1_ok a0 x2)

/-! ### (*weir/addr.six).read: function 83 -/
noncomputable def Za3.B : Code := bod Tryd.f83
noncomputable def Za3.cx : Fx := ⟨Tryd.prog, 83, Tryd.f83, none⟩
noncomputable def Za3.out (r_ : (Option Addr)) : Value := .pointer r_
noncomputable def Za3.F1 (a0 : (Option Addr)) : LF Bool (Option Addr) := ⟨[.inBlock 0], c1 (c2 (c2 (c2 Za3.B))), fun s_ => [(0, .pointer a0), (5, .bool s_)], fun s_ => [], (rt Za3.out)⟩
noncomputable def Za3.L1 (a0 : (Option Addr)) (s4 : Bool) : M (LS Bool (Option Addr)) :=
 draw >>= fun _ =>
 nilck a0 >>= fun p5 =>
 ld (cI .i64) (Addr.add p5 1) >>= fun x6 =>
 nilck a0 >>= fun p7 =>
 ld cS p7 >>= fun x8 =>
 (if x6 = (x8.size : Int) then
   pure s4
  else
   pure false) >>= fun y9 =>
 if y9 = true then
  pure (LS.done none)
 else
  ZaL a0 >>= fun r10 =>
  if ¬ (r10.2 = none) then
   pure (LS.done r10.2)
  else
   draw >>= fun _ =>
   (if r10.1 = true then
     pure true
    else
     nilck a0 >>= fun p11 =>
     ld (cI .i64) (Addr.add p11 1) >>= fun x12 =>
     nilck a0 >>= fun p13 =>
     ld cS p13 >>= fun x14 =>
     pure (x12 == (x14.size : Int))) >>= fun y15 =>
   if y15 = true then
    nilck a0 >>= fun p28 =>
    ld (cI .i64) (Addr.add p28 3) >>= fun x29 =>
    (if x29 < 0 then
      nilck a0 >>= fun p30 =>
      ld cL (Addr.add p30 2) >>= fun x31 =>
      pure ((x31.len : Int) != 8)
     else
      pure false) >>= fun y32 =>
    if y32 = true then
     nilck a0 >>= fun p36 =>
     ld cS p36 >>= fun x37 =>
     newv 131 Za6 (⟨42, (x37.size : Int)⟩ : Zbo) >>= fun b38 =>
     pure (LS.done (some (pt b38 0)))
    else
     pure (LS.done none)
   else
    Zb9 a0 >>= fun r40 =>
    if ¬ (r40.2 = none) then
     pure (LS.done r40.2)
    else
     if ¬ (r40.1 = true) then
      draw >>= fun _ =>
      nilck a0 >>= fun p57 =>
      ld cS p57 >>= fun x58 =>
      nilck a0 >>= fun p59 =>
      ld (cI .i64) (Addr.add p59 1) >>= fun x60 =>
      chk ((0 : Int) ≤ x60 ∧ x60 < (x58.size : Int)) >>= fun _ =>
      if (sb x58 x60) ≠ 58 then
       nilck a0 >>= fun p66 =>
       ld (cI .i64) (Addr.add p66 1) >>= fun x67 =>
       newv 131 Za6 (⟨41, x67⟩ : Zbo) >>= fun b68 =>
       pure (LS.done (some (pt b68 0)))
      else
       nilck a0 >>= fun p69 =>
       ld (cI .i64) (Addr.add p69 1) >>= fun x70 =>
       nilck a0 >>= fun p71 =>
       st (cI .i64) (Addr.add p71 1) (IntKind.wrap .i64 (x70 + 1)) >>= fun _ =>
       pure (LS.next r40.1)
     else
      pure (LS.next r40.1)
theorem Za3.L1_ok (a0 : (Option Addr)) : LJ Za3.cx (Za3.F1 a0) (fun s_ => Za3.L1 a0 s_) := by
 rintro s4
 show SJ _ _ _ _ (Za3.L1 a0 s4) _
 unfold Za3.L1
 refine SJ.block (id := 1) <| SJ.seq <| SJ.seq <| J.R 13 Zc3 <| J.n 1 fun p5 => J.l 1 Ty3 fun x6 => J.n 1 fun p7 => J.l 1 Ty9 fun x8 => J.g 3 <| OJ.join (b := (x6 == (x8.size : Int))) [11, 12] [] [0, 33] (fun y9 => [(0, .pointer a0), (33, .bool y9)]) [⟨7, 9, p7, cS.val x8⟩, ⟨3, 3, (Addr.add p5 1), (cI .i64).val x6⟩] [] (t := 31) beq_iff_eq (fun hp_ => ?_) (fun hp_ => ?_) (fun _ _ _ _ _ _ h_ => h_) fun y9 => ?_
 ·exact J.g 2 <| OJ.nil ⟨(Cov.mem (Cov.keep (List.mem_of_getElem? (i := 0) rfl) (Cov.keep (List.mem_of_getElem? (i := 1) rfl) Cov.nil))), rfl, _, rfl, by kernel_rfl⟩
 ·exact J.g 2 <| OJ.nil ⟨(Cov.mem (Cov.keep (List.mem_of_getElem? (i := 0) rfl) (Cov.keep (List.mem_of_getElem? (i := 1) rfl) Cov.nil))), rfl, _, rfl, by kernel_rfl⟩
 ·refine J.z 0 <| J.f ?_ ?_
  ·exact SJ.sr 1 <| J.z 1 <| J.r
  ·refine SJ.skip <| SJ.sr 7 <| J.C 1 F92 (Zh3 _) fun r10 => J.z 5 <| SJ.seq <| SJ.sr 2 <| J.z 2 <| J.f ?_ ?_
   ·exact SJ.sr 2 <| J.z 2 <| J.r
   ·refine SJ.skip <| SJ.seq <| SJ.seq <| J.R 13 Zc3 <| J.g 2 <| OJ.join (b := r10.1) [2, 3, 4, 5, 6, 7, 8, 9, 10, 11, 12] [] [0, 54] (fun y15 => [(0, .pointer a0), (54, .bool y15)]) [] [5, 9] (t := 43) Iff.rfl (fun hp_ => ?_) (fun hp_ => ?_) (fun _ _ _ _ _ _ h_ => h_) fun y15 => ?_
    ·exact J.g 11 <| OJ.nil ⟨(Cov.mem Cov.nil), rfl, _, rfl, by kernel_rfl⟩
    ·exact J.n 1 fun p11 => J.l 1 Ty3 fun x12 => J.n 1 fun p13 => J.l 1 Ty9 fun x14 => J.g 3 <| OJ.nil ⟨(Cov.mem (Cov.drop (List.mem_of_getElem? (i := 1) rfl) (Cov.drop (List.mem_of_getElem? (i := 0) rfl) Cov.nil))), rfl, _, rfl, by kernel_rfl⟩
    ·refine J.z 0 <| J.f ?_ ?_
     ·refine SJ.seq <| SJ.sr 13 <| J.n 1 fun p28 => J.l 1 Ty3 fun x29 => J.j 2 6 .bool ?_ ?_ fun y32 => ?_
      ·exact J.n 1 fun p30 => J.l 1 Zh7 fun x31 => J.e 3
      ·exact J.e 7
      ·refine J.z 0 <| J.f ?_ ?_
       ·exact SJ.sr 8 <| J.n 1 fun p36 => J.l 1 Ty9 fun x37 => J.u 1 ZhF (.f 0 (Za8 _ 42) (.f 1 (Za9 _ (x37.size : Int)) .nil)) <| J.B 0 fun b38 => J.z 1 <| J.r
       ·exact SJ.skip <| SJ.sr 1 <| J.z 1 <| J.r
     ·refine SJ.skip <| SJ.sr 7 <| J.C 1 F91 (Ze0 _) fun r40 => J.z 5 <| SJ.seq <| SJ.sr 2 <| J.z 2 <| J.f ?_ ?_
      ·exact SJ.sr 2 <| J.z 2 <| J.r
      ·refine SJ.skip <| SJ.sr 2 <| J.z 2 <| J.f ?_ ?_
       ·refine SJ.seq <| SJ.seq <| J.R 10 Zc3 <| J.n 1 fun p57 => J.l 1 Ty9 fun x58 => J.n 1 fun p59 => J.l 1 Ty3 fun x60 => J.t 0 fun hb61 hb62 => J.z 1 <| J.f ?_ ?_
        ·exact SJ.sr 7 <| J.n 1 fun p66 => J.l 1 Ty3 fun x67 => J.u 0 ZhF (.f 0 (Za8 _ 41) (.f 1 (Za9 _ x67) .nil)) <| J.B 0 fun b68 => J.z 1 <| J.r
        ·exact SJ.skip <| SJ.rg 8 <| J.n 1 fun p69 => J.l 1 Ty3 fun x70 => J.n 1 fun p71 => J.w 1 Ty3 <| J.z 0 <| SJ.inBlock <| J.o rfl
       ·exact SJ.skip <| SJ.inBlock <| J.o rfl
noncomputable def Za3 (a0 : (Option Addr)) : M (Option Addr) :=
 Zb9 a0 >>= fun r1 =>
 if ¬ (r1.2 = none) then
  pure r1.2
 else
  nilck a0 >>= fun p2 =>
  ld (cI .i64) (Addr.add p2 3) >>= fun x3 =>
  Zci (fun s_ : Bool => Za3.L1 a0 s_) (decide (x3 ≥ 0))
theorem Ziy (a0 : (Option Addr)) : Ref Tryd.prog 83 [.pointer a0] (Za3 a0) Za3.out := by
 refine J.Fn Tryd.func83 ?_
 unfold Za3
 refine SJ.sr 1 <| J.z 1 <| SJ.seq <| SJ.sr 7 <| J.C 1 F91 (Ze0 _) fun r1 => J.z 5 <| SJ.sr 2 <| J.z 2 <| J.f ?_ ?_
 ·exact SJ.sr 2 <| J.z 2 <| J.r
 ·exact SJ.skip <| SJ.sr 6 <| J.n 1 fun p2 => J.l 1 Ty3 fun x3 => J.z 2 <| SJ.block (id := 0) <| J.L (Za3.L1_ok a0)

/-! ### (*weir/addr.six).bytes: function 84 -/
noncomputable def ZaB.B : Code := bod Tryd.f84
noncomputable def ZaB.cx : Fx := ⟨Tryd.prog, 84, Tryd.f84, none⟩
noncomputable def ZaB.out (r_ : (Vec Int 16)) : Value := ((cI .u8).arr 16).val r_
noncomputable def ZaB.F1 (a0 : (Option Addr)) (b1 : Nat) (b2 : Nat) (x4 : Sl) : LF (Int × (Vec Int 16)) (Vec Int 16) := ⟨[.inBlock 0, .code (c2 (c2 (c2 ZaB.B)))], c1 (c2 (c1 (c2 (c2 ZaB.B)))), fun s_ => [(0, .pointer a0), (2, .pointer (some (pt b1 0))), (3, .pointer (some (pt b2 0))), (9, Sl.v x4), (10, .int .i64 (x4.len : Int)), (11, .int .i64 s_.1)], fun s_ => [(b2, ((cI .u8).arr 16).enc s_.2), (b1, ((cI .u8).arr 16).enc (Vec.rep 16 0))], (rt ZaB.out)⟩
noncomputable def ZaB.K1 (s5 : Int) (s6 : (Vec Int 16)) (x26 : Int) (j34 : Int) : M (LS (Int × (Vec Int 16)) (Vec Int 16)) :=
 chk ((0 : Int) ≤ (IntKind.wrap .i64 (2 * j34)) ∧ (IntKind.wrap .i64 (2 * j34)) < (16 : Nat)) >>= fun _ =>
 chk ((0 : Int) ≤ (IntKind.wrap .i64 ((IntKind.wrap .i64 (2 * j34)) + 1)) ∧ (IntKind.wrap .i64 ((IntKind.wrap .i64 (2 * j34)) + 1)) < (16 : Nat)) >>= fun _ =>
 pure (LS.next (IntKind.wrap .i64 (s5 + 1), (Vec.s (Vec.s s6 (IntKind.wrap .i64 (2 * j34)) (IntKind.wrap .u8 (Int.fdiv x26 (2 ^ 8)))) (IntKind.wrap .i64 ((IntKind.wrap .i64 (2 * j34)) + 1)) (IntKind.wrap .u8 x26))))
theorem ZaB.K1_ok (a0 : (Option Addr)) (b1 : Nat) (b2 : Nat) (x4 : Sl) (s5 : Int) (s6 : (Vec Int 16)) (x26 : Int) (j34 : Int) :
  SJ ZaB.cx [.code (c2 (c2 (c1 (c1 (c2 (c2 (c1 (c1 (c2 (c1 (c2 (c2 ZaB.B)))))))))))), .inBlock 1, .code (c2 (c2 (c2 (c1 (c1 (c2 (c1 (c2 (c2 ZaB.B))))))))), .inLoop (c1 (c1 (c2 (c1 (c2 (c2 ZaB.B)))))), .inBlock 0, .code (c2 (c2 (c2 ZaB.B)))] [(0, .pointer a0), (2, .pointer (some (pt b1 0))), (3, .pointer (some (pt b2 0))), (9, Sl.v x4), (10, .int .i64 (x4.len : Int)), (11, .int .i64 s5), (4, .int .i64 j34), (5, .int .i64 x26)] [(b2, ((cI .u8).arr 16).enc s6), (b1, ((cI .u8).arr 16).enc (Vec.rep 16 0))] (ZaB.K1 s5 s6 x26 j34) (ZaB.F1 a0 b1 b2 x4).f := by
 unfold ZaB.K1
 exact SJ.rg 14 <| J.y 10 fun hb35 hb36 => J.s (u := (IntKind.wrap .u8 (Int.fdiv x26 (2 ^ 8)))) 0 0 rfl Ty5 (Upd.zero (Upd.arr hb35 hb36)) <| J.y 0 fun hb37 hb38 => J.s (u := (IntKind.wrap .u8 x26)) 0 0 rfl Ty5 (Upd.zero (Upd.arr hb37 hb38)) <| J.z 0 <| SJ.inBlock <| SJ.rg 2 <| J.z 2 <| J.o rfl
noncomputable def ZaB.L1 (a0 : (Option Addr)) (x4 : Sl) (s5 : Int) (s6 : (Vec Int 16)) : M (LS (Int × (Vec Int 16)) (Vec Int 16)) :=
 if s5 < (x4.len : Int) then
  idx x4.a x4.len s5 1 >>= fun p25 =>
  ld (cI .i64) p25 >>= fun x26 =>
  nilck a0 >>= fun p27 =>
  ld (cI .i64) (Addr.add p27 3) >>= fun x28 =>
  (if x28 ≥ 0 then
    nilck a0 >>= fun p29 =>
    ld (cI .i64) (Addr.add p29 3) >>= fun x30 =>
    pure (decide (s5 ≥ x30))
   else
    pure false) >>= fun y31 =>
  if y31 = true then
   nilck a0 >>= fun p39 =>
   ld cL (Addr.add p39 2) >>= fun x40 =>
   ZaB.K1 s5 s6 x26 (IntKind.wrap .i64 (s5 + (IntKind.wrap .i64 (8 - (x40.len : Int)))))
  else
   ZaB.K1 s5 s6 x26 s5
 else
  pure (LS.done s6)
theorem ZaB.L1_ok (a0 : (Option Addr)) (b1 : Nat) (b2 : Nat) (x4 : Sl) : LJ ZaB.cx (ZaB.F1 a0 b1 b2 x4) (fun s_ => ZaB.L1 a0 x4 s_.1 s_.2) := by
 rintro ⟨s5, s6⟩
 show SJ _ _ _ _ (ZaB.L1 a0 x4 s5 s6) _
 unfold ZaB.L1
 refine SJ.sr 1 <| J.z 1 <| SJ.seq <| J.f ?_ ?_
 ·refine SJ.skip <| SJ.seq <| SJ.block (id := 1) <| SJ.sr 5 <| J.i 1 fun p25 => J.l 0 Ty3 fun x26 => J.z 2 <| SJ.seq <| SJ.sr 13 <| J.n 1 fun p27 => J.l 1 Ty3 fun x28 => J.j 2 6 .bool ?_ ?_ fun y31 => ?_
  ·exact J.n 2 fun p29 => J.l 1 Ty3 fun x30 => J.e 2
  ·exact J.e 7
  ·refine J.z 0 <| J.f ?_ ?_
   ·exact SJ.rg 9 <| J.n 2 fun p39 => J.l 1 Zh7 fun x40 => J.z 4 <| J.q <| ZaB.K1_ok a0 b1 b2 x4 s5 s6 x26 (IntKind.wrap .i64 (s5 + (IntKind.wrap .i64 (8 - (x40.len : Int)))))
   ·exact SJ.skip <| J.q <| ZaB.K1_ok a0 b1 b2 x4 s5 s6 x26 s5
 ·exact SJ.exit (id := 0) (by rfl) <| SJ.sr 2 <| J.k 0 0 rfl Ty57 (At.whole _) <| J.s 0 1 rfl Ty57 (Upd.w s6) <| J.z 0 <| SJ.ret rfl (Res.run (ys := [((cI .u8).arr 16).val s6]) (.cell (j := 1) (b := b1) (cd := ((cI .u8).arr 16)) (q := s6) (by kernel_rfl) rfl Ty57 (At.whole _) .nil) rfl)
noncomputable def ZaB (a0 : (Option Addr)) : M (Vec Int 16) :=
 slot 57 >>= fun b1 =>
 slot 57 >>= fun b2 =>
 nilck a0 >>= fun p3 =>
 ld cL (Addr.add p3 2) >>= fun x4 =>
 Zci (fun s_ : (Int × (Vec Int 16)) => ZaB.L1 a0 x4 s_.1 s_.2) (0, (Vec.rep 16 0))
theorem Zh4 (a0 : (Option Addr)) : Ref Tryd.prog 84 [.pointer a0] (ZaB a0) ZaB.out := by
 refine J.Fn Tryd.func84 ?_
 unfold ZaB
 exact SJ.sr 1 <| J.a 0 Ty57 fun b1 => J.z 0 <| SJ.sr 1 <| J.a 0 Ty57 fun b2 => J.z 0 <| SJ.seq <| SJ.sr 6 <| J.n 1 fun p3 => J.l 1 Zh7 fun x4 => J.z 2 <| SJ.block (id := 0) <| J.L (ZaB.L1_ok a0 b1 b2 x4)

/-! ### weir/addr.parse: function 73 -/
noncomputable def ZdF.out (r_ : (Za1 × (Option Addr))) : Value := .tuple #[Za0.val r_.1, .pointer r_.2]
noncomputable def ZdF (a0 : ByteArray) : M (Za1 × (Option Addr)) :=
 slot 59 >>= fun b1 =>
 if (a0.size : Int) > 45 then
  newv 131 Za6 (⟨2, 45⟩ : Zbo) >>= fun b3 =>
  pure (Zb0, (some (pt b3 0)))
 else
  Zcc a0 Zr2 >>= fun r4 =>
  if ¬ (r4 = true) then
   ZaR a0 0 >>= fun r8 =>
   slot 137 >>= fun b9 =>
   if ¬ (r8.2 = none) then
    pure (Zb0, r8.2)
   else
    pure ((⟨4, (⟨[(Vec.g r8.1 0 0), (Vec.g r8.1 1 0), (Vec.g r8.1 2 0), (Vec.g r8.1 3 0), 0, 0, 0, 0, 0, 0, 0, 0, 0, 0, 0, 0], rfl⟩ : (Vec Int 16))⟩ : Za1), none)
  else
   newv 142 Zb5 (⟨a0, Zgk.at_, Zgk.groups, (-1)⟩ : ZcH) >>= fun b11 =>
   Za3 (some (pt b11 0)) >>= fun r12 =>
   if ¬ (r12 = none) then
    pure (Zb0, r12)
   else
    ZaB (some (pt b11 0)) >>= fun r13 =>
    pure ((⟨6, r13⟩ : Za1), none)
theorem ZhC (a0 : ByteArray) : Ref Tryd.prog 73 [.string a0] (ZdF a0) ZdF.out := by
 refine J.Fn Tryd.func73 ?_
 unfold ZdF
 refine SJ.sr 2 <| J.a 0 Ty59 fun b1 => J.z 1 <| SJ.seq <| SJ.sr 3 <| J.z 3 <| J.f ?_ ?_
 ·exact SJ.sr 5 <| J.u 0 Ty59 .nil <| J.u 0 ZhF (.f 0 (Za8 _ 2) (.f 1 (Za9 _ 45) .nil)) <| J.B 0 fun b3 => J.s 0 0 rfl Ty59 (Upd.w Zb0) <| J.z 1 <| SJ.ret rfl (Res.run (ys := [Za0.val Zb0, .pointer (some (pt b3 0))]) (.cell (j := 0) (b := b1) (cd := Za0) (q := Zb0) (by kernel_rfl) rfl Ty59 (At.whole _) (.tmp (by kernel_rfl) .nil)) rfl)
 ·refine SJ.skip <| SJ.seq <| SJ.sr 3 <| J.C 1 F81 (ZgN _ _) fun r4 => J.z 1 <| J.f ?_ ?_
  ·refine SJ.sr 8 <| J.C 1 F82 (Zip _ _) fun r8 => J.a 3 ZfK fun b9 => J.s 0 0 rfl ZfK (Upd.w r8.1) <| J.z 1 <| SJ.seq <| SJ.sr 2 <| J.z 2 <| J.f ?_ ?_
   ·exact SJ.sr 4 <| J.u 0 Ty59 .nil <| J.s 1 1 rfl Ty59 (Upd.w Zb0) <| J.z 1 <| SJ.ret rfl (Res.run (ys := [Za0.val Zb0, .pointer r8.2]) (.cell (j := 1) (b := b1) (cd := Za0) (q := Zb0) (by kernel_rfl) rfl Ty59 (At.whole _) (.tmp (by kernel_rfl) .nil)) rfl)
   ·exact SJ.skip <| SJ.sr 12 <| J.k 1 0 rfl Ty5 (At.zero (At.arr (z := 0) (i := 0) (n := 4) (by decide) (by decide))) <| J.k 1 0 rfl Ty5 (At.zero (At.arr (z := 0) (i := 1) (n := 4) (by decide) (by decide))) <| J.k 1 0 rfl Ty5 (At.zero (At.arr (z := 0) (i := 2) (n := 4) (by decide) (by decide))) <| J.k 1 0 rfl Ty5 (At.zero (At.arr (z := 0) (i := 3) (n := 4) (by decide) (by decide))) <| OJ.build (d := 34) (T := 57) (parts := [(0, .tmp 27), (1, .tmp 29), (2, .tmp 31), (3, .tmp 33)]) (ps := [(0, (cI .u8).val (Vec.g r8.1 0 0)), (1, (cI .u8).val (Vec.g r8.1 1 0)), (2, (cI .u8).val (Vec.g r8.1 2 0)), (3, (cI .u8).val (Vec.g r8.1 3 0))]) (cd := ((cI .u8).arr 16)) (z0 := (Vec.rep 16 0)) (⟨[(Vec.g r8.1 0 0), (Vec.g r8.1 1 0), (Vec.g r8.1 2 0), (Vec.g r8.1 3 0), 0, 0, 0, 0, 0, 0, 0, 0, 0, 0, 0, 0], rfl⟩ : (Vec Int 16)) Ty57 rfl (Zbj.cons (cd := (cI .u8)) (q := (Vec.g r8.1 0 0)) (o := 0) (by kernel_rfl) (Upd.arr (i := 0) (by decide) (by decide)) (Zbj.cons (cd := (cI .u8)) (q := (Vec.g r8.1 1 0)) (o := 1) (by kernel_rfl) (Upd.arr (i := 1) (by decide) (by decide)) (Zbj.cons (cd := (cI .u8)) (q := (Vec.g r8.1 2 0)) (o := 2) (by kernel_rfl) (Upd.arr (i := 2) (by decide) (by decide)) (Zbj.cons (cd := (cI .u8)) (q := (Vec.g r8.1 3 0)) (o := 3) (by kernel_rfl) (Upd.arr (i := 3) (by decide) (by decide)) Zbj.nil)))) <| J.u 0 Ty59 (.f 0 (Zg6 _ 4) (.f 1 (Zg7 _ (⟨[(Vec.g r8.1 0 0), (Vec.g r8.1 1 0), (Vec.g r8.1 2 0), (Vec.g r8.1 3 0), 0, 0, 0, 0, 0, 0, 0, 0, 0, 0, 0, 0], rfl⟩ : (Vec Int 16))) .nil)) <| J.s 0 1 rfl Ty59 (Upd.w (⟨4, (⟨[(Vec.g r8.1 0 0), (Vec.g r8.1 1 0), (Vec.g r8.1 2 0), (Vec.g r8.1 3 0), 0, 0, 0, 0, 0, 0, 0, 0, 0, 0, 0, 0], rfl⟩ : (Vec Int 16))⟩ : Za1)) <| J.z 1 <| SJ.ret rfl (Res.run (ys := [Za0.val (⟨4, (⟨[(Vec.g r8.1 0 0), (Vec.g r8.1 1 0), (Vec.g r8.1 2 0), (Vec.g r8.1 3 0), 0, 0, 0, 0, 0, 0, 0, 0, 0, 0, 0, 0], rfl⟩ : (Vec Int 16))⟩ : Za1), .pointer none]) (.cell (j := 1) (b := b1) (cd := Za0) (q := (⟨4, (⟨[(Vec.g r8.1 0 0), (Vec.g r8.1 1 0), (Vec.g r8.1 2 0), (Vec.g r8.1 3 0), 0, 0, 0, 0, 0, 0, 0, 0, 0, 0, 0, 0], rfl⟩ : (Vec Int 16))⟩ : Za1)) (by kernel_rfl) rfl Ty59 (At.whole _) (.tmp (by kernel_rfl) .nil)) rfl)
  ·refine SJ.skip <| SJ.sr 4 <| J.u 1 ZtP (.f 0 (Zlr _ a0) (.f 3 (Zgj _ (-1)) .nil)) <| J.B 0 fun b11 => J.z 1 <| SJ.seq <| SJ.sr 3 <| J.C 1 F83 (Ziy _) fun r12 => J.z 1 <| SJ.sr 2 <| J.z 2 <| J.f ?_ ?_
   ·exact SJ.sr 4 <| J.u 0 Ty59 .nil <| J.s 1 0 rfl Ty59 (Upd.w Zb0) <| J.z 1 <| SJ.ret rfl (Res.run (ys := [Za0.val Zb0, .pointer r12]) (.cell (j := 0) (b := b1) (cd := Za0) (q := Zb0) (by kernel_rfl) rfl Ty59 (At.whole _) (.tmp (by kernel_rfl) .nil)) rfl)
   ·exact SJ.skip <| SJ.sr 5 <| J.C 1 F84 (Zh4 _) fun r13 => J.u 0 Ty59 (.f 0 (Zg6 _ 6) (.f 1 (Zg7 _ r13) .nil)) <| J.s 0 0 rfl Ty59 (Upd.w (⟨6, r13⟩ : Za1)) <| J.z 1 <| SJ.ret rfl (Res.run (ys := [Za0.val (⟨6, r13⟩ : Za1), .pointer none]) (.cell (j := 0) (b := b1) (cd := Za0) (q := (⟨6, r13⟩ : Za1)) (by kernel_rfl) rfl Ty59 (At.whole _) (.tmp (by kernel_rfl) .nil)) rfl)

/-! ### weir/addr.ParsePrefix: function 62 -/
noncomputable def Zam.B : Code := bod Tryd.f62
noncomputable def Zam.cx : Fx := ⟨Tryd.prog, 62, Tryd.f62, none⟩
noncomputable def Zam.out (r_ : (Zak × Int × Int)) : Value := .tuple #[Zau.val r_.1, .int .i64 r_.2.1, .int .i64 r_.2.2]
noncomputable def Zam.K1 (r3 : (Za1 × (Option Addr))) (j8 : Int) (j17 : (Option Addr)) : M (Zak × Int × Int) :=
 if ¬ (j17 = none) then
  draw >>= fun _ =>
  nilck j17 >>= fun p22 =>
  ld (cI .i64) p22 >>= fun x23 =>
  nilck j17 >>= fun p24 =>
  ld (cI .i64) (Addr.add p24 1) >>= fun x25 =>
  same (cI .i64) (Addr.add p24 1) x25 >>= fun _ =>
  same (cI .i64) p22 x23 >>= fun _ =>
  pure (Za4, x23, x25)
 else
  pure ((⟨r3.1, j8⟩ : Zak), 0, 0)
theorem Zam.K1_ok (b1 : Nat) (r3 : (Za1 × (Option Addr))) (j8 : Int) (b13 : Nat) (j17 : (Option Addr)) :
  SJ Zam.cx [.code (c2 (c2 (c2 (c2 (c2 (c2 (c2 (c2 (c2 (c2 Zam.B))))))))))] [(2, .pointer (some (pt b1 0))), (9, .pointer j17), (12, .pointer (some (pt b13 0)))] [(b13, Zau.enc (⟨r3.1, j8⟩ : Zak)), (b1, Zau.enc Za4)] (Zam.K1 r3 j8 j17) (rt Zam.out) := by
 unfold Zam.K1
 refine SJ.seq <| SJ.sr 2 <| J.z 2 <| J.f ?_ ?_
 ·exact SJ.seq <| J.R 12 Zc3 <| J.u 0 Ty61 .nil <| J.n 1 fun p22 => J.l 1 Ty28 fun x23 => J.n 1 fun p24 => J.l 1 Ty3 fun x25 => OJ.kst (y := .tmp 2) (z := .tmp 71) (cd := Zau) (u := Za4) (j := 1) (b := b1) (o := 0) (Zau.enc Za4) (owed := [⟨8, 3, (Addr.add p24 1), (cI .i64).val x25⟩, ⟨4, 28, p22, (cI .i64).val x23⟩]) Ty61 rfl (Upd.whole ((Cod.len _ _).trans (Cod.len _ _).symm)) rfl <| OW.same Ty3 <| OW.same Ty28 <| OW.nil <| J.z 2 <| SJ.ret rfl (Res.run (ys := [Zau.val Za4, .int .i64 x23, .int .i64 x25]) (.cell (j := 1) (b := b1) (cd := Zau) (q := Za4) (by kernel_rfl) rfl Ty61 (At.whole _) (.tmp (by kernel_rfl) (.tmp (by kernel_rfl) .nil))) rfl)
 ·exact SJ.skip <| SJ.sr 4 <| J.k 0 0 rfl Ty61 (At.whole _) <| J.s 0 1 rfl Ty61 (Upd.w (⟨r3.1, j8⟩ : Zak)) <| J.z 2 <| SJ.ret rfl (Res.run (ys := [Zau.val (⟨r3.1, j8⟩ : Zak), .int .i64 0, .int .i64 0]) (.cell (j := 1) (b := b1) (cd := Zau) (q := (⟨r3.1, j8⟩ : Zak)) (by kernel_rfl) rfl Ty61 (At.whole _) (.tmp (by kernel_rfl) (.tmp (by kernel_rfl) .nil))) rfl)
noncomputable def Zam.K2 (r3 : (Za1 × (Option Addr))) (j8 : Int) (j12 : (Option Addr)) : M (Zak × Int × Int) :=
 slot 61 >>= fun b13 =>
 (if j12 = none then
   ZbK (⟨r3.1, j8⟩ : Zak) >>= fun r14 =>
   pure (r14 != 0)
  else
   pure false) >>= fun y15 =>
 if y15 = true then
  newv 131 Za6 (⟨46, 0⟩ : Zbo) >>= fun b27 =>
  Zam.K1 r3 j8 (some (pt b27 0))
 else
  Zam.K1 r3 j8 j12
theorem Zam.K2_ok (b1 : Nat) (r3 : (Za1 × (Option Addr))) (b4 : Nat) (j8 : Int) (j12 : (Option Addr)) :
  SJ Zam.cx [.code (c2 (c2 (c2 (c2 (c2 (c2 (c2 (c2 Zam.B))))))))] [(2, .pointer (some (pt b1 0))), (8, .pointer (some (pt b4 0))), (9, .pointer j12), (10, .int .i64 j8)] [(b4, Za0.enc r3.1), (b1, Zau.enc Za4)] (Zam.K2 r3 j8 j12) (rt Zam.out) := by
 unfold Zam.K2
 refine SJ.sr 5 <| J.k 0 0 rfl Ty59 (At.whole _) <| J.u 1 Ty61 (.f 0 (Zem _ r3.1) (.f 1 (Zdn _ j8) .nil)) <| J.a 0 Ty61 fun b13 => J.s 0 0 rfl Ty61 (Upd.w (⟨r3.1, j8⟩ : Zak)) <| J.z 0 <| SJ.seq <| SJ.sr 7 <| J.j 3 3 .bool ?_ ?_ fun y15 => ?_
 ·exact J.k 0 0 rfl Ty61 (At.whole _) <| J.C 0 F38 (ZdB _) fun r14 => J.e 2
 ·exact J.e 4
 ·refine J.z 0 <| J.f ?_ ?_
  ·exact SJ.rg 3 <| J.u 0 ZhF (.f 0 (Za8 _ 46) (.f 1 (Za9 _ 0) .nil)) <| J.B 0 fun b27 => J.z 1 <| SJ.forget (List.Sublist.cons_cons _ (List.Sublist.cons _ (List.Sublist.cons_cons _ List.Sublist.slnil))) <| J.q <| Zam.K1_ok b1 r3 j8 b13 (some (pt b27 0))
  ·exact SJ.skip <| SJ.forget (List.Sublist.cons_cons _ (List.Sublist.cons _ (List.Sublist.cons_cons _ List.Sublist.slnil))) <| J.q <| Zam.K1_ok b1 r3 j8 b13 j12
noncomputable def Zam.K3 (a0 : ByteArray) (r3 : (Za1 × (Option Addr))) (j7 : (Option Addr)) (j8 : Int) (j9 : Int) : M (Zak × Int × Int) :=
 (if j7 = none then
   pure (decide (j9 < (a0.size : Int)))
  else
   pure false) >>= fun y10 =>
 if y10 = true then
  newv 131 Za6 (⟨41, j9⟩ : Zbo) >>= fun b29 =>
  Zam.K2 r3 j8 (some (pt b29 0))
 else
  Zam.K2 r3 j8 j7
theorem Zam.K3_ok (a0 : ByteArray) (b1 : Nat) (r3 : (Za1 × (Option Addr))) (b4 : Nat) (j7 : (Option Addr)) (j8 : Int) (j9 : Int) :
  SJ Zam.cx [.code (c2 (c2 (c2 (c2 (c2 (c2 (c2 Zam.B)))))))] [(0, .string a0), (2, .pointer (some (pt b1 0))), (8, .pointer (some (pt b4 0))), (9, .pointer j7), (10, .int .i64 j8), (11, .int .i64 j9)] [(b4, Za0.enc r3.1), (b1, Zau.enc Za4)] (Zam.K3 a0 r3 j7 j8 j9) (rt Zam.out) := by
 unfold Zam.K3
 refine SJ.seq <| SJ.sr 8 <| J.j 3 4 .bool ?_ ?_ fun y10 => ?_
 ·exact J.e 5
 ·exact J.e 5
 ·refine J.z 0 <| J.f ?_ ?_
  ·exact SJ.rg 4 <| J.u 1 ZhF (.f 0 (Za8 _ 41) (.f 1 (Za9 _ j9) .nil)) <| J.B 0 fun b29 => J.z 1 <| J.q <| Zam.K2_ok b1 r3 b4 j8 (some (pt b29 0))
  ·exact SJ.skip <| J.q <| Zam.K2_ok b1 r3 b4 j8 j7
noncomputable def Zam (a0 : ByteArray) : M (Zak × Int × Int) :=
 slot 61 >>= fun b1 =>
 if (a0.size : Int) > 49 then
  pure (Za4, 2, 49)
 else
  Zcp a0 ZkN >>= fun r2 =>
  if ¬ (r2.2.2 = true) then
   pure (Za4, 42, (a0.size : Int))
  else
   ZdF r2.1 >>= fun r3 =>
   slot 59 >>= fun b4 =>
   if r3.2 = none then
    ZdW r3.1 >>= fun r31 =>
    ZaG a0 (IntKind.wrap .i64 ((r2.1.size : Int) + 1)) r31 45 >>= fun r32 =>
    Zam.K3 a0 r3 r32.2.2 r32.1 r32.2.1
   else
    Zam.K3 a0 r3 r3.2 0 0
theorem Zg3 (a0 : ByteArray) : Ref Tryd.prog 62 [.string a0] (Zam a0) Zam.out := by
 refine J.Fn Tryd.func62 ?_
 unfold Zam
 refine SJ.sr 3 <| J.a 0 Ty61 fun b1 => J.z 2 <| SJ.seq <| SJ.sr 3 <| J.z 3 <| J.f ?_ ?_
 ·exact SJ.sr 4 <| J.u 0 Ty61 .nil <| J.s 0 0 rfl Ty61 (Upd.w Za4) <| J.z 2 <| SJ.ret rfl (Res.run (ys := [Zau.val Za4, .int .i64 2, .int .i64 49]) (.cell (j := 0) (b := b1) (cd := Zau) (q := Za4) (by kernel_rfl) rfl Ty61 (At.whole _) (.tmp (by kernel_rfl) (.tmp (by kernel_rfl) .nil))) rfl)
 ·refine SJ.skip <| SJ.sr 9 <| J.C 1 F64 (ZgD _ _) fun r2 => J.z 7 <| SJ.seq <| SJ.sr 2 <| J.z 2 <| J.f ?_ ?_
  ·exact SJ.sr 6 <| J.u 0 Ty61 .nil <| J.s 2 0 rfl Ty61 (Upd.w Za4) <| J.z 2 <| SJ.ret rfl (Res.run (ys := [Zau.val Za4, .int .i64 42, .int .i64 (a0.size : Int)]) (.cell (j := 0) (b := b1) (cd := Zau) (q := Za4) (by kernel_rfl) rfl Ty61 (At.whole _) (.tmp (by kernel_rfl) (.tmp (by kernel_rfl) .nil))) rfl)
  ·refine SJ.skip <| SJ.sr 8 <| J.C 1 F73 (ZhC _) fun r3 => J.a 3 Ty59 fun b4 => J.s 0 0 rfl Ty59 (Upd.w r3.1) <| J.z 1 <| SJ.sr 2 <| J.z 2 <| SJ.seq <| SJ.sr 2 <| J.z 2 <| J.f ?_ ?_
   ·exact SJ.rg 14 <| J.k 4 0 rfl Ty59 (At.whole _) <| J.C 0 F52 (Zgf _) fun r31 => J.C 0 F74 (ZgI _ _ _ _) fun r32 => J.z 7 <| J.q <| Zam.K3_ok a0 b1 r3 b4 r32.2.2 r32.1 r32.2.1
   ·exact SJ.skip <| J.q <| Zam.K3_ok a0 b1 r3 b4 r3.2 0 0

/-! ### weir/addr.ParseIP: function 63 -/
noncomputable def ZcU.out (r_ : (Za1 × Int × Int)) : Value := .tuple #[Za0.val r_.1, .int .i64 r_.2.1, .int .i64 r_.2.2]
noncomputable def ZcU (a0 : ByteArray) : M (Za1 × Int × Int) :=
 slot 59 >>= fun b1 =>
 ZdF a0 >>= fun r2 =>
 slot 59 >>= fun b3 =>
 if ¬ (r2.2 = none) then
  draw >>= fun _ =>
  nilck r2.2 >>= fun p8 =>
  ld (cI .i64) p8 >>= fun x9 =>
  nilck r2.2 >>= fun p10 =>
  ld (cI .i64) (Addr.add p10 1) >>= fun x11 =>
  same (cI .i64) (Addr.add p10 1) x11 >>= fun _ =>
  same (cI .i64) p8 x9 >>= fun _ =>
  pure (Zb0, x9, x11)
 else
  pure (r2.1, 0, 0)
theorem ZjE (a0 : ByteArray) : Ref Tryd.prog 63 [.string a0] (ZcU a0) ZcU.out := by
 refine J.Fn Tryd.func63 ?_
 unfold ZcU
 refine SJ.sr 3 <| J.a 0 Ty59 fun b1 => J.z 2 <| SJ.sr 8 <| J.C 1 F73 (ZhC _) fun r2 => J.a 3 Ty59 fun b3 => J.s 0 0 rfl Ty59 (Upd.w r2.1) <| J.z 1 <| SJ.seq <| SJ.sr 2 <| J.z 2 <| J.f ?_ ?_
 ·exact SJ.seq <| J.R 12 Zc3 <| J.u 0 Ty59 .nil <| J.n 1 fun p8 => J.l 1 Ty28 fun x9 => J.n 1 fun p10 => J.l 1 Ty3 fun x11 => OJ.kst (y := .tmp 2) (z := .tmp 14) (cd := Za0) (u := Zb0) (j := 1) (b := b1) (o := 0) (Za0.enc Zb0) (owed := [⟨8, 3, (Addr.add p10 1), (cI .i64).val x11⟩, ⟨4, 28, p8, (cI .i64).val x9⟩]) Ty59 rfl (Upd.whole ((Cod.len _ _).trans (Cod.len _ _).symm)) rfl <| OW.same Ty3 <| OW.same Ty28 <| OW.nil <| J.z 2 <| SJ.ret rfl (Res.run (ys := [Za0.val Zb0, .int .i64 x9, .int .i64 x11]) (.cell (j := 1) (b := b1) (cd := Za0) (q := Zb0) (by kernel_rfl) rfl Ty59 (At.whole _) (.tmp (by kernel_rfl) (.tmp (by kernel_rfl) .nil))) rfl)
 ·exact SJ.skip <| SJ.sr 4 <| J.k 0 0 rfl Ty59 (At.whole _) <| J.s 0 1 rfl Ty59 (Upd.w r2.1) <| J.z 2 <| SJ.ret rfl (Res.run (ys := [Za0.val r2.1, .int .i64 0, .int .i64 0]) (.cell (j := 1) (b := b1) (cd := Za0) (q := r2.1) (by kernel_rfl) rfl Ty59 (At.whole _) (.tmp (by kernel_rfl) (.tmp (by kernel_rfl) .nil))) rfl)

/-! ### (*weir/rules.reader).net: function 50 -/
noncomputable def Zay.B : Code := bod Tryd.f50
noncomputable def Zay.cx : Fx := ⟨Tryd.prog, 50, Tryd.f50, none⟩
noncomputable def Zay.out (r_ : Zak) : Value := Zau.val r_
noncomputable def Zay.K1 (a0 : (Option Addr)) (a1 : Int) (r2 : Zaw) (j10 : Int) (j11 : Zak) : M Zak :=
 draw >>= fun _ =>
 nilck a0 >>= fun p12 =>
 ld (cI .i64) (Addr.add p12 19) >>= fun x13 =>
 (if x13 = 0 then
   (if j10 ≠ 0 then
     pure true
    else
     pure (a1 == 16)) >>= fun y14 =>
   (if y14 = true then
     pure true
    else
     nilck a0 >>= fun p15 =>
     ld (cI .i64) (Addr.add (Addr.add p15 3) 2) >>= fun x16 =>
     Zcy j11 x16 >>= fun r17 =>
     pure (!r17)) >>= fun y18 =>
   pure y18
  else
   pure false) >>= fun y19 =>
 if y19 = true then
  ZaN a0 163 r2.at_ >>= fun r21 =>
  pure j11
 else
  pure j11
theorem Zay.K1_ok (a0 : (Option Addr)) (a1 : Int) (b1 : Nat) (r2 : Zaw) (b3 : Nat) (b5 : Nat) (j10 : Int) (j11 : Zak) :
  SJ Zay.cx [.code (c2 (c2 (c2 (c2 Zay.B))))] [(0, .pointer a0), (1, .int .i64 a1), (4, .pointer (some (pt b1 0))), (5, .pointer (some (pt b3 0))), (6, .pointer (some (pt b5 0))), (7, .int .i64 j10)] [(b5, Zau.enc j11), (b3, ZaJ.enc r2), (b1, Zau.enc Za4)] (Zay.K1 a0 a1 r2 j10 j11) (rt Zay.out) := by
 unfold Zay.K1
 refine SJ.seq <| SJ.seq <| J.R 23 Zc3 <| J.n 1 fun p12 => J.l 1 Ty28 fun x13 => J.g 2 <| OJ.join (b := (x13 == 0)) [6, 7, 8, 9, 10, 11, 12, 13, 14, 15, 16, 17, 18, 19, 20, 21, 22] [] [0, 4, 5, 6, 59] (fun y19 => [(0, .pointer a0), (4, .pointer (some (pt b1 0))), (5, .pointer (some (pt b3 0))), (6, .pointer (some (pt b5 0))), (59, .bool y19)]) [⟨13, 61, (pt b5 0), Zau.val j11⟩, ⟨3, 28, (Addr.add p12 19), (cI .i64).val x13⟩] [18] (t := 42) beq_iff_eq (fun hp_ => ?_) (fun hp_ => ?_) (fun _ _ _ _ _ _ h_ => h_) fun y19 => ?_
 ·refine J.g 3 <| OJ.join (b := (j10 != 0)) [9, 10, 11] [12, 13, 14, 15, 16, 17, 18, 19, 20, 21, 22] [0, 4, 5, 6, 42, 48] (fun y14 => [(0, .pointer a0), (4, .pointer (some (pt b1 0))), (5, .pointer (some (pt b3 0))), (6, .pointer (some (pt b5 0))), (42, .bool true), (48, .bool y14)]) [⟨3, 28, (Addr.add p12 19), (cI .i64).val x13⟩] [] (t := 45) bne_iff_ne (fun hp_ => ?_) (fun hp_ => ?_) (fun _ _ _ _ _ hq_ h_ => ⟨fun e_ he_ => (hq_ e_ he_).elim (fun h => h_.1 e_ h) (fun h => nomatch h), h_.2⟩) fun y14 => ?_
  ·exact J.g 3 <| OJ.nil ⟨(Cov.mem (Cov.keep (List.mem_of_getElem? (i := 0) rfl) Cov.nil)), rfl, _, rfl, by kernel_rfl⟩
  ·exact J.g 3 <| OJ.nil ⟨(Cov.mem (Cov.keep (List.mem_of_getElem? (i := 0) rfl) Cov.nil)), rfl, _, rfl, by kernel_rfl⟩
  ·refine J.g 1 <| OJ.join (b := y14) [13, 14, 15, 16, 17, 18, 19, 20, 21] [22] [0, 4, 5, 6, 42, 58] (fun y18 => [(0, .pointer a0), (4, .pointer (some (pt b1 0))), (5, .pointer (some (pt b3 0))), (6, .pointer (some (pt b5 0))), (42, .bool true), (58, .bool y18)]) [⟨13, 61, (pt b5 0), Zau.val j11⟩, ⟨3, 28, (Addr.add p12 19), (cI .i64).val x13⟩] [18] (t := 49) Iff.rfl (fun hp_ => ?_) (fun hp_ => ?_) (fun _ _ _ _ _ hq_ h_ => ⟨fun e_ he_ => by rcases hq_ e_ he_ with h | h; exact h_.1 e_ h; exact .inr ((by decide : ∀ i ∈ [18], i ∈ [18]) _ h), h_.2⟩) fun y18 => ?_
   ·exact J.g 9 <| OJ.nil ⟨(Cov.mem (Cov.keep (List.mem_of_getElem? (i := 1) rfl) Cov.nil)), rfl, _, rfl, by kernel_rfl⟩
   ·exact J.k 0 0 rfl Ty61 (At.whole _) <| J.n 1 fun p15 => J.l 2 Ty3 fun x16 => J.C 0 F23 (ZfO _ _) fun r17 => J.g 2 <| OJ.nil ⟨(Cov.mem (Cov.drop (List.mem_of_getElem? (i := 0) rfl) (Cov.keep (List.mem_of_getElem? (i := 0) rfl) (Cov.keep (List.mem_of_getElem? (i := 1) rfl) Cov.nil)))), rfl, _, rfl, by kernel_rfl⟩
   ·exact J.g 1 <| OJ.nil ⟨(Cov.mem (Cov.keep (List.mem_of_getElem? (i := 0) rfl) (Cov.keep (List.mem_of_getElem? (i := 1) rfl) Cov.nil))), rfl, _, rfl, by kernel_rfl⟩
 ·exact J.g 17 <| OJ.nil ⟨(Cov.mem (Cov.keep (List.mem_of_getElem? (i := 1) rfl) Cov.nil)), rfl, _, rfl, by kernel_rfl⟩
 ·refine J.z 0 <| J.f ?_ ?_
  ·exact SJ.rg 4 <| J.k 2 1 rfl Ty3 (Zbh _) <| J.C 0 F20 (ZaV _ _ _) fun r21 => J.z 0 <| SJ.sr 2 <| J.k 0 0 rfl Ty61 (At.whole _) <| J.s 0 2 rfl Ty61 (Upd.w j11) <| J.z 0 <| SJ.ret rfl (Res.run (ys := [Zau.val j11]) (.cell (j := 2) (b := b1) (cd := Zau) (q := j11) (by kernel_rfl) rfl Ty61 (At.whole _) .nil) rfl)
  ·exact SJ.skip <| SJ.sr 2 <| J.k 0 0 rfl Ty61 (At.whole _) <| J.s 0 2 rfl Ty61 (Upd.w j11) <| J.z 0 <| SJ.ret rfl (Res.run (ys := [Zau.val j11]) (.cell (j := 2) (b := b1) (cd := Zau) (q := j11) (by kernel_rfl) rfl Ty61 (At.whole _) .nil) rfl)
noncomputable def Zay.K2 (a0 : (Option Addr)) (a1 : Int) (r2 : Zaw) (r23 : (Za1 × Int × Int)) (j25 : Zak) : M Zak :=
 Zay.K1 a0 a1 r2 r23.2.1 j25
theorem Zay.K2_ok (a0 : (Option Addr)) (a1 : Int) (b1 : Nat) (r2 : Zaw) (b3 : Nat) (b5 : Nat) (r23 : (Za1 × Int × Int)) (j25 : Zak) :
  SJ Zay.cx [.code (c2 (c2 (c2 (c2 Zay.B))))] [(0, .pointer a0), (1, .int .i64 a1), (4, .pointer (some (pt b1 0))), (5, .pointer (some (pt b3 0))), (6, .pointer (some (pt b5 0))), (7, .int .i64 r23.2.1)] [(b5, Zau.enc j25), (b3, ZaJ.enc r2), (b1, Zau.enc Za4)] (Zay.K2 a0 a1 r2 r23 j25) (rt Zay.out) := by
 unfold Zay.K2
 exact J.q <| Zay.K1_ok a0 a1 b1 r2 b3 b5 r23.2.1 j25
noncomputable def Zay (a0 : (Option Addr)) (a1 : Int) : M Zak :=
 slot 61 >>= fun b1 =>
 Zbr a0 >>= fun r2 =>
 slot 53 >>= fun b3 =>
 Zam r2.s >>= fun r4 =>
 slot 61 >>= fun b5 =>
 if r4.2.1 ≠ 0 then
  ZcU r2.s >>= fun r23 =>
  slot 59 >>= fun b24 =>
  if r23.1.V = 6 then
   Zay.K2 a0 a1 r2 r23 (⟨r23.1, 128⟩ : Zak)
  else
   Zay.K2 a0 a1 r2 r23 (⟨r23.1, 32⟩ : Zak)
 else
  Zay.K1 a0 a1 r2 r4.2.1 r4.1
theorem ZgT (a0 : (Option Addr)) (a1 : Int) : Ref Tryd.prog 50 [.pointer a0, .int .i64 a1] (Zay a0 a1) Zay.out := by
 refine J.Fn Tryd.func50 ?_
 unfold Zay
 refine SJ.sr 1 <| J.a 0 Ty61 fun b1 => J.z 0 <| SJ.sr 4 <| J.C 1 F46 (Zch _) fun r2 => J.a 0 Ty53 fun b3 => J.s 0 0 rfl Ty53 (Upd.w r2) <| J.z 0 <| SJ.sr 11 <| J.k 1 0 rfl Ty9 (ZaZ _) <| J.C 0 F62 (Zg3 _) fun r4 => J.a 4 Ty61 fun b5 => J.s 0 0 rfl Ty61 (Upd.w r4.1) <| J.z 2 <| SJ.seq <| SJ.sr 2 <| J.z 2 <| J.f ?_ ?_
 ·refine SJ.sr 11 <| J.k 1 1 rfl Ty9 (ZaZ _) <| J.C 0 F63 (ZjE _) fun r23 => J.a 4 Ty59 fun b24 => J.s 0 0 rfl Ty59 (Upd.w r23.1) <| J.z 2 <| SJ.sr 5 <| J.k 0 0 rfl Ty59 (At.whole _) <| J.u 0 Ty61 (.f 0 (Zem _ r23.1) (.f 1 (Zdn _ 32) .nil)) <| J.s 1 1 rfl Ty61 (Upd.w (⟨r23.1, 32⟩ : Zak)) <| J.z 1 <| SJ.sr 3 <| J.k 1 0 rfl Ty3 (Zdi _) <| J.z 1 <| J.f ?_ ?_
  ·exact SJ.rg 2 <| J.s 1 1 rfl Ty3 (Zdn _ 128) <| J.z 0 <| SJ.forget (List.Sublist.cons _ (List.Sublist.cons_cons _ (List.Sublist.cons_cons _ (List.Sublist.cons_cons _ List.Sublist.slnil)))) <| J.q <| Zay.K2_ok a0 a1 b1 r2 b3 b5 r23 (⟨r23.1, 128⟩ : Zak)
  ·exact SJ.skip <| SJ.forget (List.Sublist.cons _ (List.Sublist.cons_cons _ (List.Sublist.cons_cons _ (List.Sublist.cons_cons _ List.Sublist.slnil)))) <| J.q <| Zay.K2_ok a0 a1 b1 r2 b3 b5 r23 (⟨r23.1, 32⟩ : Zak)
 ·exact SJ.skip <| J.q <| Zay.K1_ok a0 a1 b1 r2 b3 b5 r4.2.1 r4.1

/-! ### (*weir/rules.reader).ports: function 51 -/
noncomputable def ZaH.B : Code := bod Tryd.f51
noncomputable def ZaH.cx : Fx := ⟨Tryd.prog, 51, Tryd.f51, none⟩
noncomputable def ZaH.out (r_ : ZaM) : Value := ZaS.val r_
noncomputable def ZaH.K1 (a0 : (Option Addr)) (a1 : Int) (r2 : Zaw) (r4 : (ByteArray × ByteArray × Bool)) (j5 : ByteArray) : M ZaM :=
 ZaT r4.1 0 65535 >>= fun r6 =>
 ZaT j5 0 65535 >>= fun r7 =>
 nilck a0 >>= fun p8 =>
 ld (cI .i64) (Addr.add p8 19) >>= fun x9 =>
 (if x9 = 0 then
   (if ¬ (r6.2 = true) then
     pure true
    else
     pure (!r7.2)) >>= fun y10 =>
   (if y10 = true then
     pure true
    else
     pure (decide (r6.1 > r7.1))) >>= fun y11 =>
   (if y11 = true then
     pure true
    else
     pure (a1 == 16)) >>= fun y12 =>
   pure y12
  else
   pure false) >>= fun y13 =>
 if y13 = true then
  ZaN a0 164 r2.at_ >>= fun r15 =>
  pure (⟨r6.1, r7.1⟩ : ZaM)
 else
  pure (⟨r6.1, r7.1⟩ : ZaM)
theorem ZaH.K1_ok (a0 : (Option Addr)) (a1 : Int) (b1 : Nat) (r2 : Zaw) (b3 : Nat) (r4 : (ByteArray × ByteArray × Bool)) (j5 : ByteArray) :
  SJ ZaH.cx [.code (c2 (c2 (c2 (c2 ZaH.B))))] [(0, .pointer a0), (1, .int .i64 a1), (4, .pointer (some (pt b1 0))), (5, .pointer (some (pt b3 0))), (6, .string r4.1), (7, .string j5)] [(b3, ZaJ.enc r2), (b1, ZaS.enc Zfs)] (ZaH.K1 a0 a1 r2 r4 j5) (rt ZaH.out) := by
 unfold ZaH.K1
 refine SJ.sr 7 <| J.C 1 F47 (ZdO _ _ _) fun r6 => J.z 5 <| SJ.sr 7 <| J.C 1 F47 (ZdO _ _ _) fun r7 => J.z 5 <| SJ.seq <| SJ.sr 22 <| J.n 1 fun p8 => J.l 1 Ty28 fun x9 => J.g 2 <| OJ.join (b := (x9 == 0)) [6, 7, 8, 9, 10, 11, 12, 13, 14, 15, 16, 17, 18, 19, 20, 21] [] [0, 4, 5, 9, 11, 56] (fun y13 => [(0, .pointer a0), (4, .pointer (some (pt b1 0))), (5, .pointer (some (pt b3 0))), (9, .int .i64 r6.1), (11, .int .i64 r7.1), (56, .bool y13)]) [] [] (t := 40) beq_iff_eq (fun hp_ => ?_) (fun hp_ => ?_) (fun _ _ _ _ _ _ h_ => h_) fun y13 => ?_
 ·refine J.g 3 <| OJ.join (b := (!r6.2)) [9, 10, 11] [12, 13, 14, 15, 16, 17, 18, 19, 20, 21] [0, 1, 4, 5, 9, 11, 40, 46] (fun y10 => [(0, .pointer a0), (1, .int .i64 a1), (4, .pointer (some (pt b1 0))), (5, .pointer (some (pt b3 0))), (9, .int .i64 r6.1), (11, .int .i64 r7.1), (40, .bool true), (46, .bool y10)]) [] [] (t := 43) (Zlm Iff.rfl) (fun hp_ => ?_) (fun hp_ => ?_) (fun _ _ _ _ _ hq_ h_ => ⟨fun e_ he_ => (hq_ e_ he_).elim (fun h => h_.1 e_ h) (fun h => nomatch h), h_.2⟩) fun y10 => ?_
  ·exact J.g 3 <| OJ.nil ⟨(Cov.mem Cov.nil), rfl, _, rfl, by kernel_rfl⟩
  ·exact J.g 3 <| OJ.nil ⟨(Cov.mem Cov.nil), rfl, _, rfl, by kernel_rfl⟩
  ·refine J.g 1 <| OJ.join (b := y10) [13, 14, 15, 16] [17, 18, 19, 20, 21] [0, 1, 4, 5, 9, 11, 40, 51] (fun y11 => [(0, .pointer a0), (1, .int .i64 a1), (4, .pointer (some (pt b1 0))), (5, .pointer (some (pt b3 0))), (9, .int .i64 r6.1), (11, .int .i64 r7.1), (40, .bool true), (51, .bool y11)]) [] [] (t := 47) Iff.rfl (fun hp_ => ?_) (fun hp_ => ?_) (fun _ _ _ _ _ hq_ h_ => ⟨fun e_ he_ => (hq_ e_ he_).elim (fun h => h_.1 e_ h) (fun h => nomatch h), h_.2⟩) fun y11 => ?_
   ·exact J.g 4 <| OJ.nil ⟨(Cov.mem Cov.nil), rfl, _, rfl, by kernel_rfl⟩
   ·exact J.g 4 <| OJ.nil ⟨(Cov.mem Cov.nil), rfl, _, rfl, by kernel_rfl⟩
   ·refine J.g 1 <| OJ.join (b := y11) [18, 19, 20] [21] [0, 4, 5, 9, 11, 40, 55] (fun y12 => [(0, .pointer a0), (4, .pointer (some (pt b1 0))), (5, .pointer (some (pt b3 0))), (9, .int .i64 r6.1), (11, .int .i64 r7.1), (40, .bool true), (55, .bool y12)]) [] [] (t := 52) Iff.rfl (fun hp_ => ?_) (fun hp_ => ?_) (fun _ _ _ _ _ hq_ h_ => ⟨fun e_ he_ => (hq_ e_ he_).elim (fun h => h_.1 e_ h) (fun h => nomatch h), h_.2⟩) fun y12 => ?_
    ·exact J.g 3 <| OJ.nil ⟨(Cov.mem Cov.nil), rfl, _, rfl, by kernel_rfl⟩
    ·exact J.g 3 <| OJ.nil ⟨(Cov.mem Cov.nil), rfl, _, rfl, by kernel_rfl⟩
    ·exact J.g 1 <| OJ.nil ⟨(Cov.mem Cov.nil), rfl, _, rfl, by kernel_rfl⟩
 ·exact J.g 16 <| OJ.nil ⟨(Cov.mem Cov.nil), rfl, _, rfl, by kernel_rfl⟩
 ·refine J.z 0 <| J.f ?_ ?_
  ·exact SJ.rg 4 <| J.k 2 0 rfl Ty3 (Zbh _) <| J.C 0 F20 (ZaV _ _ _) fun r15 => J.z 0 <| SJ.sr 4 <| J.u 2 Ty64 (.f 0 (ZdX _ r6.1) (.f 1 (ZdY _ r7.1) .nil)) <| J.s 0 1 rfl Ty64 (Upd.w (⟨r6.1, r7.1⟩ : ZaM)) <| J.z 0 <| SJ.ret rfl (Res.run (ys := [ZaS.val (⟨r6.1, r7.1⟩ : ZaM)]) (.cell (j := 1) (b := b1) (cd := ZaS) (q := (⟨r6.1, r7.1⟩ : ZaM)) (by kernel_rfl) rfl Ty64 (At.whole _) .nil) rfl)
  ·exact SJ.skip <| SJ.sr 4 <| J.u 2 Ty64 (.f 0 (ZdX _ r6.1) (.f 1 (ZdY _ r7.1) .nil)) <| J.s 0 1 rfl Ty64 (Upd.w (⟨r6.1, r7.1⟩ : ZaM)) <| J.z 0 <| SJ.ret rfl (Res.run (ys := [ZaS.val (⟨r6.1, r7.1⟩ : ZaM)]) (.cell (j := 1) (b := b1) (cd := ZaS) (q := (⟨r6.1, r7.1⟩ : ZaM)) (by kernel_rfl) rfl Ty64 (At.whole _) .nil) rfl)
noncomputable def ZaH (a0 : (Option Addr)) (a1 : Int) : M ZaM :=
 slot 64 >>= fun b1 =>
 Zbr a0 >>= fun r2 =>
 slot 53 >>= fun b3 =>
 Zcp r2.s ZgO >>= fun r4 =>
 if ¬ (r4.2.2 = true) then
  ZaH.K1 a0 a1 r2 r4 r4.1
 else
  ZaH.K1 a0 a1 r2 r4 r4.2.1
theorem ZfZ (a0 : (Option Addr)) (a1 : Int) : Ref Tryd.prog 51 [.pointer a0, .int .i64 a1] (ZaH a0 a1) ZaH.out := by
 refine J.Fn Tryd.func51 ?_
 unfold ZaH
 refine SJ.sr 1 <| J.a 0 Ty64 fun b1 => J.z 0 <| SJ.sr 4 <| J.C 1 F46 (Zch _) fun r2 => J.a 0 Ty53 fun b3 => J.s 0 0 rfl Ty53 (Upd.w r2) <| J.z 0 <| SJ.sr 10 <| J.k 1 0 rfl Ty9 (ZaZ _) <| J.C 0 F64 (ZgD _ _) fun r4 => J.z 7 <| SJ.seq <| SJ.sr 2 <| J.z 2 <| J.f ?_ ?_
 ·exact SJ.rg 2 <| J.z 2 <| J.q <| ZaH.K1_ok a0 a1 b1 r2 b3 r4 r4.1
 ·exact SJ.skip <| J.q <| ZaH.K1_ok a0 a1 b1 r2 b3 r4 r4.2.1
end Go.Proofs.YtpmhinidiplhiaaDoor.Lx
