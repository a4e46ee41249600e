/- Programs of the M-world for Go functions, each with the proof that the Go text does what it says. Printed by lxgen.py. -/
import Derived.Test.YtfnokeoldcfcoaaGreatDoorLxT
set_option maxRecDepth 100000
set_option linter.unusedSectionVars false
set_option linter.unusedSimpArgs false
set_option linter.unusedVariables false
namespace Go.Proofs.YtfnokeoldcfcoaaGreatDoor.Lx
open SJ (sr seq block inBlock exit)
open Go.IntKind (wrap)
open Go Go.Proofs
variable [Zd5]
noncomputable def ZaQ.B : Code := bod Tryz.f35
noncomputable def ZaQ.cx : Fx := ⟨Tryz.prog, 35, Tryz.f35, none⟩
noncomputable def ZaQ.out (r_ : ((Vec Bool 256) × Bool)) : Value := .tuple #[(cB.arr 256).val r_.1, .bool r_.2]
noncomputable def ZaQ.F1 (a0 : ByteArray) (b1 : Nat) : LF (Int × (Vec Bool 256)) ((Vec Bool 256) × Bool) := ⟨[.inBlock 0, .code (c2 (c2 ZaQ.B))], c1 (c2 (c1 (c2 ZaQ.B))), fun s_ => [(0, .string a0), (2, .pointer (some (pt b1 0))), (4, .int .i64 s_.1)], fun s_ => [(b1, (cB.arr 256).enc s_.2)], (rt ZaQ.out)⟩
noncomputable def ZaQ.L1 (a0 : ByteArray) (s2 : Int) (s3 : (Vec Bool 256)) : M (LS (Int × (Vec Bool 256)) ((Vec Bool 256) × Bool)) :=
 if s2 < (a0.size : Int) then
  chk ((0 : Int) ≤ s2 ∧ s2 < (a0.size : Int)) >>= fun _ =>
  if (sb a0 s2) ≥ 128 then
   pure (LS.done (s3, false))
  else
   chk ((0 : Int) ≤ (sb a0 s2) ∧ (sb a0 s2) < (256 : Nat)) >>= fun _ =>
   pure (LS.next (wrap .i64 (s2 + 1), (Vec.s s3 (sb a0 s2) true)))
 else
  pure (LS.done (s3, true))
theorem ZaQ.L1_ok (a0 : ByteArray) (b1 : Nat) : LJ ZaQ.cx (ZaQ.F1 a0 b1) (fun s_ => ZaQ.L1 a0 s_.1 s_.2) := by
 rintro ⟨s2, s3⟩
 show SJ _ _ _ _ (ZaQ.L1 a0 s2 s3) _
 unfold ZaQ.L1
 refine seq <| sr 4 <| J.z 4 <| J.f ?_ ?_
 ·refine SJ.skip <| seq <| block (id := 1) <| sr 4 <| J.t 2 fun hb10 hb11 => J.z 1 <| seq <| sr 2 <| J.z 2 <| J.f ?_ ?_
  ·exact sr 3 <| J.k 0 0 rfl ZoX (At.whole _) <| J.s 0 0 rfl ZoX (Upd.w s3) <| J.z 1 <| J.rc (.c 0 rfl ZoX .n)
  exact SJ.skip <| SJ.rg 3 <| J.y 1 fun hb12 hb13 => J.s (u := true) 0 0 rfl Ty4 (Upd.zero (Upd.arr hb12 hb13)) <| J.z 0 <| inBlock <| SJ.rg 3 <| J.z 3 <| J.o rfl
 exact exit (id := 0) (by rfl) <| sr 3 <| J.k 0 0 rfl ZoX (At.whole _) <| J.s 0 0 rfl ZoX (Upd.w s3) <| J.z 1 <| J.rc (.c 0 rfl ZoX .n)
noncomputable def ZaQ (a0 : ByteArray) : M ((Vec Bool 256) × Bool) :=
 slot 114 >>= fun b1 =>
 Zcn (fun s_ : (Int × (Vec Bool 256)) => ZaQ.L1 a0 s_.1 s_.2) (0, (Vec.rep 256 false))
theorem Zhz (a0 : ByteArray) : Ref Tryz.prog 35 [.string a0] (ZaQ a0) ZaQ.out := by
 refine J.Fn Tryz.func35 ?_
 unfold ZaQ
 exact sr 2 <| J.a 0 ZoX fun b1 => J.z 1 <| seq <| sr 1 <| J.z 1 <| block (id := 0) <| J.L (ZaQ.L1_ok a0 b1)

noncomputable def Zb7.out (r_ : Bool) : Value := .bool r_
noncomputable def Zb7 (a0 : (Option Addr)) (a1 : Int) : M Bool :=
 nilck a0 >>= fun p1 =>
 idx (some p1) 256 a1 1 >>= fun p2 =>
 ld cB p2 >>= fun x3 =>
 pure x3
theorem Zgg (a0 : (Option Addr)) (a1 : Int) : Ref Tryz.prog 58 [.pointer a0, .int .u8 a1] (Zb7 a0 a1) Zb7.out := by
 refine J.Fn Tryz.func58 ?_
 unfold Zb7
 exact sr 1 <| J.z 1 <| sr 6 <| J.n 2 fun p1 => OJ.idxA (d := 8) (T := 114) (y := .tmp 7) (j := .tmp 6) (E := 4) (k := .u8) fun p2 => J.l 0 Ty4 fun x3 => J.z 1 <| J.r

noncomputable def ZaK.B : Code := bod Tryz.f36
noncomputable def ZaK.cx : Fx := ⟨Tryz.prog, 36, Tryz.f36, none⟩
noncomputable def ZaK.out (r_ : ByteArray) : Value := .string r_
noncomputable def ZaK.F1 (a1 : (Option Addr)) : LF ByteArray ByteArray := ⟨[.inBlock 0, .code (c2 (c2 ZaK.B))], c1 (c1 (c2 ZaK.B)), fun s_ => [(0, .string s_), (1, .pointer a1)], fun s_ => [], (rt ZaK.out)⟩
noncomputable def ZaK.L1 (a1 : (Option Addr)) (s1 : ByteArray) : M (LS ByteArray ByteArray) :=
 if (s1.size : Int) > 0 then
  chk ((0 : Int) ≤ 0 ∧ 0 < (s1.size : Int)) >>= fun _ =>
  Zb7 a1 (sb s1 0) >>= fun r9 =>
  if ¬ (r9 = true) then
   pure (LS.done s1)
  else
   chk (0 ≤ (1 : Int) ∧ (1 : Int) ≤ (s1.size : Int) ∧ (s1.size : Int) ≤ (s1.size : Int)) >>= fun _ =>
   pure (LS.next (ByteArray.extract s1 (Int.toNat 1) (Int.toNat (s1.size : Int))))
 else
  pure (LS.done s1)
theorem ZaK.L1_ok (a1 : (Option Addr)) : LJ ZaK.cx (ZaK.F1 a1) (fun s_ => ZaK.L1 a1 s_) := by
 rintro s1
 show SJ _ _ _ _ (ZaK.L1 a1 s1) _
 unfold ZaK.L1
 refine seq <| sr 3 <| J.z 3 <| J.f ?_ ?_
 ·refine SJ.skip <| block (id := 1) <| seq <| sr 5 <| J.t 2 fun hb7 hb8 => J.C 0 F58 (Zgg _ _) fun r9 => J.z 1 <| J.f ?_ ?_
  ·exact exit (id := 0) (by rfl) <| sr 2 <| J.z 2 <| J.r
  exact SJ.skip <| SJ.rg 3 <| J.ct 1 <| J.z 1 <| inBlock <| J.o rfl
 exact exit (id := 0) (by rfl) <| sr 2 <| J.z 2 <| J.r
noncomputable def ZaK (a0 : ByteArray) (a1 : (Option Addr)) : M ByteArray :=
 Zcn (fun s_ : ByteArray => ZaK.L1 a1 s_) a0
theorem Zhb (a0 : ByteArray) (a1 : (Option Addr)) : Ref Tryz.prog 36 [.string a0, .pointer a1] (ZaK a0 a1) ZaK.out := by
 refine J.Fn Tryz.func36 ?_
 unfold ZaK
 exact sr 1 <| J.z 1 <| seq <| block (id := 0) <| J.L (ZaK.L1_ok a1)

noncomputable def Zci.out (r_ : Int) : Value := .int .i64 r_
noncomputable def Zci (a0 : ByteArray) (a1 : Int) : M Int :=
 idxB a0 a1 >>= fun r1 =>
 pure r1
theorem Zff (a0 : ByteArray) (a1 : Int) : Ref Tryz.prog 126 [.string a0, .int .u8 a1] (Zci a0 a1) Zci.out := by
 refine J.Fn Tryz.func126 ?_
 unfold Zci
 exact sr 1 <| J.z 1 <| sr 4 <| J.g 2 <| OJ.ext (d := 7) (g := 139) (ats := #[9, 5]) (args := [.tmp 5, .tmp 6]) (out := fun r => .int .i64 r) (owed := []) Tryz.func139 Zvd fun r1 => OW.nil <| J.z 1 <| J.r

noncomputable def ZeQ.out (r_ : Int) : Value := .int .i64 r_
noncomputable def ZeQ (a0 : Int) : M Int :=
 pure (wrap .i64 (Int.tdiv (wrap .i64 (a0 + 16)) 8))
theorem Zkq (a0 : Int) : Ref Tryz.prog 109 [.int .i64 a0] (ZeQ a0) ZeQ.out := by
 refine J.Fn Tryz.func109 ?_
 unfold ZeQ
 exact sr 1 <| J.z 1 <| sr 4 <| J.z 4 <| J.r

noncomputable def Zdo.out (r_ : ByteArray) : Value := .string r_
noncomputable def Zdo (a0 : ByteArray) (a1 : ByteArray) : M ByteArray :=
 (if a0.toList = ByteArray.empty.toList then
   pure true
  else
   pure (a1.toList == ByteArray.empty.toList)) >>= fun y1 =>
 if y1 = true then
  pure a0
 else
  (if (a1.size : Int) = 1 then
    chk ((0 : Int) ≤ 0 ∧ 0 < (a1.size : Int)) >>= fun _ =>
    pure (decide ((sb a1 0) < 128))
   else
    pure false) >>= fun y4 =>
  if y4 = true then
   fail
  else
   ZaQ a1 >>= fun r5 =>
   newv 114 (cB.arr 256) (Vec.rep 256 false) >>= fun b6 =>
   st (cB.arr 256) (pt b6 0) r5.1 >>= fun _ =>
   if r5.2 = true then
    ZaK a0 (some (pt b6 0)) >>= fun r8 =>
    pure r8
   else
    fail
theorem Zjx (a0 : ByteArray) (a1 : ByteArray) : Ref Tryz.prog 15 [.string a0, .string a1] (Zdo a0 a1) Zdo.out := by
 refine J.Fn Tryz.func15 ?_
 unfold Zdo
 refine sr 1 <| J.z 1 <| seq <| sr 6 <| J.j 3 2 .bool ?_ ?_ fun y1 => ?_
 ·exact J.e 3
 ·exact J.e 3
 refine J.z 0 <| J.f ?_ ?_
 ·exact sr 2 <| J.z 2 <| J.r
 refine SJ.skip <| seq <| sr 8 <| J.j 4 3 .bool ?_ ?_ fun y4 => ?_
 ·exact J.t 1 fun hb2 hb3 => J.e 2
 ·exact J.e 4
 refine J.z 0 <| J.f ?_ ?_
 ·exact SJ.fail
 refine SJ.skip <| seq <| sr 8 <| J.C 1 F35 (Zhz _) fun r5 => J.A 3 ZoX fun b6 => J.w 0 ZoX <| J.z 1 <| sr 1 <| J.z 1 <| J.f ?_ ?_
 ·exact sr 3 <| J.C 1 F36 (Zhb _ _) fun r8 => J.z 1 <| J.r
 exact SJ.fail

noncomputable def ZaP.B : Code := bod Tryz.f17
noncomputable def ZaP.cx : Fx := ⟨Tryz.prog, 17, Tryz.f17, none⟩
noncomputable def ZaP.out (r_ : (Sl × Int)) : Value := .tuple #[Sl.v r_.1, .int .i64 r_.2]
noncomputable def ZaP.F1 (a0 : ByteArray) : LF (Sl × Int) (Sl × Int) := ⟨[.inBlock 0, .code (c2 (c2 (c2 ZaP.B)))], c1 (c2 (c1 (c2 (c2 ZaP.B)))), fun s_ => [(0, .string a0), (4, Sl.v s_.1), (5, .int .i64 s_.2)], fun s_ => [], (rt ZaP.out)⟩
noncomputable def ZaP.K1 (a0 : ByteArray) (s1 : Sl) (s2 : Int) (s42 : Int) : M (LS (Sl × Int) (Sl × Int)) :=
 chk ((0 : Int) ≤ s2 ∧ s2 < (a0.size : Int)) >>= fun _ =>
 if s42 > s2 then
  chk (0 ≤ (s2 : Int) ∧ (s2 : Int) ≤ s42 ∧ s42 ≤ (a0.size : Int)) >>= fun _ =>
  slot 90 >>= fun b60 =>
  appl Zbr 90 24 Zdf s1 [(⟨(ByteArray.extract a0 (Int.toNat s2) (Int.toNat s42)), s2⟩ : ZaG)] >>= fun r61 =>
  pure (LS.next (r61, s42))
 else
  if (sb a0 s2) = 44 then
   chk (0 ≤ (s2 : Int) ∧ (s2 : Int) ≤ (wrap .i64 (s42 + 1)) ∧ (wrap .i64 (s42 + 1)) ≤ (a0.size : Int)) >>= fun _ =>
   slot 90 >>= fun b64 =>
   appl Zbr 90 24 Zdf s1 [(⟨(ByteArray.extract a0 (Int.toNat s2) (Int.toNat (wrap .i64 (s42 + 1)))), s2⟩ : ZaG)] >>= fun r65 =>
   pure (LS.next (r65, wrap .i64 (s42 + 1)))
  else
   (if (sb a0 s2) = 32 then
     pure true
    else
     pure ((sb a0 s2) == 9)) >>= fun y66 =>
   if y66 = true then
    pure (LS.next (s1, wrap .i64 (s2 + 1)))
   else
    pure (LS.done (Sl.nil, s2))
theorem ZaP.K1_ok (a0 : ByteArray) (s1 : Sl) (s2 : Int) (s42 : Int) :
  SJ ZaP.cx [.code (c2 (c2 (c1 (c2 (c1 (c1 (c2 (c1 (c2 (c2 ZaP.B)))))))))), .inBlock 1, .inLoop (c1 (c1 (c2 (c1 (c2 (c2 ZaP.B)))))), .inBlock 0, .code (c2 (c2 (c2 ZaP.B)))] [(0, .string a0), (4, Sl.v s1), (5, .int .i64 s2), (6, .int .i64 s42)] [] (ZaP.K1 a0 s1 s2 s42) (ZaP.F1 a0).f := by
 unfold ZaP.K1
 refine seq <| sr 4 <| J.t 2 fun hb53 hb54 => J.z 1 <| block (id := 4) <| sr 4 <| J.z 4 <| J.f ?_ ?_
 ·exact SJ.skip <| inBlock <| sr 10 <| J.ct 4 <| J.u 1 Ty90 (.f 0 (ZiM _ (ByteArray.extract a0 (Int.toNat s2) (Int.toNat s42))) (.f 1 (Zhs _ s2) .nil)) <| J.S 0 [(⟨(ByteArray.extract a0 (Int.toNat s2) (Int.toNat s42)), s2⟩ : ZaG)] Ty90 fun b60 => J.p 0 0 rfl Ty90 fun r61 => J.z 1 <| SJ.rg 2 <| J.z 2 <| inBlock <| SJ.forget (List.Sublist.cons _ List.Sublist.slnil) <| J.o rfl
 refine sr 3 <| J.z 3 <| J.f ?_ ?_
 ·exact SJ.rg 3 <| J.z 3 <| inBlock <| sr 10 <| J.ct 4 <| J.u 1 Ty90 (.f 0 (ZiM _ (ByteArray.extract a0 (Int.toNat s2) (Int.toNat (wrap .i64 (s42 + 1))))) (.f 1 (Zhs _ s2) .nil)) <| J.S 0 [(⟨(ByteArray.extract a0 (Int.toNat s2) (Int.toNat (wrap .i64 (s42 + 1)))), s2⟩ : ZaG)] Ty90 fun b64 => J.p 0 0 rfl Ty90 fun r65 => J.z 1 <| SJ.rg 2 <| J.z 2 <| inBlock <| SJ.forget (List.Sublist.cons _ List.Sublist.slnil) <| J.o rfl
 refine sr 7 <| J.j 3 2 .bool ?_ ?_ fun y66 => ?_
 ·exact J.e 3
 ·exact J.e 3
 refine J.z 1 <| J.f ?_ ?_
 ·exact sr 3 <| J.z 3 <| exit (id := 1) (by rfl) <| J.o rfl
 exact sr 3 <| J.z 3 <| J.r
noncomputable def ZaP.F2 (a0 : ByteArray) (s1 : Sl) (s2 : Int) : LF Int (LS (Sl × Int) (Sl × Int)) := ⟨[.inBlock 2, .code (c2 (c2 (c1 (c2 (c1 (c1 (c2 (c1 (c2 (c2 ZaP.B)))))))))), .inBlock 1, .inLoop (c1 (c1 (c2 (c1 (c2 (c2 ZaP.B)))))), .inBlock 0, .code (c2 (c2 (c2 ZaP.B)))], c1 (c1 (c2 (c1 (c2 (c1 (c1 (c2 (c1 (c2 (c2 ZaP.B)))))))))), fun s_ => [(0, .string a0), (4, Sl.v s1), (5, .int .i64 s2), (6, .int .i64 s_)], fun s_ => [], (ZaP.F1 a0).f⟩
noncomputable def ZaP.L2 (a0 : ByteArray) (s1 : Sl) (s2 : Int) (s42 : Int) : M (LS Int (LS (Sl × Int) (Sl × Int))) :=
 (if s42 < (a0.size : Int) then
   chk ((0 : Int) ≤ s42 ∧ s42 < (a0.size : Int)) >>= fun _ =>
   pure (decide ((sb a0 s42) > 32))
  else
   pure false) >>= fun y72 =>
 (if y72 = true then
   chk ((0 : Int) ≤ s42 ∧ s42 < (a0.size : Int)) >>= fun _ =>
   pure (decide ((sb a0 s42) < 127))
  else
   pure false) >>= fun y75 =>
 (if y75 = true then
   chk ((0 : Int) ≤ s42 ∧ s42 < (a0.size : Int)) >>= fun _ =>
   pure ((sb a0 s42) != 44)
  else
   pure false) >>= fun y78 =>
 if y78 = true then
  pure (LS.next (wrap .i64 (s42 + 1)))
 else
  (ZaP.K1 a0 s1 s2 s42) >>= fun b => pure (LS.done b)
theorem ZaP.L2_ok (a0 : ByteArray) (s1 : Sl) (s2 : Int) : LJ ZaP.cx (ZaP.F2 a0 s1 s2) (fun s_ => ZaP.L2 a0 s1 s2 s_) := by
 rintro s42
 show SJ _ _ _ _ (ZaP.L2 a0 s1 s2 s42) _
 unfold ZaP.L2
 refine seq <| sr 22 <| J.j 5 4 .bool ?_ ?_ fun y72 => ?_
 ·exact J.t 2 fun hb70 hb71 => J.e 2
 ·exact J.e 5
 refine J.j 1 4 .bool ?_ ?_ fun y75 => ?_
 ·exact J.t 2 fun hb73 hb74 => J.e 2
 ·exact J.e 5
 refine J.j 1 4 .bool ?_ ?_ fun y78 => ?_
 ·exact J.t 2 fun hb76 hb77 => J.e 2
 ·exact J.e 5
 refine J.z 0 <| J.f ?_ ?_
 ·exact SJ.skip <| block (id := 3) <| SJ.rg 3 <| J.z 3 <| inBlock <| J.o rfl
 exact exit (id := 2) (by rfl) <| J.q <| SJ.done <| ZaP.K1_ok a0 s1 s2 s42
noncomputable def ZaP.L1 (a0 : ByteArray) (s1 : Sl) (s2 : Int) : M (LS (Sl × Int) (Sl × Int)) :=
 if s2 < (a0.size : Int) then
  Zcn (fun s_ : Int => ZaP.L2 a0 s1 s2 s_) s2
 else
  pure (LS.done (s1, (-1)))
theorem ZaP.L1_ok (a0 : ByteArray) : LJ ZaP.cx (ZaP.F1 a0) (fun s_ => ZaP.L1 a0 s_.1 s_.2) := by
 rintro ⟨s1, s2⟩
 show SJ _ _ _ _ (ZaP.L1 a0 s1 s2) _
 unfold ZaP.L1
 refine seq <| sr 4 <| J.z 4 <| J.f ?_ ?_
 ·exact SJ.skip <| block (id := 1) <| sr 2 <| J.z 2 <| seq <| block (id := 2) <| J.L (ZaP.L2_ok a0 s1 s2)
 exact exit (id := 0) (by rfl) <| sr 3 <| J.z 3 <| J.r
noncomputable def ZaP (a0 : ByteArray) : M (Sl × Int) :=
 Zcn (fun s_ : (Sl × Int) => ZaP.L1 a0 s_.1 s_.2) (Sl.nil, 0)
theorem Znq (a0 : ByteArray) : Ref Tryz.prog 17 [.string a0] (ZaP a0) ZaP.out := by
 refine J.Fn Tryz.func17 ?_
 unfold ZaP
 exact sr 2 <| J.z 2 <| sr 1 <| J.z 1 <| seq <| sr 1 <| J.z 1 <| block (id := 0) <| J.L (ZaP.L1_ok a0)

noncomputable def Za0.out (r_ : Unit) : Value := .tuple #[]
noncomputable def Za0 (a0 : (Option Addr)) (a1 : Int) (a2 : Int) : M Unit :=
 nilck a0 >>= fun p1 =>
 ld (cI .i64) (Addr.add p1 19) >>= fun x2 =>
 if x2 = 0 then
  nilck a0 >>= fun p5 =>
  st (cI .i64) (Addr.add p5 19) a1 >>= fun _ =>
  nilck a0 >>= fun p6 =>
  st (cI .i64) (Addr.add p6 20) a2 >>= fun _ =>
  pure ()
 else
  pure ()
theorem Zbl (a0 : (Option Addr)) (a1 : Int) (a2 : Int) : Ref Tryz.prog 21 [.pointer a0, .int .i64 a1, .int .i64 a2] (Za0 a0 a1 a2) Za0.out := by
 refine J.Fn Tryz.func21 ?_
 unfold Za0
 refine sr 5 <| J.n 1 fun p1 => J.l 1 Ty25 fun x2 => J.z 1 <| J.f ?_ ?_
 ·exact SJ.rg 10 <| J.n 4 fun p5 => J.w 1 Ty25 <| J.n 0 fun p6 => J.w 1 Ty3 <| J.z 0 <| SJ.end_ rfl (Res.run (ys := []) .nil rfl)
 exact SJ.skip <| SJ.end_ rfl (Res.run (ys := []) .nil rfl)

noncomputable def ZaO.B : Code := bod Tryz.f19
noncomputable def ZaO.cx : Fx := ⟨Tryz.prog, 19, Tryz.f19, none⟩
noncomputable def ZaO.out (r_ : ZaG) : Value := Zbr.val r_
noncomputable def ZaO.K1 (a0 : (Option Addr)) : M ZaG :=
 nilck a0 >>= fun p12 =>
 ld (cI .i64) (Addr.add p12 19) >>= fun x13 =>
 if x13 ≠ 0 then
  pure Zdf
 else
  nilck a0 >>= fun p14 =>
  ld (cI .i64) (Addr.add p14 1) >>= fun x15 =>
  nilck a0 >>= fun p16 =>
  st (cI .i64) (Addr.add p16 1) (wrap .i64 (x15 + 1)) >>= fun _ =>
  draw >>= fun _ =>
  nilck a0 >>= fun p17 =>
  ld cL p17 >>= fun x18 =>
  nilck a0 >>= fun p19 =>
  ld (cI .i64) (Addr.add p19 1) >>= fun x20 =>
  idx x18.a x18.len (wrap .i64 (x20 - 1)) 2 >>= fun p21 =>
  ld Zbr p21 >>= fun x22 =>
  pure x22
theorem ZaO.K1_ok (a0 : (Option Addr)) (b1 : Nat) :
  SJ ZaO.cx [.code (c2 (c2 ZaO.B))] [(0, .pointer a0), (2, .pointer (some (pt b1 0)))] [(b1, Zbr.enc Zdf)] (ZaO.K1 a0) (rt ZaO.out) := by
 unfold ZaO.K1
 refine seq <| sr 5 <| J.n 1 fun p12 => J.l 1 Ty25 fun x13 => J.z 1 <| J.f ?_ ?_
 ·exact sr 2 <| J.u 0 Ty90 .nil <| J.s 0 0 rfl Ty90 (Upd.w Zdf) <| J.z 0 <| J.rc (.c 0 rfl Ty90 .n)
 exact SJ.skip <| sr 8 <| J.n 1 fun p14 => J.l 1 Ty3 fun x15 => J.n 1 fun p16 => J.w 1 Ty3 <| J.z 0 <| seq <| J.R 12 ZcY <| J.n 1 fun p17 => J.l 1 Ty82 fun x18 => J.n 1 fun p19 => J.l 1 Ty3 fun x20 => J.i 1 fun p21 => J.l 0 Ty90 fun x22 => J.s 0 0 rfl Ty90 (Upd.w x22) <| J.z 0 <| J.rc (.c 0 rfl Ty90 .n)
noncomputable def ZaO (a0 : (Option Addr)) : M ZaG :=
 slot 90 >>= fun b1 =>
 draw >>= fun _ =>
 nilck a0 >>= fun p2 =>
 ld (cI .i64) (Addr.add p2 19) >>= fun x3 =>
 (if x3 = 0 then
   nilck a0 >>= fun p4 =>
   ld (cI .i64) (Addr.add p4 1) >>= fun x5 =>
   nilck a0 >>= fun p6 =>
   ld cL p6 >>= fun x7 =>
   pure (x5 == (x7.len : Int))
  else
   pure false) >>= fun y8 =>
 if y8 = true then
  nilck a0 >>= fun p24 =>
  ld (cI .i64) (Addr.add p24 2) >>= fun x25 =>
  Za0 a0 161 x25 >>= fun r26 =>
  ZaO.K1 a0
 else
  ZaO.K1 a0
theorem Zdt (a0 : (Option Addr)) : Ref Tryz.prog 19 [.pointer a0] (ZaO a0) ZaO.out := by
 refine J.Fn Tryz.func19 ?_
 unfold ZaO
 refine sr 1 <| J.a 0 Ty90 fun b1 => J.z 0 <| seq <| seq <| J.R 17 ZcY <| J.n 1 fun p2 => J.l 1 Ty25 fun x3 => J.j 2 10 .bool ?_ ?_ fun y8 => ?_
 ·exact J.n 1 fun p4 => J.l 1 Ty3 fun x5 => J.n 1 fun p6 => J.l 1 Ty82 fun x7 => J.e 3
 ·exact J.e 11
 refine J.z 0 <| J.f ?_ ?_
 ·exact SJ.rg 6 <| J.n 2 fun p24 => J.l 1 Ty3 fun x25 => J.C 0 F21 (Zbl _ _ _) fun r26 => J.z 0 <| J.q <| ZaO.K1_ok a0 b1
 exact SJ.skip <| J.q <| ZaO.K1_ok a0 b1

noncomputable def Zav.B : Code := bod Tryz.f39
noncomputable def Zav.cx : Fx := ⟨Tryz.prog, 39, Tryz.f39, none⟩
noncomputable def Zav.out (r_ : Int) : Value := .int .i64 r_
noncomputable def Zav.F1 (a0 : Sl) (a1 : ByteArray) : LF Int Int := ⟨[.inBlock 0, .code (c2 (c2 Zav.B))], c1 (c2 (c1 (c2 Zav.B))), fun s_ => [(0, Sl.v a0), (1, .string a1), (7, .int .i64 (a0.len : Int)), (8, .int .i64 s_)], fun s_ => [], (rt Zav.out)⟩
noncomputable def Zav.L1 (a0 : Sl) (a1 : ByteArray) (s1 : Int) : M (LS Int Int) :=
 if s1 < (a0.len : Int) then
  idx a0.a a0.len s1 1 >>= fun p6 =>
  ld cS p6 >>= fun x7 =>
  if a1.toList = x7.toList then
   pure (LS.done s1)
  else
   pure (LS.next (wrap .i64 (s1 + 1)))
 else
  pure (LS.done (-1))
theorem Zav.L1_ok (a0 : Sl) (a1 : ByteArray) : LJ Zav.cx (Zav.F1 a0 a1) (fun s_ => Zav.L1 a0 a1 s_) := by
 rintro s1
 show SJ _ _ _ _ (Zav.L1 a0 a1 s1) _
 unfold Zav.L1
 refine sr 1 <| J.z 1 <| seq <| J.f ?_ ?_
 ·refine SJ.skip <| seq <| block (id := 1) <| sr 2 <| J.z 2 <| sr 6 <| J.i 3 fun p6 => J.l 0 Ty9 fun x7 => J.z 1 <| J.f ?_ ?_
  ·exact sr 2 <| J.z 2 <| J.r
  exact SJ.skip <| inBlock <| SJ.rg 2 <| J.z 2 <| J.o rfl
 exact exit (id := 0) (by rfl) <| sr 1 <| J.z 1 <| J.r
noncomputable def Zav (a0 : Sl) (a1 : ByteArray) : M Int :=
 Zcn (fun s_ : Int => Zav.L1 a0 a1 s_) 0
theorem Zdq (a0 : Sl) (a1 : ByteArray) : Ref Tryz.prog 39 [Sl.v a0, .string a1] (Zav a0 a1) Zav.out := by
 refine J.Fn Tryz.func39 ?_
 unfold Zav
 exact sr 1 <| J.z 1 <| seq <| sr 3 <| J.z 3 <| block (id := 0) <| J.L (Zav.L1_ok a0 a1)

noncomputable def Zbo.out (r_ : Bool) : Value := .bool r_
noncomputable def Zbo (a0 : (Option Addr)) (a1 : ByteArray) : M Bool :=
 draw >>= fun _ =>
 nilck a0 >>= fun p1 =>
 ld (cI .i64) (Addr.add p1 19) >>= fun x2 =>
 (if x2 ≠ 0 then
   pure true
  else
   nilck a0 >>= fun p3 =>
   ld (cI .i64) (Addr.add p3 1) >>= fun x4 =>
   nilck a0 >>= fun p5 =>
   ld cL p5 >>= fun x6 =>
   pure (x4 == (x6.len : Int))) >>= fun y7 =>
 (if y7 = true then
   pure true
  else
   nilck a0 >>= fun p8 =>
   ld cL p8 >>= fun x9 =>
   nilck a0 >>= fun p10 =>
   ld (cI .i64) (Addr.add p10 1) >>= fun x11 =>
   idx x9.a x9.len x11 2 >>= fun p12 =>
   ld cS p12 >>= fun x13 =>
   pure (!(x13.toList == a1.toList))) >>= fun y14 =>
 if y14 = true then
  pure false
 else
  nilck a0 >>= fun p15 =>
  ld (cI .i64) (Addr.add p15 1) >>= fun x16 =>
  nilck a0 >>= fun p17 =>
  st (cI .i64) (Addr.add p17 1) (wrap .i64 (x16 + 1)) >>= fun _ =>
  pure true
theorem Zcy (a0 : (Option Addr)) (a1 : ByteArray) : Ref Tryz.prog 40 [.pointer a0, .string a1] (Zbo a0 a1) Zbo.out := by
 refine J.Fn Tryz.func40 ?_
 unfold Zbo
 refine sr 1 <| J.z 1 <| seq <| seq <| J.R 32 ZcY <| J.n 1 fun p1 => J.l 1 Ty25 fun x2 => J.j 2 10 .bool ?_ ?_ fun y7 => ?_
 ·exact J.e 11
 ·exact J.n 1 fun p3 => J.l 1 Ty3 fun x4 => J.n 1 fun p5 => J.l 1 Ty82 fun x6 => J.e 3
 refine J.j 1 13 .bool ?_ ?_ fun y14 => ?_
 ·exact J.e 14
 ·exact J.n 1 fun p8 => J.l 1 Ty82 fun x9 => J.n 1 fun p10 => J.l 1 Ty3 fun x11 => J.i 0 fun p12 => J.l 1 Ty9 fun x13 => J.e 3
 refine J.z 0 <| J.f ?_ ?_
 ·exact sr 1 <| J.z 1 <| J.r
 exact SJ.skip <| sr 8 <| J.n 1 fun p15 => J.l 1 Ty3 fun x16 => J.n 1 fun p17 => J.w 1 Ty3 <| J.z 0 <| sr 1 <| J.z 1 <| J.r

noncomputable def Zb0.out (r_ : ZaG) : Value := Zbr.val r_
noncomputable def Zb0 (a0 : (Option Addr)) : M ZaG :=
 slot 90 >>= fun b1 =>
 ZaO a0 >>= fun r2 =>
 slot 90 >>= fun b3 =>
 if r2.s.toList = str0.toList then
  Za0 a0 160 r2.at_ >>= fun r5 =>
  pure r2
 else
  pure r2
theorem Zdu (a0 : (Option Addr)) : Ref Tryz.prog 64 [.pointer a0] (Zb0 a0) Zb0.out := by
 refine J.Fn Tryz.func64 ?_
 unfold Zb0
 refine sr 1 <| J.a 0 Ty90 fun b1 => J.z 0 <| sr 4 <| J.C 1 F19 (Zdt _) fun r2 => J.a 0 Ty90 fun b3 => J.s 0 0 rfl Ty90 (Upd.w r2) <| J.z 0 <| seq <| sr 3 <| J.k 1 0 rfl Ty9 (Zbq _) <| J.z 1 <| J.f ?_ ?_
 ·exact SJ.rg 4 <| J.k 2 0 rfl Ty3 (ZbN _) <| J.C 0 F21 (Zbl _ _ _) fun r5 => J.z 0 <| sr 2 <| J.k 0 0 rfl Ty90 (At.whole _) <| J.s 0 1 rfl Ty90 (Upd.w r2) <| J.z 0 <| J.rc (.c 1 rfl Ty90 .n)
 exact SJ.skip <| sr 2 <| J.k 0 0 rfl Ty90 (At.whole _) <| J.s 0 1 rfl Ty90 (Upd.w r2) <| J.z 0 <| J.rc (.c 1 rfl Ty90 .n)

noncomputable def ZbT.out (r_ : Bool) : Value := .bool r_
noncomputable def ZbT (a0 : Int) (a1 : Int) (a2 : Int) : M Bool :=
 (if a0 ≥ a1 then
   pure (decide (a0 ≤ a2))
  else
   pure false) >>= fun y1 =>
 pure y1
theorem Zcj (a0 : Int) (a1 : Int) (a2 : Int) : Ref Tryz.prog 47 [.int .i64 a0, .int .i64 a1, .int .i64 a2] (ZbT a0 a1 a2) ZbT.out := by
 refine J.Fn Tryz.func47 ?_
 unfold ZbT
 refine sr 1 <| J.z 1 <| sr 9 <| J.j 4 3 .bool ?_ ?_ fun y1 => ?_
 ·exact J.e 4
 ·exact J.e 4
 exact J.z 1 <| J.r

noncomputable def Zbg.B : Code := bod Tryz.f65
noncomputable def Zbg.cx : Fx := ⟨Tryz.prog, 65, Tryz.f65, none⟩
noncomputable def Zbg.out (r_ : (Int × Bool)) : Value := .tuple #[.int .i64 r_.1, .bool r_.2]
noncomputable def Zbg.F1 (a0 : ByteArray) (a1 : Int) (a2 : Int) : LF (Int × Int) (Int × Bool) := ⟨[.inBlock 0, .code (c2 (c2 (c2 (c2 Zbg.B))))], c1 (c2 (c1 (c2 (c2 (c2 Zbg.B))))), fun s_ => [(0, .string a0), (1, .int .i64 a1), (2, .int .i64 a2), (8, .int .i64 s_.1), (28, .int .i64 (a0.size : Int)), (29, .int .i64 s_.2)], fun s_ => [], (rt Zbg.out)⟩
noncomputable def Zbg.L1 (a0 : ByteArray) (a1 : Int) (a2 : Int) (s6 : Int) (s7 : Int) : M (LS (Int × Int) (Int × Bool)) :=
 if s7 < (a0.size : Int) then
  chk ((0 : Int) ≤ s7 ∧ s7 < (a0.size : Int)) >>= fun _ =>
  (if (sb a0 s7) < 48 then
    pure true
   else
    chk ((0 : Int) ≤ s7 ∧ s7 < (a0.size : Int)) >>= fun _ =>
    pure (decide ((sb a0 s7) > 57))) >>= fun y22 =>
  if y22 = true then
   pure (LS.done (0, false))
  else
   chk ((0 : Int) ≤ s7 ∧ s7 < (a0.size : Int)) >>= fun _ =>
   pure (LS.next (wrap .i64 ((wrap .i64 (10 * s6)) + (wrap .i64 (wrap .u8 ((sb a0 s7) - 48)))), wrap .i64 (s7 + 1)))
 else
  ZbT s6 a1 a2 >>= fun r26 =>
  pure (LS.done (s6, r26))
theorem Zbg.L1_ok (a0 : ByteArray) (a1 : Int) (a2 : Int) : LJ Zbg.cx (Zbg.F1 a0 a1 a2) (fun s_ => Zbg.L1 a0 a1 a2 s_.1 s_.2) := by
 rintro ⟨s6, s7⟩
 show SJ _ _ _ _ (Zbg.L1 a0 a1 a2 s6 s7) _
 unfold Zbg.L1
 refine sr 1 <| J.z 1 <| seq <| J.f ?_ ?_
 ·refine SJ.skip <| seq <| block (id := 1) <| sr 2 <| J.z 2 <| seq <| sr 10 <| J.t 2 fun hb18 hb19 => J.j 2 4 .bool ?_ ?_ fun y22 => ?_
  ·exact J.e 5
  ·exact J.t 2 fun hb20 hb21 => J.e 2
  refine J.z 0 <| J.f ?_ ?_
  ·exact sr 2 <| J.z 2 <| J.r
  exact SJ.skip <| SJ.rg 9 <| J.t 4 fun hb23 hb24 => J.z 4 <| inBlock <| SJ.rg 2 <| J.z 2 <| J.o rfl
 exact exit (id := 0) (by rfl) <| sr 7 <| J.C 4 F47 (Zcj _ _ _) fun r26 => J.z 2 <| J.r
noncomputable def Zbg (a0 : ByteArray) (a1 : Int) (a2 : Int) : M (Int × Bool) :=
 (if a0.toList = ByteArray.empty.toList then
   pure true
  else
   pure (decide ((a0.size : Int) > 9))) >>= fun y1 =>
 (if y1 = true then
   pure true
  else
   chk ((0 : Int) ≤ 0 ∧ 0 < (a0.size : Int)) >>= fun _ =>
   (if (sb a0 0) = 48 then
     pure (decide ((a0.size : Int) > 1))
    else
     pure false) >>= fun y4 =>
   pure y4) >>= fun y5 =>
 if y5 = true then
  pure (0, false)
 else
  Zcn (fun s_ : (Int × Int) => Zbg.L1 a0 a1 a2 s_.1 s_.2) (0, 0)
theorem Zfs (a0 : ByteArray) (a1 : Int) (a2 : Int) : Ref Tryz.prog 65 [.string a0, .int .i64 a1, .int .i64 a2] (Zbg a0 a1 a2) Zbg.out := by
 refine J.Fn Tryz.func65 ?_
 unfold Zbg
 refine sr 2 <| J.z 2 <| seq <| sr 17 <| J.j 3 3 .bool ?_ ?_ fun y1 => ?_
 ·exact J.e 4
 ·exact J.e 4
 refine J.g 1 <| OJ.join (b := y1) [8, 9, 10, 11, 12, 13, 14, 15, 16] [] [0, 1, 2, 26] (fun y5 => [(0, .string a0), (1, .int .i64 a1), (2, .int .i64 a2), (26, .bool y5)]) [] [] (t := 17) Iff.rfl (fun hp_ => ?_) (fun hp_ => ?_) (fun _ _ _ _ _ _ h_ => h_) fun y5 => ?_
 ·exact J.g 9 <| OJ.nil ⟨(Cov.mem Cov.nil), rfl, _, rfl, by kernel_rfl⟩
 ·refine J.t 1 fun hb2 hb3 => J.g 2 <| OJ.join (b := ((sb a0 0) == 48)) [12, 13, 14, 15] [16] [0, 1, 2, 17, 25] (fun y4 => [(0, .string a0), (1, .int .i64 a1), (2, .int .i64 a2), (17, .bool false), (25, .bool y4)]) [] [] (t := 21) zq (fun hp_ => ?_) (fun hp_ => ?_) (fun _ _ _ _ _ hq_ h_ => ⟨fun e_ he_ => (hq_ e_ he_).elim (fun h => h_.1 e_ h) (fun h => nomatch h), h_.2⟩) fun y4 => ?_
  ·exact J.g 4 <| OJ.nil ⟨(Cov.mem Cov.nil), rfl, _, rfl, by kernel_rfl⟩
  ·exact J.g 4 <| OJ.nil ⟨(Cov.mem Cov.nil), rfl, _, rfl, by kernel_rfl⟩
  exact J.g 1 <| OJ.nil ⟨(Cov.mem Cov.nil), rfl, _, rfl, by kernel_rfl⟩
 refine J.z 0 <| J.f ?_ ?_
 ·exact sr 2 <| J.z 2 <| J.r
 exact SJ.skip <| sr 1 <| J.z 1 <| seq <| sr 3 <| J.z 3 <| block (id := 0) <| J.L (Zbg.L1_ok a0 a1 a2)

noncomputable def ZbU.out (r_ : Int) : Value := .int .i64 r_
noncomputable def ZbU (a0 : (Option Addr)) (a1 : Int) (a2 : Int) : M Int :=
 Zb0 a0 >>= fun r1 =>
 slot 90 >>= fun b2 =>
 Zbg r1.s a1 a2 >>= fun r3 =>
 nilck a0 >>= fun p4 =>
 ld (cI .i64) (Addr.add p4 19) >>= fun x5 =>
 (if x5 = 0 then
   pure (!r3.2)
  else
   pure false) >>= fun y6 =>
 if y6 = true then
  Za0 a0 162 r1.at_ >>= fun r8 =>
  pure r3.1
 else
  pure r3.1
theorem ZdN (a0 : (Option Addr)) (a1 : Int) (a2 : Int) : Ref Tryz.prog 41 [.pointer a0, .int .i64 a1, .int .i64 a2] (ZbU a0 a1 a2) ZbU.out := by
 refine J.Fn Tryz.func41 ?_
 unfold ZbU
 refine sr 1 <| J.z 1 <| sr 4 <| J.C 1 F64 (Zdu _) fun r1 => J.a 0 Ty90 fun b2 => J.s 0 0 rfl Ty90 (Upd.w r1) <| J.z 0 <| sr 10 <| J.k 1 0 rfl Ty9 (Zbq _) <| J.C 2 F65 (Zfs _ _ _) fun r3 => J.z 5 <| seq <| sr 9 <| J.n 1 fun p4 => J.l 1 Ty25 fun x5 => J.j 2 2 .bool ?_ ?_ fun y6 => ?_
 ·exact J.e 3
 ·exact J.e 3
 refine J.z 0 <| J.f ?_ ?_
 ·exact SJ.rg 4 <| J.k 2 0 rfl Ty3 (ZbN _) <| J.C 0 F21 (Zbl _ _ _) fun r8 => J.z 0 <| sr 2 <| J.z 2 <| J.r
 exact SJ.skip <| sr 2 <| J.z 2 <| J.r

noncomputable def ZdR.out (r_ : (Int × Bool)) : Value := .tuple #[.int .i64 r_.1, .bool r_.2]
noncomputable def ZdR (a0 : ByteArray) : M (Int × Bool) :=
 if a0.toList = str1.toList then
  pure (6, true)
 else
  if a0.toList = str2.toList then
   pure (17, true)
  else
   if a0.toList = str3.toList then
    pure (1, true)
   else
    if a0.toList = str4.toList then
     pure (58, true)
    else
     pure (0, false)
theorem ZhZ (a0 : ByteArray) : Ref Tryz.prog 66 [.string a0] (ZdR a0) ZdR.out := by
 refine J.Fn Tryz.func66 ?_
 unfold ZdR
 refine sr 2 <| J.z 2 <| seq <| sr 1 <| J.z 1 <| block (id := 0) <| sr 2 <| J.z 2 <| J.f ?_ ?_
 ·exact sr 2 <| J.z 2 <| J.r
 refine sr 2 <| J.z 2 <| J.f ?_ ?_
 ·exact sr 2 <| J.z 2 <| J.r
 refine sr 2 <| J.z 2 <| J.f ?_ ?_
 ·exact sr 2 <| J.z 2 <| J.r
 refine sr 2 <| J.z 2 <| J.f ?_ ?_
 ·exact sr 2 <| J.z 2 <| J.r
 exact SJ.skip <| inBlock <| sr 2 <| J.z 2 <| J.r

noncomputable def ZdT.out (r_ : Bool) : Value := .bool r_
noncomputable def ZdT (a0 : ZaG) : M Bool :=
 slot 90 >>= fun b1 =>
 ZdR a0.s >>= fun r2 =>
 (if r2.2 = true then
   pure true
  else
   pure (a0.s.toList == str5.toList)) >>= fun y3 =>
 pure y3
theorem Zit (a0 : ZaG) : Ref Tryz.prog 42 [Zbr.val a0] (ZdT a0) ZdT.out := by
 refine J.Fn Tryz.func42 ?_
 unfold ZdT
 refine sr 2 <| J.b 0 Zbr a0 fun b1 => J.z 1 <| sr 8 <| J.k 1 0 rfl Ty9 (Zbq _) <| J.C 0 F66 (ZhZ _) fun r2 => J.z 5 <| sr 7 <| J.j 2 3 .bool ?_ ?_ fun y3 => ?_
 ·exact J.e 4
 ·exact J.k 1 0 rfl Ty9 (Zbq _) <| J.e 2
 exact J.z 1 <| J.r

noncomputable def Zce.out (r_ : Unit) : Value := .tuple #[]
noncomputable def Zce (a0 : (Option Addr)) (a1 : ZaG) : M Unit :=
 slot 90 >>= fun b1 =>
 nilck a0 >>= fun p2 =>
 ld (cI .i64) (Addr.add (Addr.add p2 3) 2) >>= fun x3 =>
 if x3 = 1 then
  Za0 a0 165 a1.at_ >>= fun r5 =>
  pure ()
 else
  ZdR a1.s >>= fun r6 =>
  if ¬ (r6.2 = true) then
   ZbU a0 1 255 >>= fun r8 =>
   nilck a0 >>= fun p9 =>
   st (cI .i64) (Addr.add (Addr.add p9 3) 3) r8 >>= fun _ =>
   pure ()
  else
   nilck a0 >>= fun p10 =>
   st (cI .i64) (Addr.add (Addr.add p10 3) 3) r6.1 >>= fun _ =>
   pure ()
theorem Zf0 (a0 : (Option Addr)) (a1 : ZaG) : Ref Tryz.prog 43 [.pointer a0, Zbr.val a1] (Zce a0 a1) Zce.out := by
 refine J.Fn Tryz.func43 ?_
 unfold Zce
 refine sr 1 <| J.b 0 Zbr a1 fun b1 => J.z 0 <| seq <| sr 6 <| J.n 1 fun p2 => J.l 2 Ty3 fun x3 => J.z 1 <| J.f ?_ ?_
 ·exact sr 4 <| J.k 2 0 rfl Ty3 (ZbN _) <| J.C 0 F21 (Zbl _ _ _) fun r5 => J.z 0 <| J.r
 refine SJ.skip <| sr 8 <| J.k 1 0 rfl Ty9 (Zbq _) <| J.C 0 F66 (ZhZ _) fun r6 => J.z 5 <| seq <| sr 2 <| J.z 2 <| J.f ?_ ?_
 ·exact SJ.rg 3 <| J.C 1 F41 (ZdN _ _ _) fun r8 => J.z 1 <| SJ.rg 6 <| J.n 2 fun p9 => J.w 2 Ty3 <| J.z 0 <| SJ.end_ rfl (Res.run (ys := []) .nil rfl)
 exact SJ.skip <| SJ.rg 6 <| J.n 2 fun p10 => J.w 2 Ty3 <| J.z 0 <| SJ.end_ rfl (Res.run (ys := []) .nil rfl)

noncomputable def ZaA.B : Code := bod Tryz.f18
noncomputable def ZaA.cx : Fx := ⟨Tryz.prog, 18, Tryz.f18, none⟩
noncomputable def ZaA.out (r_ : Unit) : Value := .tuple #[]
noncomputable def ZaA.K1 (a0 : (Option Addr)) : M Unit :=
 ZaO a0 >>= fun r18 =>
 nilck a0 >>= fun p19 =>
 ld (cI .i64) (Addr.add p19 19) >>= fun x20 =>
 (if x20 ≠ 0 then
   pure true
  else
   pure (r18.s.toList == str7.toList)) >>= fun y21 =>
 if y21 = true then
  pure ()
 else
  ld cL ⟨1, 0, none⟩ >>= fun x22 =>
  Zav x22 r18.s >>= fun r23 =>
  nilck a0 >>= fun p24 =>
  st (cI .i64) (Addr.add (Addr.add p24 3) 2) (wrap .i64 (r23 + 1)) >>= fun _ =>
  nilck a0 >>= fun p25 =>
  ld (cI .i64) (Addr.add (Addr.add p25 3) 2) >>= fun x26 =>
  (if x26 = 0 then
    ZdT r18 >>= fun r27 =>
    pure r27
   else
    pure false) >>= fun y28 =>
  if y28 = true then
   Zce a0 r18 >>= fun r75 =>
   pure ()
  else
   nilck a0 >>= fun p76 =>
   ld (cI .i64) (Addr.add (Addr.add p76 3) 2) >>= fun x77 =>
   if x77 = 0 then
    Za0 a0 160 r18.at_ >>= fun r99 =>
    pure ()
   else
    draw >>= fun _ =>
    nilck a0 >>= fun p100 =>
    ld (cI .i64) (Addr.add (Addr.add p100 3) 2) >>= fun x101 =>
    (if x101 > 0 then
      nilck a0 >>= fun p102 =>
      ld (cI .i64) (Addr.add p102 1) >>= fun x103 =>
      nilck a0 >>= fun p104 =>
      ld cL p104 >>= fun x105 =>
      pure (decide (x103 < (x105.len : Int)))
     else
      pure false) >>= fun y106 =>
    (if y106 = true then
      nilck a0 >>= fun p107 =>
      ld cL p107 >>= fun x108 =>
      nilck a0 >>= fun p109 =>
      ld (cI .i64) (Addr.add p109 1) >>= fun x110 =>
      idx x108.a x108.len x110 2 >>= fun p111 =>
      ld Zbr p111 >>= fun x112 =>
      ZdT x112 >>= fun r113 =>
      pure r113
     else
      pure false) >>= fun y114 =>
    if y114 = true then
     ZaO a0 >>= fun r117 =>
     Zce a0 r117 >>= fun r118 =>
     pure ()
    else
     pure ()
theorem ZaA.K1_ok (a0 : (Option Addr)) (r1 : ZaG) (b2 : Nat) :
  SJ ZaA.cx [.code (c2 (c2 (c2 (c2 ZaA.B))))] [(0, .pointer a0), (2, .pointer (some (pt b2 0)))] [(b2, Zbr.enc r1)] (ZaA.K1 a0) (rt ZaA.out) := by
 unfold ZaA.K1
 refine sr 3 <| J.C 1 F19 (Zdt _) fun r18 => J.s 0 0 rfl Ty90 (Upd.w r18) <| J.z 0 <| seq <| sr 10 <| J.n 1 fun p19 => J.l 1 Ty25 fun x20 => J.j 2 3 .bool ?_ ?_ fun y21 => ?_
 ·exact J.e 4
 ·exact J.k 1 0 rfl Ty9 (Zbq _) <| J.e 2
 refine J.z 0 <| J.f ?_ ?_
 ·exact J.r
 refine SJ.skip <| sr 10 <| J.l 1 Ty22 fun x22 => J.k 1 0 rfl Ty9 (Zbq _) <| J.C 0 F39 (Zdq _ _) fun r23 => J.n 1 fun p24 => J.w 2 Ty3 <| J.z 0 <| block (id := 0) <| sr 11 <| J.n 1 fun p25 => J.l 2 Ty3 fun x26 => J.j 2 2 .bool ?_ ?_ fun y28 => ?_
 ·exact J.k 0 0 rfl Ty90 (At.whole _) <| J.C 0 F42 (Zit _) fun r27 => J.e 1
 ·exact J.e 3
 refine J.z 1 <| J.f ?_ ?_
 ·exact SJ.rg 3 <| J.k 1 0 rfl Ty90 (At.whole _) <| J.C 0 F43 (Zf0 _ _) fun r75 => J.z 0 <| inBlock <| SJ.end_ rfl (Res.run (ys := []) .nil rfl)
 refine sr 7 <| J.n 1 fun p76 => J.l 2 Ty3 fun x77 => J.z 2 <| J.f ?_ ?_
 ·exact SJ.rg 4 <| J.k 2 0 rfl Ty3 (ZbN _) <| J.C 0 F21 (Zbl _ _ _) fun r99 => J.z 0 <| inBlock <| SJ.end_ rfl (Res.run (ys := []) .nil rfl)
 refine seq <| J.R 32 ZcY <| J.n 1 fun p100 => J.l 2 Ty3 fun x101 => J.j 2 10 .bool ?_ ?_ fun y106 => ?_
 ·exact J.n 1 fun p102 => J.l 1 Ty3 fun x103 => J.n 1 fun p104 => J.l 1 Ty82 fun x105 => J.e 3
 ·exact J.e 11
 refine J.j 1 11 .bool ?_ ?_ fun y114 => ?_
 ·exact J.n 1 fun p107 => J.l 1 Ty82 fun x108 => J.n 1 fun p109 => J.l 1 Ty3 fun x110 => J.i 0 fun p111 => J.l 0 Ty90 fun x112 => J.C 0 F42 (Zit _) fun r113 => J.e 1
 ·exact J.e 12
 refine J.z 1 <| J.f ?_ ?_
 ·exact SJ.rg 4 <| J.C 2 F19 (Zdt _) fun r117 => J.C 0 F43 (Zf0 _ _) fun r118 => J.z 0 <| inBlock <| SJ.end_ rfl (Res.run (ys := []) .nil rfl)
 exact SJ.skip <| inBlock <| SJ.end_ rfl (Res.run (ys := []) .nil rfl)
noncomputable def ZaA.K2 (a0 : (Option Addr)) : M Unit :=
 nilck a0 >>= fun p12 =>
 ld (cI .i64) (Addr.add p12 3) >>= fun x13 =>
 (if x13 = 1 then
   Zbo a0 str6 >>= fun r14 =>
   pure r14
  else
   pure false) >>= fun y15 =>
 if y15 = true then
  ZbU a0 0 7 >>= fun r123 =>
  nilck a0 >>= fun p124 =>
  st (cI .i64) (Addr.add (Addr.add p124 3) 1) r123 >>= fun _ =>
  ZaA.K1 a0
 else
  ZaA.K1 a0
theorem ZaA.K2_ok (a0 : (Option Addr)) (r1 : ZaG) (b2 : Nat) :
  SJ ZaA.cx [.code (c2 (c2 (c2 ZaA.B)))] [(0, .pointer a0), (2, .pointer (some (pt b2 0)))] [(b2, Zbr.enc r1)] (ZaA.K2 a0) (rt ZaA.out) := by
 unfold ZaA.K2
 refine seq <| sr 10 <| J.n 1 fun p12 => J.l 2 Ty3 fun x13 => J.j 2 2 .bool ?_ ?_ fun y15 => ?_
 ·exact J.C 1 F40 (Zcy _ _) fun r14 => J.e 1
 ·exact J.e 3
 refine J.z 0 <| J.f ?_ ?_
 ·exact SJ.rg 7 <| J.C 2 F41 (ZdN _ _ _) fun r123 => J.n 0 fun p124 => J.w 2 Ty3 <| J.z 0 <| J.q <| ZaA.K1_ok a0 r1 b2
 exact SJ.skip <| J.q <| ZaA.K1_ok a0 r1 b2
noncomputable def ZaA (a0 : (Option Addr)) : M Unit :=
 ZaO a0 >>= fun r1 =>
 slot 90 >>= fun b2 =>
 ld cL ⟨0, 0, none⟩ >>= fun x3 =>
 Zav x3 r1.s >>= fun r4 =>
 nilck a0 >>= fun p5 =>
 st (cI .i64) (Addr.add p5 3) (wrap .i64 (r4 + 1)) >>= fun _ =>
 nilck a0 >>= fun p6 =>
 ld (cI .i64) (Addr.add p6 19) >>= fun x7 =>
 (if x7 = 0 then
   nilck a0 >>= fun p8 =>
   ld (cI .i64) (Addr.add p8 3) >>= fun x9 =>
   pure (x9 == 0)
  else
   pure false) >>= fun y10 =>
 if y10 = true then
  Za0 a0 160 r1.at_ >>= fun r126 =>
  ZaA.K2 a0
 else
  ZaA.K2 a0
theorem Zi8 (a0 : (Option Addr)) : Ref Tryz.prog 18 [.pointer a0] (ZaA a0) ZaA.out := by
 refine J.Fn Tryz.func18 ?_
 unfold ZaA
 refine sr 4 <| J.C 1 F19 (Zdt _) fun r1 => J.a 0 Ty90 fun b2 => J.s 0 0 rfl Ty90 (Upd.w r1) <| J.z 0 <| sr 10 <| J.l 1 Ty22 fun x3 => J.k 1 0 rfl Ty9 (Zbq _) <| J.C 0 F39 (Zdq _ _) fun r4 => J.n 1 fun p5 => J.w 2 Ty3 <| J.z 0 <| seq <| sr 13 <| J.n 1 fun p6 => J.l 1 Ty25 fun x7 => J.j 2 6 .bool ?_ ?_ fun y10 => ?_
 ·exact J.n 1 fun p8 => J.l 2 Ty3 fun x9 => J.e 2
 ·exact J.e 7
 refine J.z 0 <| J.f ?_ ?_
 ·exact SJ.rg 4 <| J.k 2 0 rfl Ty3 (ZbN _) <| J.C 0 F21 (Zbl _ _ _) fun r126 => J.z 0 <| J.q <| ZaA.K2_ok a0 r1 b2
 exact SJ.skip <| J.q <| ZaA.K2_ok a0 r1 b2

noncomputable def Zep.out (r_ : Bool) : Value := .bool r_
noncomputable def Zep (a0 : Int) : M Bool :=
 (if a0 = 1 then
   pure true
  else
   pure (a0 == 58)) >>= fun y1 =>
 pure y1
theorem Zjk (a0 : Int) : Ref Tryz.prog 20 [.int .i64 a0] (Zep a0) Zep.out := by
 refine J.Fn Tryz.func20 ?_
 unfold Zep
 refine sr 1 <| J.z 1 <| sr 7 <| J.j 3 2 .bool ?_ ?_ fun y1 => ?_
 ·exact J.e 3
 ·exact J.e 3
 exact J.z 1 <| J.r

noncomputable def Zb1.out (r_ : Bool) : Value := .bool r_
noncomputable def Zb1 (a0 : ByteArray) (a1 : ByteArray) : M Bool :=
 (if (a0.size : Int) ≥ (a1.size : Int) then
   chk (0 ≤ (0 : Int) ∧ (0 : Int) ≤ (a1.size : Int) ∧ (a1.size : Int) ≤ (a0.size : Int)) >>= fun _ =>
   pure ((ByteArray.extract a0 (Int.toNat 0) (Int.toNat (a1.size : Int))).toList == a1.toList)
  else
   pure false) >>= fun y1 =>
 pure y1
theorem Zfg (a0 : ByteArray) (a1 : ByteArray) : Ref Tryz.prog 114 [.string a0, .string a1] (Zb1 a0 a1) Zb1.out := by
 refine J.Fn Tryz.func114 ?_
 unfold Zb1
 refine sr 1 <| J.z 1 <| sr 14 <| J.j 6 6 .bool ?_ ?_ fun y1 => ?_
 ·exact J.ct 3 <| J.e 3
 ·exact J.e 7
 exact J.z 1 <| J.r

noncomputable def ZcN.out (r_ : (ByteArray × Bool)) : Value := .tuple #[.string r_.1, .bool r_.2]
noncomputable def ZcN (a0 : ByteArray) (a1 : ByteArray) : M (ByteArray × Bool) :=
 Zb1 a0 a1 >>= fun r1 =>
 if ¬ (r1 = true) then
  pure (a0, false)
 else
  chk (0 ≤ ((a1.size : Int) : Int) ∧ ((a1.size : Int) : Int) ≤ (a0.size : Int) ∧ (a0.size : Int) ≤ (a0.size : Int)) >>= fun _ =>
  pure ((ByteArray.extract a0 (Int.toNat (a1.size : Int)) (Int.toNat (a0.size : Int))), true)
theorem Zha (a0 : ByteArray) (a1 : ByteArray) : Ref Tryz.prog 94 [.string a0, .string a1] (ZcN a0 a1) ZcN.out := by
 refine J.Fn Tryz.func94 ?_
 unfold ZcN
 refine sr 2 <| J.z 2 <| seq <| sr 4 <| J.C 2 F114 (Zfg _ _) fun r1 => J.z 1 <| J.f ?_ ?_
 ·exact sr 3 <| J.z 3 <| J.r
 exact SJ.skip <| sr 6 <| J.ct 3 <| J.z 2 <| J.r

noncomputable def Zcp.out (r_ : (ByteArray × Bool)) : Value := .tuple #[.string r_.1, .bool r_.2]
noncomputable def Zcp (a0 : ByteArray) (a1 : ByteArray) : M (ByteArray × Bool) :=
 ZcN a0 a1 >>= fun r1 =>
 pure (r1.1, r1.2)
theorem Zga (a0 : ByteArray) (a1 : ByteArray) : Ref Tryz.prog 67 [.string a0, .string a1] (Zcp a0 a1) Zcp.out := by
 refine J.Fn Tryz.func67 ?_
 unfold Zcp
 exact sr 2 <| J.z 2 <| sr 7 <| J.C 2 F94 (Zha _ _) fun r1 => J.z 4 <| J.r

noncomputable def Zda.out (r_ : Int) : Value := .int .i64 r_
noncomputable def Zda (a0 : (Option Addr)) : M Int :=
 Zb0 a0 >>= fun r1 =>
 slot 90 >>= fun b2 =>
 Zcp r1.s str8 >>= fun r3 =>
 Zbg r3.1 0 7 >>= fun r4 =>
 nilck a0 >>= fun p5 =>
 ld (cI .i64) (Addr.add p5 19) >>= fun x6 =>
 (if x6 = 0 then
   (if ¬ (r3.2 = true) then
     pure true
    else
     pure (!r4.2)) >>= fun y7 =>
   pure y7
  else
   pure false) >>= fun y8 =>
 if y8 = true then
  Za0 a0 162 r1.at_ >>= fun r10 =>
  pure r4.1
 else
  pure r4.1
theorem Zi7 (a0 : (Option Addr)) : Ref Tryz.prog 44 [.pointer a0] (Zda a0) Zda.out := by
 refine J.Fn Tryz.func44 ?_
 unfold Zda
 refine sr 1 <| J.z 1 <| sr 4 <| J.C 1 F64 (Zdu _) fun r1 => J.a 0 Ty90 fun b2 => J.s 0 0 rfl Ty90 (Upd.w r1) <| J.z 0 <| sr 8 <| J.k 1 0 rfl Ty9 (Zbq _) <| J.C 0 F67 (Zga _ _) fun r3 => J.z 5 <| sr 7 <| J.C 1 F65 (Zfs _ _ _) fun r4 => J.z 5 <| seq <| sr 13 <| J.n 1 fun p5 => J.l 1 Ty25 fun x6 => J.g 2 <| OJ.join (b := (x6 == 0)) [6, 7, 8, 9, 10, 11, 12] [] [0, 3, 6, 33] (fun y8 => [(0, .pointer a0), (3, .pointer (some (pt b2 0))), (6, .int .i64 r4.1), (33, .bool y8)]) [] [] (t := 26) zq (fun hp_ => ?_) (fun hp_ => ?_) (fun _ _ _ _ _ _ h_ => h_) fun y8 => ?_
 ·refine J.g 3 <| OJ.join (b := (!r3.2)) [9, 10, 11] [12] [0, 3, 6, 26, 32] (fun y7 => [(0, .pointer a0), (3, .pointer (some (pt b2 0))), (6, .int .i64 r4.1), (26, .bool true), (32, .bool y7)]) [] [] (t := 29) (ZoT Iff.rfl) (fun hp_ => ?_) (fun hp_ => ?_) (fun _ _ _ _ _ hq_ h_ => ⟨fun e_ he_ => (hq_ e_ he_).elim (fun h => h_.1 e_ h) (fun h => nomatch h), h_.2⟩) fun y7 => ?_
  ·exact J.g 3 <| OJ.nil ⟨(Cov.mem Cov.nil), rfl, _, rfl, by kernel_rfl⟩
  ·exact J.g 3 <| OJ.nil ⟨(Cov.mem Cov.nil), rfl, _, rfl, by kernel_rfl⟩
  exact J.g 1 <| OJ.nil ⟨(Cov.mem Cov.nil), rfl, _, rfl, by kernel_rfl⟩
 ·exact J.g 7 <| OJ.nil ⟨(Cov.mem Cov.nil), rfl, _, rfl, by kernel_rfl⟩
 refine J.z 0 <| J.f ?_ ?_
 ·exact SJ.rg 4 <| J.k 2 0 rfl Ty3 (ZbN _) <| J.C 0 F21 (Zbl _ _ _) fun r10 => J.z 0 <| sr 2 <| J.z 2 <| J.r
 exact SJ.skip <| sr 2 <| J.z 2 <| J.r

noncomputable def Zai.B : Code := bod Tryz.f149
noncomputable def Zai.cx : Fx := ⟨Tryz.prog, 149, Tryz.f149, none⟩
noncomputable def Zai.out (r_ : (Int × Int)) : Value := .tuple #[.int .u32 r_.1, .int .u32 r_.2]
noncomputable def Zai.F1 (s1 : Int) : LF (Int × Int × Int) (Int × Int) := ⟨[.inBlock 2, .code (c2 (c2 (c2 (c2 (c2 Zai.B)))))], c1 (c2 (c1 (c2 (c2 (c2 (c2 Zai.B)))))), fun s_ => [(4, .int .u32 s1), (6, .int .u32 s_.1), (7, .int .u32 s_.2.1), (8, .int .i64 s_.2.2)], fun s_ => [], (rt Zai.out)⟩
noncomputable def Zai.L1 (s1 : Int) (s6 : Int) (s7 : Int) (s8 : Int) : M (LS (Int × Int × Int) (Int × Int)) :=
 if s8 > 0 then
  if (band .i64 s8 1) ≠ 0 then
   pure (LS.next (wrap .u32 (s6 * s7), wrap .u32 (s7 * s7), Int.fdiv s8 (2 ^ 1)))
  else
   pure (LS.next (s6, wrap .u32 (s7 * s7), Int.fdiv s8 (2 ^ 1)))
 else
  pure (LS.done (s1, s6))
theorem Zai.L1_ok (s1 : Int) : LJ Zai.cx (Zai.F1 s1) (fun s_ => Zai.L1 s1 s_.1 s_.2.1 s_.2.2) := by
 rintro ⟨s6, s7, s8⟩
 show SJ _ _ _ _ (Zai.L1 s1 s6 s7 s8) _
 unfold Zai.L1
 refine seq <| sr 2 <| J.z 2 <| J.f ?_ ?_
 ·refine SJ.skip <| seq <| block (id := 3) <| seq <| sr 3 <| J.z 3 <| J.f ?_ ?_
  ·exact SJ.rg 4 <| J.z 4 <| SJ.rg 4 <| J.z 4 <| inBlock <| SJ.rg 3 <| J.z 3 <| J.o rfl
  exact SJ.skip <| SJ.rg 4 <| J.z 4 <| inBlock <| SJ.rg 3 <| J.z 3 <| J.o rfl
 exact exit (id := 2) (by rfl) <| sr 4 <| J.z 4 <| J.r
noncomputable def Zai.K1 (a0 : ByteArray) (s1 : Int) : M (Int × Int) :=
 Zcn (fun s_ : (Int × Int × Int) => Zai.L1 s1 s_.1 s_.2.1 s_.2.2) (1, 16777619, (a0.size : Int))
theorem Zai.K1_ok (a0 : ByteArray) (s1 : Int) :
  SJ Zai.cx [.code (c2 (c2 (c2 Zai.B)))] [(0, .string a0), (4, .int .u32 s1)] [] (Zai.K1 a0 s1) (rt Zai.out) := by
 unfold Zai.K1
 exact sr 2 <| J.z 2 <| seq <| sr 3 <| J.z 3 <| block (id := 2) <| J.L (Zai.L1_ok s1)
noncomputable def Zai.F2 (a0 : ByteArray) : LF (Int × Int) (Int × Int) := ⟨[.inBlock 0, .code (c2 (c2 (c2 Zai.B)))], c1 (c2 (c1 (c2 (c2 Zai.B)))), fun s_ => [(0, .string a0), (4, .int .u32 s_.1), (5, .int .i64 s_.2)], fun s_ => [], (rt Zai.out)⟩
noncomputable def Zai.L2 (a0 : ByteArray) (s1 : Int) (s2 : Int) : M (LS (Int × Int) (Int × Int)) :=
 if s2 < (a0.size : Int) then
  chk ((0 : Int) ≤ s2 ∧ s2 < (a0.size : Int)) >>= fun _ =>
  pure (LS.next (wrap .u32 ((wrap .u32 (s1 * 16777619)) + (wrap .u32 (sb a0 s2))), wrap .i64 (s2 + 1)))
 else
  (Zai.K1 a0 s1) >>= fun b => pure (LS.done b)
theorem Zai.L2_ok (a0 : ByteArray) : LJ Zai.cx (Zai.F2 a0) (fun s_ => Zai.L2 a0 s_.1 s_.2) := by
 rintro ⟨s1, s2⟩
 show SJ _ _ _ _ (Zai.L2 a0 s1 s2) _
 unfold Zai.L2
 refine seq <| sr 4 <| J.z 4 <| J.f ?_ ?_
 ·exact SJ.skip <| seq <| block (id := 1) <| SJ.rg 8 <| J.t 4 fun hb13 hb14 => J.z 3 <| inBlock <| SJ.rg 3 <| J.z 3 <| J.o rfl
 exact exit (id := 0) (by rfl) <| J.q <| SJ.done <| Zai.K1_ok a0 s1
noncomputable def Zai (a0 : ByteArray) : M (Int × Int) :=
 Zcn (fun s_ : (Int × Int) => Zai.L2 a0 s_.1 s_.2) (0, 0)
theorem Zg4 (a0 : ByteArray) : Ref Tryz.prog 149 [.string a0] (Zai a0) Zai.out := by
 refine J.Fn Tryz.func149 ?_
 unfold Zai
 exact sr 2 <| J.z 2 <| sr 1 <| J.z 1 <| seq <| sr 1 <| J.z 1 <| block (id := 0) <| J.L (Zai.L2_ok a0)

noncomputable def Zad.B : Code := bod Tryz.f143
noncomputable def Zad.cx : Fx := ⟨Tryz.prog, 143, Tryz.f143, none⟩
noncomputable def Zad.out (r_ : Int) : Value := .int .i64 r_
noncomputable def Zad.F1 (a0 : ByteArray) (a1 : ByteArray) (r1 : (Int × Int)) : LF (Int × Int) Int := ⟨[.inBlock 2, .code (c2 (c2 (c2 (c2 (c2 (c2 (c2 Zad.B)))))))], c1 (c2 (c1 (c2 (c2 (c2 (c2 (c2 (c2 Zad.B)))))))), fun s_ => [(0, .string a0), (1, .string a1), (5, .int .u32 r1.1), (6, .int .u32 r1.2), (7, .int .i64 (a1.size : Int)), (8, .int .u32 s_.1), (10, .int .i64 s_.2)], fun s_ => [], (rt Zad.out)⟩
noncomputable def Zad.L1 (a0 : ByteArray) (a1 : ByteArray) (r1 : (Int × Int)) (s8 : Int) (s9 : Int) : M (LS (Int × Int) Int) :=
 if s9 < (a0.size : Int) then
  chk ((0 : Int) ≤ s9 ∧ s9 < (a0.size : Int)) >>= fun _ =>
  chk ((0 : Int) ≤ (wrap .i64 (s9 - (a1.size : Int))) ∧ (wrap .i64 (s9 - (a1.size : Int))) < (a0.size : Int)) >>= fun _ =>
  (if (wrap .u32 ((wrap .u32 ((wrap .u32 (s8 * 16777619)) + (wrap .u32 (sb a0 s9)))) - (wrap .u32 (r1.2 * (wrap .u32 (sb a0 (wrap .i64 (s9 - (a1.size : Int))))))))) = r1.1 then
    chk (0 ≤ ((wrap .i64 ((wrap .i64 (s9 + 1)) - (a1.size : Int))) : Int) ∧ ((wrap .i64 ((wrap .i64 (s9 + 1)) - (a1.size : Int))) : Int) ≤ (wrap .i64 (s9 + 1)) ∧ (wrap .i64 (s9 + 1)) ≤ (a0.size : Int)) >>= fun _ =>
    pure ((ByteArray.extract a0 (Int.toNat (wrap .i64 ((wrap .i64 (s9 + 1)) - (a1.size : Int)))) (Int.toNat (wrap .i64 (s9 + 1)))).toList == a1.toList)
   else
    pure false) >>= fun y21 =>
  if y21 = true then
   pure (LS.done (wrap .i64 ((wrap .i64 (s9 + 1)) - (a1.size : Int))))
  else
   pure (LS.next (wrap .u32 ((wrap .u32 ((wrap .u32 (s8 * 16777619)) + (wrap .u32 (sb a0 s9)))) - (wrap .u32 (r1.2 * (wrap .u32 (sb a0 (wrap .i64 (s9 - (a1.size : Int)))))))), wrap .i64 (s9 + 1)))
 else
  pure (LS.done (-1))
theorem Zad.L1_ok (a0 : ByteArray) (a1 : ByteArray) (r1 : (Int × Int)) : LJ Zad.cx (Zad.F1 a0 a1 r1) (fun s_ => Zad.L1 a0 a1 r1 s_.1 s_.2) := by
 rintro ⟨s8, s9⟩
 show SJ _ _ _ _ (Zad.L1 a0 a1 r1 s8 s9) _
 unfold Zad.L1
 refine seq <| sr 4 <| J.z 4 <| J.f ?_ ?_
 ·refine SJ.skip <| block (id := 3) <| sr 3 <| J.z 3 <| sr 7 <| J.t 3 fun hb17 hb18 => J.z 3 <| sr 11 <| J.t 6 fun hb19 hb20 => J.z 4 <| sr 3 <| J.z 3 <| sr 13 <| J.j 4 8 .bool ?_ ?_ fun y21 => ?_
  ·exact J.ct 5 <| J.e 3
  ·exact J.e 9
  refine J.z 0 <| J.f ?_ ?_
  ·exact sr 4 <| J.z 4 <| J.r
  exact SJ.skip <| inBlock <| J.o rfl
 exact exit (id := 2) (by rfl) <| sr 1 <| J.z 1 <| J.r
noncomputable def Zad.K1 (a0 : ByteArray) (a1 : ByteArray) (r1 : (Int × Int)) (s2 : Int) : M Int :=
 (if s2 = r1.1 then
   chk (0 ≤ (0 : Int) ∧ (0 : Int) ≤ (a1.size : Int) ∧ (a1.size : Int) ≤ (a0.size : Int)) >>= fun _ =>
   pure ((ByteArray.extract a0 (Int.toNat 0) (Int.toNat (a1.size : Int))).toList == a1.toList)
  else
   pure false) >>= fun y7 =>
 if y7 = true then
  pure 0
 else
  Zcn (fun s_ : (Int × Int) => Zad.L1 a0 a1 r1 s_.1 s_.2) (s2, (a1.size : Int))
theorem Zad.K1_ok (a0 : ByteArray) (a1 : ByteArray) (r1 : (Int × Int)) (s2 : Int) :
  SJ Zad.cx [.code (c2 (c2 (c2 (c2 (c2 Zad.B)))))] [(0, .string a0), (1, .string a1), (5, .int .u32 r1.1), (6, .int .u32 r1.2), (7, .int .i64 (a1.size : Int)), (8, .int .u32 s2)] [] (Zad.K1 a0 a1 r1 s2) (rt Zad.out) := by
 unfold Zad.K1
 refine seq <| sr 10 <| J.j 4 5 .bool ?_ ?_ fun y7 => ?_
 ·exact J.ct 2 <| J.e 3
 ·exact J.e 6
 refine J.z 0 <| J.f ?_ ?_
 ·exact sr 1 <| J.z 1 <| J.r
 exact SJ.skip <| seq <| sr 2 <| J.z 2 <| block (id := 2) <| J.L (Zad.L1_ok a0 a1 r1)
noncomputable def Zad.F2 (a0 : ByteArray) (a1 : ByteArray) (r1 : (Int × Int)) : LF (Int × Int) Int := ⟨[.inBlock 0, .code (c2 (c2 (c2 (c2 (c2 Zad.B)))))], c1 (c2 (c1 (c2 (c2 (c2 (c2 Zad.B)))))), fun s_ => [(0, .string a0), (1, .string a1), (5, .int .u32 r1.1), (6, .int .u32 r1.2), (7, .int .i64 (a1.size : Int)), (8, .int .u32 s_.1), (9, .int .i64 s_.2)], fun s_ => [], (rt Zad.out)⟩
noncomputable def Zad.L2 (a0 : ByteArray) (a1 : ByteArray) (r1 : (Int × Int)) (s2 : Int) (s3 : Int) : M (LS (Int × Int) Int) :=
 if s3 < (a1.size : Int) then
  chk ((0 : Int) ≤ s3 ∧ s3 < (a0.size : Int)) >>= fun _ =>
  pure (LS.next (wrap .u32 ((wrap .u32 (s2 * 16777619)) + (wrap .u32 (sb a0 s3))), wrap .i64 (s3 + 1)))
 else
  (Zad.K1 a0 a1 r1 s2) >>= fun b => pure (LS.done b)
theorem Zad.L2_ok (a0 : ByteArray) (a1 : ByteArray) (r1 : (Int × Int)) : LJ Zad.cx (Zad.F2 a0 a1 r1) (fun s_ => Zad.L2 a0 a1 r1 s_.1 s_.2) := by
 rintro ⟨s2, s3⟩
 show SJ _ _ _ _ (Zad.L2 a0 a1 r1 s2 s3) _
 unfold Zad.L2
 refine seq <| sr 3 <| J.z 3 <| J.f ?_ ?_
 ·exact SJ.skip <| seq <| block (id := 1) <| SJ.rg 8 <| J.t 4 fun hb25 hb26 => J.z 3 <| inBlock <| SJ.rg 3 <| J.z 3 <| J.o rfl
 exact exit (id := 0) (by rfl) <| J.q <| SJ.done <| Zad.K1_ok a0 a1 r1 s2
noncomputable def Zad (a0 : ByteArray) (a1 : ByteArray) : M Int :=
 Zai a1 >>= fun r1 =>
 Zcn (fun s_ : (Int × Int) => Zad.L2 a0 a1 r1 s_.1 s_.2) (0, 0)
theorem ZfM (a0 : ByteArray) (a1 : ByteArray) : Ref Tryz.prog 143 [.string a0, .string a1] (Zad a0 a1) Zad.out := by
 refine J.Fn Tryz.func143 ?_
 unfold Zad
 exact sr 1 <| J.z 1 <| sr 7 <| J.C 1 F149 (Zg4 _) fun r1 => J.z 5 <| sr 3 <| J.z 3 <| sr 1 <| J.z 1 <| seq <| sr 1 <| J.z 1 <| block (id := 0) <| J.L (Zad.L2_ok a0 a1 r1)

noncomputable def ZaD.B : Code := bod Tryz.f133
noncomputable def ZaD.cx : Fx := ⟨Tryz.prog, 133, Tryz.f133, none⟩
noncomputable def ZaD.out (r_ : Int) : Value := .int .i64 r_
noncomputable def ZaD.F1 (a0 : ByteArray) (a1 : ByteArray) : LF (Int × Int) Int := ⟨[.inBlock 1, .code (c2 (c2 (c2 (c2 (c2 (c2 (c2 (c2 (c2 ZaD.B)))))))))], c1 (c1 (c2 (c2 (c2 (c2 (c2 (c2 (c2 (c2 ZaD.B))))))))), fun s_ => [(0, .string a0), (1, .string a1), (5, .int .i64 (a1.size : Int)), (6, .int .u8 (sb a1 0)), (7, .int .u8 (sb a1 1)), (8, .int .i64 s_.1), (9, .int .i64 (wrap .i64 ((wrap .i64 ((a0.size : Int) - (a1.size : Int))) + 1))), (10, .int .i64 s_.2)], fun s_ => [], (rt ZaD.out)⟩
noncomputable def ZaD.K1 (a0 : ByteArray) (a1 : ByteArray) (s46 : Int) (j84 : Int) : M (LS (Int × Int) Int) :=
 chk ((0 : Int) ≤ (wrap .i64 (j84 + 1)) ∧ (wrap .i64 (j84 + 1)) < (a0.size : Int)) >>= fun _ =>
 (if (sb a0 (wrap .i64 (j84 + 1))) = (sb a1 1) then
   chk (0 ≤ (j84 : Int) ∧ (j84 : Int) ≤ (wrap .i64 (j84 + (a1.size : Int))) ∧ (wrap .i64 (j84 + (a1.size : Int))) ≤ (a0.size : Int)) >>= fun _ =>
   pure ((ByteArray.extract a0 (Int.toNat j84) (Int.toNat (wrap .i64 (j84 + (a1.size : Int))))).toList == a1.toList)
  else
   pure false) >>= fun y87 =>
 if y87 = true then
  pure (LS.done j84)
 else
  ld (cI .i64) ⟨5, 0, none⟩ >>= fun x88 =>
  (if (a1.size : Int) ≤ x88 then
    ZeQ (wrap .i64 (j84 + 1)) >>= fun r89 =>
    pure (decide ((wrap .i64 (s46 + 1)) > r89))
   else
    pure false) >>= fun y90 =>
  if y90 = true then
   chk (0 ≤ ((wrap .i64 (j84 + 1)) : Int) ∧ ((wrap .i64 (j84 + 1)) : Int) ≤ (a0.size : Int) ∧ (a0.size : Int) ≤ (a0.size : Int)) >>= fun _ =>
   fail
  else
   ld (cI .i64) ⟨5, 0, none⟩ >>= fun x99 =>
   (if (a1.size : Int) > x99 then
     pure (decide ((wrap .i64 (s46 + 1)) ≥ (wrap .i64 (4 + (Int.fdiv (wrap .i64 (j84 + 1)) (2 ^ 4))))))
    else
     pure false) >>= fun y100 =>
   (if y100 = true then
     pure (decide ((wrap .i64 (j84 + 1)) < (wrap .i64 ((wrap .i64 ((a0.size : Int) - (a1.size : Int))) + 1))))
    else
     pure false) >>= fun y101 =>
   if y101 = true then
    chk (0 ≤ ((wrap .i64 (j84 + 1)) : Int) ∧ ((wrap .i64 (j84 + 1)) : Int) ≤ (a0.size : Int) ∧ (a0.size : Int) ≤ (a0.size : Int)) >>= fun _ =>
    Zad (ByteArray.extract a0 (Int.toNat (wrap .i64 (j84 + 1))) (Int.toNat (a0.size : Int))) a1 >>= fun r104 =>
    if r104 < 0 then
     pure (LS.done (-1))
    else
     pure (LS.done (wrap .i64 ((wrap .i64 (j84 + 1)) + r104)))
   else
    pure (LS.next (wrap .i64 (j84 + 1), wrap .i64 (s46 + 1)))
theorem ZaD.K1_ok (a0 : ByteArray) (a1 : ByteArray) (s46 : Int) (j84 : Int) :
  SJ ZaD.cx [.code (c2 (c1 (c2 (c1 (c1 (c1 (c2 (c2 (c2 (c2 (c2 (c2 (c2 (c2 ZaD.B)))))))))))))), .inBlock 2, .inLoop (c1 (c1 (c1 (c2 (c2 (c2 (c2 (c2 (c2 (c2 (c2 ZaD.B))))))))))), .inBlock 1, .code (c2 (c2 (c2 (c2 (c2 (c2 (c2 (c2 (c2 ZaD.B)))))))))] [(0, .string a0), (1, .string a1), (5, .int .i64 (a1.size : Int)), (6, .int .u8 (sb a1 0)), (7, .int .u8 (sb a1 1)), (8, .int .i64 j84), (9, .int .i64 (wrap .i64 ((wrap .i64 ((a0.size : Int) - (a1.size : Int))) + 1))), (10, .int .i64 s46)] [] (ZaD.K1 a0 a1 s46 j84) (ZaD.F1 a0 a1).f := by
 unfold ZaD.K1
 refine seq <| sr 16 <| J.t 3 fun hb85 hb86 => J.j 3 8 .bool ?_ ?_ fun y87 => ?_
 ·exact J.ct 5 <| J.e 3
 ·exact J.e 9
 refine J.z 0 <| J.f ?_ ?_
 ·exact sr 2 <| J.z 2 <| J.r
 refine SJ.skip <| sr 3 <| J.z 3 <| sr 3 <| J.z 3 <| sr 9 <| J.l 1 Ty3 fun x88 => J.j 2 4 .bool ?_ ?_ fun y90 => ?_
 ·exact J.C 2 F109 (Zkq _) fun r89 => J.e 2
 ·exact J.e 5
 refine J.z 0 <| J.f ?_ ?_
 ·exact sr 6 <| J.ct 2 <| J.g 1 <| OJ.fail
 refine sr 15 <| J.l 1 Ty3 fun x99 => J.j 2 5 .bool ?_ ?_ fun y100 => ?_
 ·exact J.e 6
 ·exact J.e 6
 refine J.j 1 3 .bool ?_ ?_ fun y101 => ?_
 ·exact J.e 4
 ·exact J.e 4
 refine J.z 0 <| J.f ?_ ?_
 ·refine sr 6 <| J.ct 2 <| J.C 1 F143 (ZfM _ _) fun r104 => J.z 1 <| seq <| sr 2 <| J.z 2 <| J.f ?_ ?_
  ·exact sr 1 <| J.z 1 <| J.r
  exact SJ.skip <| sr 4 <| J.z 4 <| J.r
 exact SJ.skip <| inBlock <| J.o rfl
noncomputable def ZaD.L1 (a0 : ByteArray) (a1 : ByteArray) (s45 : Int) (s46 : Int) : M (LS (Int × Int) Int) :=
 if s45 < (wrap .i64 ((wrap .i64 ((a0.size : Int) - (a1.size : Int))) + 1)) then
  chk ((0 : Int) ≤ s45 ∧ s45 < (a0.size : Int)) >>= fun _ =>
  if (sb a0 s45) ≠ (sb a1 0) then
   chk (0 ≤ ((wrap .i64 (s45 + 1)) : Int) ∧ ((wrap .i64 (s45 + 1)) : Int) ≤ (wrap .i64 ((wrap .i64 ((a0.size : Int) - (a1.size : Int))) + 1)) ∧ (wrap .i64 ((wrap .i64 ((a0.size : Int) - (a1.size : Int))) + 1)) ≤ (a0.size : Int)) >>= fun _ =>
   Zci (ByteArray.extract a0 (Int.toNat (wrap .i64 (s45 + 1))) (Int.toNat (wrap .i64 ((wrap .i64 ((a0.size : Int) - (a1.size : Int))) + 1)))) (sb a1 0) >>= fun r109 =>
   if r109 < 0 then
    pure (LS.done (-1))
   else
    ZaD.K1 a0 a1 s46 (wrap .i64 (s45 + (wrap .i64 (r109 + 1))))
  else
   ZaD.K1 a0 a1 s46 s45
 else
  pure (LS.done (-1))
theorem ZaD.L1_ok (a0 : ByteArray) (a1 : ByteArray) : LJ ZaD.cx (ZaD.F1 a0 a1) (fun s_ => ZaD.L1 a0 a1 s_.1 s_.2) := by
 rintro ⟨s45, s46⟩
 show SJ _ _ _ _ (ZaD.L1 a0 a1 s45 s46) _
 unfold ZaD.L1
 refine seq <| sr 3 <| J.z 3 <| J.f ?_ ?_
 ·refine SJ.skip <| block (id := 2) <| seq <| sr 5 <| J.t 2 fun hb80 hb81 => J.z 2 <| J.f ?_ ?_
  ·refine sr 8 <| J.ct 4 <| J.C 1 F126 (Zff _ _) fun r109 => J.z 1 <| seq <| sr 2 <| J.z 2 <| J.f ?_ ?_
   ·exact sr 1 <| J.z 1 <| J.r
   exact SJ.skip <| SJ.rg 5 <| J.z 5 <| J.q <| ZaD.K1_ok a0 a1 s46 (wrap .i64 (s45 + (wrap .i64 (r109 + 1))))
  exact SJ.skip <| J.q <| ZaD.K1_ok a0 a1 s46 s45
 exact exit (id := 1) (by rfl) <| sr 1 <| J.z 1 <| J.r
noncomputable def ZaD (a0 : ByteArray) (a1 : ByteArray) : M Int :=
 (if (a1.size : Int) = 0 then
   pure true
  else
   pure (a1.toList == a0.toList)) >>= fun y1 =>
 if y1 = true then
  pure 0
 else
  if (a1.size : Int) = 1 then
   chk ((0 : Int) ≤ 0 ∧ 0 < (a1.size : Int)) >>= fun _ =>
   Zci a0 (sb a1 0) >>= fun r35 =>
   pure r35
  else
   if (a1.size : Int) ≥ (a0.size : Int) then
    pure (-1)
   else
    ld (cI .i64) ⟨5, 0, none⟩ >>= fun x39 =>
    (if (a1.size : Int) ≤ x39 then
      pure (decide ((a0.size : Int) ≤ 64))
     else
      pure false) >>= fun y40 =>
    if y40 = true then
     fail
    else
     chk ((0 : Int) ≤ 0 ∧ 0 < (a1.size : Int)) >>= fun _ =>
     chk ((0 : Int) ≤ 1 ∧ 1 < (a1.size : Int)) >>= fun _ =>
     Zcn (fun s_ : (Int × Int) => ZaD.L1 a0 a1 s_.1 s_.2) (0, 0)
theorem Zf9 (a0 : ByteArray) (a1 : ByteArray) : Ref Tryz.prog 133 [.string a0, .string a1] (ZaD a0 a1) ZaD.out := by
 refine J.Fn Tryz.func133 ?_
 unfold ZaD
 refine sr 1 <| J.z 1 <| sr 3 <| J.z 3 <| seq <| block (id := 0) <| sr 8 <| J.j 3 3 .bool ?_ ?_ fun y1 => ?_
 ·exact J.e 4
 ·exact J.e 4
 refine J.z 1 <| J.f ?_ ?_
 ·exact sr 1 <| J.z 1 <| J.r
 refine sr 3 <| J.z 3 <| J.f ?_ ?_
 ·exact sr 5 <| J.t 2 fun hb33 hb34 => J.C 0 F126 (Zff _ _) fun r35 => J.z 1 <| J.r
 refine sr 5 <| J.z 5 <| J.f ?_ ?_
 ·exact sr 1 <| J.z 1 <| J.r
 refine sr 9 <| J.l 1 Ty3 fun x39 => J.j 2 3 .bool ?_ ?_ fun y40 => ?_
 ·exact J.e 4
 ·exact J.e 4
 refine J.z 1 <| J.f ?_ ?_
 ·exact sr 4 <| J.g 2 <| OJ.fail
 exact SJ.skip <| inBlock <| sr 3 <| J.t 1 fun hb41 hb42 => J.z 1 <| sr 3 <| J.t 1 fun hb43 hb44 => J.z 1 <| sr 1 <| J.z 1 <| sr 6 <| J.z 6 <| sr 1 <| J.z 1 <| seq <| block (id := 1) <| J.L (ZaD.L1_ok a0 a1)

noncomputable def ZdD.out (r_ : (ByteArray × ByteArray × Bool)) : Value := .tuple #[.string r_.1, .string r_.2.1, .bool r_.2.2]
noncomputable def ZdD (a0 : ByteArray) (a1 : ByteArray) : M (ByteArray × ByteArray × Bool) :=
 ZaD a0 a1 >>= fun r1 =>
 if r1 ≥ 0 then
  draw >>= fun _ =>
  chk (0 ≤ (0 : Int) ∧ (0 : Int) ≤ r1 ∧ r1 ≤ (a0.size : Int)) >>= fun _ =>
  chk (0 ≤ ((wrap .i64 (r1 + (a1.size : Int))) : Int) ∧ ((wrap .i64 (r1 + (a1.size : Int))) : Int) ≤ (a0.size : Int) ∧ (a0.size : Int) ≤ (a0.size : Int)) >>= fun _ =>
  pure ((ByteArray.extract a0 (Int.toNat 0) (Int.toNat r1)), (ByteArray.extract a0 (Int.toNat (wrap .i64 (r1 + (a1.size : Int)))) (Int.toNat (a0.size : Int))), true)
 else
  pure (a0, ByteArray.empty, false)
theorem Zj1 (a0 : ByteArray) (a1 : ByteArray) : Ref Tryz.prog 118 [.string a0, .string a1] (ZdD a0 a1) ZdD.out := by
 refine J.Fn Tryz.func118 ?_
 unfold ZdD
 refine sr 3 <| J.z 3 <| seq <| sr 4 <| J.C 2 F133 (Zf9 _ _) fun r1 => J.z 1 <| sr 2 <| J.z 2 <| J.f ?_ ?_
 ·exact seq <| J.R 12 ZcY <| J.ct 2 <| J.ct 5 <| J.z 3 <| J.r
 exact SJ.skip <| sr 4 <| J.z 4 <| J.r

noncomputable def ZdE.out (r_ : (ByteArray × ByteArray × Bool)) : Value := .tuple #[.string r_.1, .string r_.2.1, .bool r_.2.2]
noncomputable def ZdE (a0 : ByteArray) (a1 : ByteArray) : M (ByteArray × ByteArray × Bool) :=
 ZdD a0 a1 >>= fun r1 =>
 pure (r1.1, r1.2.1, r1.2.2)
theorem Zjh (a0 : ByteArray) (a1 : ByteArray) : Ref Tryz.prog 97 [.string a0, .string a1] (ZdE a0 a1) ZdE.out := by
 refine J.Fn Tryz.func97 ?_
 unfold ZdE
 exact sr 3 <| J.z 3 <| sr 9 <| J.C 2 F118 (Zj1 _ _) fun r1 => J.z 6 <| J.r

noncomputable def ZeT.out (r_ : Int) : Value := .int .i64 r_
noncomputable def ZeT (a0 : ByteArray) (a1 : ByteArray) : M Int :=
 ZaD a0 a1 >>= fun r1 =>
 pure r1
theorem Zlw (a0 : ByteArray) (a1 : ByteArray) : Ref Tryz.prog 140 [.string a0, .string a1] (ZeT a0 a1) ZeT.out := by
 refine J.Fn Tryz.func140 ?_
 unfold ZeT
 exact sr 1 <| J.z 1 <| sr 4 <| J.C 2 F133 (Zf9 _ _) fun r1 => J.z 1 <| J.r

noncomputable def Zdp.out (r_ : Bool) : Value := .bool r_
noncomputable def Zdp (a0 : ByteArray) (a1 : ByteArray) : M Bool :=
 ZeT a0 a1 >>= fun r1 =>
 pure (decide (r1 ≥ 0))
theorem Zjy (a0 : ByteArray) (a1 : ByteArray) : Ref Tryz.prog 127 [.string a0, .string a1] (Zdp a0 a1) Zdp.out := by
 refine J.Fn Tryz.func127 ?_
 unfold Zdp
 exact sr 1 <| J.z 1 <| sr 5 <| J.C 2 F140 (Zlw _ _) fun r1 => J.z 2 <| J.r

noncomputable def Zd0.out (r_ : (Option Addr)) : Value := .pointer r_
noncomputable def Zd0 (a0 : ByteArray) (a1 : Int) : M (Option Addr) :=
 if a1 = (a0.size : Int) then
  newv 227 Zby (⟨42, a1⟩ : ZbW) >>= fun b2 =>
  pure (some (pt b2 0))
 else
  newv 227 Zby (⟨41, a1⟩ : ZbW) >>= fun b3 =>
  pure (some (pt b3 0))
theorem Zgz (a0 : ByteArray) (a1 : Int) : Ref Tryz.prog 132 [.string a0, .int .i64 a1] (Zd0 a0 a1) Zd0.out := by
 refine J.Fn Tryz.func132 ?_
 unfold Zd0
 refine sr 1 <| J.z 1 <| seq <| sr 4 <| J.z 4 <| J.f ?_ ?_
 ·exact sr 4 <| J.u 1 ZkA (.f 0 (ZbA _ 42) (.f 1 (ZbB _ a1) .nil)) <| J.B 0 fun b2 => J.z 1 <| J.r
 exact SJ.skip <| sr 4 <| J.u 1 ZkA (.f 0 (ZbA _ 41) (.f 1 (ZbB _ a1) .nil)) <| J.B 0 fun b3 => J.z 1 <| J.r

noncomputable def Zfk.out (r_ : Bool) : Value := .bool r_
noncomputable def Zfk (a0 : Int) : M Bool :=
 (if a0 ≥ 48 then
   pure (decide (a0 ≤ 57))
  else
   pure false) >>= fun y1 =>
 pure y1
theorem Zkt (a0 : Int) : Ref Tryz.prog 131 [.int .u8 a0] (Zfk a0) Zfk.out := by
 refine J.Fn Tryz.func131 ?_
 unfold Zfk
 refine sr 1 <| J.z 1 <| sr 7 <| J.j 3 2 .bool ?_ ?_ fun y1 => ?_
 ·exact J.e 3
 ·exact J.e 3
 exact J.z 1 <| J.r

noncomputable def ZaT.B : Code := bod Tryz.f116
noncomputable def ZaT.cx : Fx := ⟨Tryz.prog, 116, Tryz.f116, none⟩
noncomputable def ZaT.out (r_ : (Int × Int × (Option Addr))) : Value := .tuple #[.int .i64 r_.1, .int .i64 r_.2.1, .pointer r_.2.2]
noncomputable def ZaT.F1 (a0 : ByteArray) (a1 : Int) (a2 : Int) (a3 : Int) (s1 : Int) : LF (Int × Int) (Int × Int × (Option Addr)) := ⟨[.inBlock 2, .code (c2 (c2 (c2 (c2 (c2 (c2 (c2 ZaT.B)))))))], c1 (c2 (c1 (c2 (c2 (c2 (c2 (c2 (c2 ZaT.B)))))))), fun s_ => [(0, .string a0), (1, .int .i64 a1), (2, .int .i64 a2), (3, .int .i64 a3), (11, .int .i64 s1), (12, .int .i64 s_.1), (13, .int .i64 s_.2)], fun s_ => [], (rt ZaT.out)⟩
noncomputable def ZaT.L1 (a0 : ByteArray) (a1 : Int) (a2 : Int) (a3 : Int) (s1 : Int) (s15 : Int) (s16 : Int) : M (LS (Int × Int) (Int × Int × (Option Addr))) :=
 if s16 < s1 then
  chk ((0 : Int) ≤ s16 ∧ s16 < (a0.size : Int)) >>= fun _ =>
  pure (LS.next (wrap .i64 ((wrap .i64 (10 * s15)) + (wrap .i64 (wrap .u8 ((sb a0 s16) - 48)))), wrap .i64 (s16 + 1)))
 else
  if s15 > a2 then
   newv 227 Zby (⟨a3, a1⟩ : ZbW) >>= fun b26 =>
   pure (LS.done (0, 0, (some (pt b26 0))))
  else
   pure (LS.done (s15, s1, none))
theorem ZaT.L1_ok (a0 : ByteArray) (a1 : Int) (a2 : Int) (a3 : Int) (s1 : Int) : LJ ZaT.cx (ZaT.F1 a0 a1 a2 a3 s1) (fun s_ => ZaT.L1 a0 a1 a2 a3 s1 s_.1 s_.2) := by
 rintro ⟨s15, s16⟩
 show SJ _ _ _ _ (ZaT.L1 a0 a1 a2 a3 s1 s15 s16) _
 unfold ZaT.L1
 refine seq <| sr 3 <| J.z 3 <| J.f ?_ ?_
 ·exact SJ.skip <| seq <| block (id := 3) <| SJ.rg 9 <| J.t 4 fun hb23 hb24 => J.z 4 <| inBlock <| SJ.rg 3 <| J.z 3 <| J.o rfl
 refine exit (id := 2) (by rfl) <| seq <| sr 3 <| J.z 3 <| J.f ?_ ?_
 ·exact sr 7 <| J.u 2 ZkA (.f 0 (ZbA _ a3) (.f 1 (ZbB _ a1) .nil)) <| J.B 0 fun b26 => J.z 3 <| J.r
 exact SJ.skip <| sr 5 <| J.z 5 <| J.r
noncomputable def ZaT.K1 (a0 : ByteArray) (a1 : Int) (a2 : Int) (a3 : Int) (s1 : Int) : M (Int × Int × (Option Addr)) :=
 if s1 = a1 then
  Zd0 a0 a1 >>= fun r8 =>
  pure (0, 0, r8)
 else
  (if (wrap .i64 (s1 - a1)) > 3 then
    pure true
   else
    (if (wrap .i64 (s1 - a1)) > 1 then
      chk ((0 : Int) ≤ a1 ∧ a1 < (a0.size : Int)) >>= fun _ =>
      pure ((sb a0 a1) == 48)
     else
      pure false) >>= fun y11 =>
    pure y11) >>= fun y12 =>
  if y12 = true then
   newv 227 Zby (⟨a3, a1⟩ : ZbW) >>= fun b14 =>
   pure (0, 0, (some (pt b14 0)))
  else
   Zcn (fun s_ : (Int × Int) => ZaT.L1 a0 a1 a2 a3 s1 s_.1 s_.2) (0, a1)
theorem ZaT.K1_ok (a0 : ByteArray) (a1 : Int) (a2 : Int) (a3 : Int) (s1 : Int) :
  SJ ZaT.cx [.code (c2 (c2 (c2 ZaT.B)))] [(0, .string a0), (1, .int .i64 a1), (2, .int .i64 a2), (3, .int .i64 a3), (11, .int .i64 s1)] [] (ZaT.K1 a0 a1 a2 a3 s1) (rt ZaT.out) := by
 unfold ZaT.K1
 refine seq <| sr 3 <| J.z 3 <| J.f ?_ ?_
 ·exact sr 6 <| J.C 2 F132 (Zgz _ _) fun r8 => J.z 3 <| J.r
 refine SJ.skip <| seq <| sr 16 <| J.g 5 <| OJ.join (b := decide ((wrap .i64 (s1 - a1)) > 3)) [5, 6, 7, 8, 9, 10, 11, 12, 13, 14, 15] [] [0, 1, 2, 3, 11, 48] (fun y12 => [(0, .string a0), (1, .int .i64 a1), (2, .int .i64 a2), (3, .int .i64 a3), (11, .int .i64 s1), (48, .bool y12)]) [] [] (t := 37) ze (fun hp_ => ?_) (fun hp_ => ?_) (fun _ _ _ _ _ _ h_ => h_) fun y12 => ?_
 ·exact J.g 11 <| OJ.nil ⟨(Cov.mem Cov.nil), rfl, _, rfl, by kernel_rfl⟩
 ·refine J.g 5 <| OJ.join (b := decide ((wrap .i64 (s1 - a1)) > 1)) [10, 11, 12, 13, 14] [15] [0, 1, 2, 3, 11, 37, 47] (fun y11 => [(0, .string a0), (1, .int .i64 a1), (2, .int .i64 a2), (3, .int .i64 a3), (11, .int .i64 s1), (37, .bool false), (47, .bool y11)]) [] [] (t := 42) ze (fun hp_ => ?_) (fun hp_ => ?_) (fun _ _ _ _ _ hq_ h_ => ⟨fun e_ he_ => (hq_ e_ he_).elim (fun h => h_.1 e_ h) (fun h => nomatch h), h_.2⟩) fun y11 => ?_
  ·exact J.t 2 fun hb9 hb10 => J.g 2 <| OJ.nil ⟨(Cov.mem Cov.nil), rfl, _, rfl, by kernel_rfl⟩
  ·exact J.g 5 <| OJ.nil ⟨(Cov.mem Cov.nil), rfl, _, rfl, by kernel_rfl⟩
  exact J.g 1 <| OJ.nil ⟨(Cov.mem Cov.nil), rfl, _, rfl, by kernel_rfl⟩
 refine J.z 0 <| J.f ?_ ?_
 ·exact sr 7 <| J.u 2 ZkA (.f 0 (ZbA _ a3) (.f 1 (ZbB _ a1) .nil)) <| J.B 0 fun b14 => J.z 3 <| J.r
 exact SJ.skip <| sr 1 <| J.z 1 <| seq <| sr 2 <| J.z 2 <| block (id := 2) <| J.L (ZaT.L1_ok a0 a1 a2 a3 s1)
noncomputable def ZaT.F2 (a0 : ByteArray) (a1 : Int) (a2 : Int) (a3 : Int) : LF Int (Int × Int × (Option Addr)) := ⟨[.inBlock 0, .code (c2 (c2 (c2 ZaT.B)))], c1 (c1 (c2 (c2 ZaT.B))), fun s_ => [(0, .string a0), (1, .int .i64 a1), (2, .int .i64 a2), (3, .int .i64 a3), (11, .int .i64 s_)], fun s_ => [], (rt ZaT.out)⟩
noncomputable def ZaT.L2 (a0 : ByteArray) (a1 : Int) (a2 : Int) (a3 : Int) (s1 : Int) : M (LS Int (Int × Int × (Option Addr))) :=
 (if s1 < (a0.size : Int) then
   chk ((0 : Int) ≤ s1 ∧ s1 < (a0.size : Int)) >>= fun _ =>
   Zfk (sb a0 s1) >>= fun r33 =>
   pure r33
  else
   pure false) >>= fun y34 =>
 if y34 = true then
  pure (LS.next (wrap .i64 (s1 + 1)))
 else
  (ZaT.K1 a0 a1 a2 a3 s1) >>= fun b => pure (LS.done b)
theorem ZaT.L2_ok (a0 : ByteArray) (a1 : Int) (a2 : Int) (a3 : Int) : LJ ZaT.cx (ZaT.F2 a0 a1 a2 a3) (fun s_ => ZaT.L2 a0 a1 a2 a3 s_) := by
 rintro s1
 show SJ _ _ _ _ (ZaT.L2 a0 a1 a2 a3 s1) _
 unfold ZaT.L2
 refine seq <| sr 10 <| J.j 5 4 .bool ?_ ?_ fun y34 => ?_
 ·exact J.t 2 fun hb31 hb32 => J.C 0 F131 (Zkt _) fun r33 => J.e 1
 ·exact J.e 5
 refine J.z 0 <| J.f ?_ ?_
 ·exact SJ.skip <| block (id := 1) <| SJ.rg 3 <| J.z 3 <| inBlock <| J.o rfl
 exact exit (id := 0) (by rfl) <| J.q <| SJ.done <| ZaT.K1_ok a0 a1 a2 a3 s1
noncomputable def ZaT (a0 : ByteArray) (a1 : Int) (a2 : Int) (a3 : Int) : M (Int × Int × (Option Addr)) :=
 Zcn (fun s_ : Int => ZaT.L2 a0 a1 a2 a3 s_) a1
theorem Zjp (a0 : ByteArray) (a1 : Int) (a2 : Int) (a3 : Int) : Ref Tryz.prog 116 [.string a0, .int .i64 a1, .int .i64 a2, .int .i64 a3] (ZaT a0 a1 a2 a3) ZaT.out := by
 refine J.Fn Tryz.func116 ?_
 unfold ZaT
 exact sr 3 <| J.z 3 <| sr 2 <| J.z 2 <| seq <| block (id := 0) <| J.L (ZaT.L2_ok a0 a1 a2 a3)

noncomputable def Zbb.B : Code := bod Tryz.f128
noncomputable def Zbb.cx : Fx := ⟨Tryz.prog, 128, Tryz.f128, none⟩
noncomputable def Zbb.out (r_ : ((Vec Int 4) × (Option Addr))) : Value := .tuple #[((cI .u8).arr 4).val r_.1, .pointer r_.2]
noncomputable def Zbb.K1 (a0 : ByteArray) (s3 : Int) (s5 : (Vec Int 4)) : M ((Vec Int 4) × (Option Addr)) :=
 if s3 < (a0.size : Int) then
  newv 227 Zby (⟨41, s3⟩ : ZbW) >>= fun b27 =>
  pure (s5, (some (pt b27 0)))
 else
  pure (s5, none)
theorem Zbb.K1_ok (a0 : ByteArray) (b1 : Nat) (b2 : Nat) (s3 : Int) (s5 : (Vec Int 4)) (s6 : (Vec Int 4)) :
  SJ Zbb.cx [.code (c2 (c2 (c2 Zbb.B)))] [(0, .string a0), (1, .int .i64 s3), (4, .pointer (some (pt b1 0))), (6, .pointer (some (pt b2 0)))] [(b2, ((cI .u8).arr 4).enc s5), (b1, ((cI .u8).arr 4).enc s6)] (Zbb.K1 a0 s3 s5) (rt Zbb.out) := by
 unfold Zbb.K1
 refine seq <| sr 4 <| J.z 4 <| J.f ?_ ?_
 ·exact sr 6 <| J.k 0 0 rfl ZhU (At.whole _) <| J.u 1 ZkA (.f 0 (ZbA _ 41) (.f 1 (ZbB _ s3) .nil)) <| J.B 0 fun b27 => J.s 0 1 rfl ZhU (Upd.w s5) <| J.z 1 <| J.rc (.c 1 rfl ZhU .n)
 exact SJ.skip <| sr 3 <| J.k 0 0 rfl ZhU (At.whole _) <| J.s 0 1 rfl ZhU (Upd.w s5) <| J.z 1 <| J.rc (.c 1 rfl ZhU .n)
noncomputable def Zbb.F1 (a0 : ByteArray) (b1 : Nat) (b2 : Nat) : LF (Int × Int × (Vec Int 4) × (Vec Int 4)) ((Vec Int 4) × (Option Addr)) := ⟨[.inBlock 0, .code (c2 (c2 (c2 Zbb.B)))], c1 (c2 (c1 (c2 (c2 Zbb.B)))), fun s_ => [(0, .string a0), (1, .int .i64 s_.1), (4, .pointer (some (pt b1 0))), (6, .pointer (some (pt b2 0))), (11, .int .i64 s_.2.1)], fun s_ => [(b2, ((cI .u8).arr 4).enc s_.2.2.1), (b1, ((cI .u8).arr 4).enc s_.2.2.2)], (rt Zbb.out)⟩
noncomputable def Zbb.K2 (a0 : ByteArray) (s4 : Int) (s5 : (Vec Int 4)) (s6 : (Vec Int 4)) (j35 : Int) : M (LS (Int × Int × (Vec Int 4) × (Vec Int 4)) ((Vec Int 4) × (Option Addr))) :=
 ZaT a0 j35 255 43 >>= fun r36 =>
 if ¬ (r36.2.2 = none) then
  pure (LS.done (s5, r36.2.2))
 else
  chk ((0 : Int) ≤ s4 ∧ s4 < (4 : Nat)) >>= fun _ =>
  pure (LS.next (r36.2.1, wrap .i64 (s4 + 1), (Vec.s s5 s4 (wrap .u8 r36.1)), s6))
theorem Zbb.K2_ok (a0 : ByteArray) (b1 : Nat) (b2 : Nat) (s4 : Int) (s5 : (Vec Int 4)) (s6 : (Vec Int 4)) (j35 : Int) :
  SJ Zbb.cx [.code (c2 (c2 (c1 (c1 (c2 (c2 (c1 (c1 (c2 (c1 (c2 (c2 Zbb.B)))))))))))), .inBlock 1, .code (c2 (c2 (c2 (c1 (c1 (c2 (c1 (c2 (c2 Zbb.B))))))))), .inLoop (c1 (c1 (c2 (c1 (c2 (c2 Zbb.B)))))), .inBlock 0, .code (c2 (c2 (c2 Zbb.B)))] [(0, .string a0), (1, .int .i64 j35), (4, .pointer (some (pt b1 0))), (6, .pointer (some (pt b2 0))), (11, .int .i64 s4), (7, .int .i64 s4)] [(b2, ((cI .u8).arr 4).enc s5), (b1, ((cI .u8).arr 4).enc s6)] (Zbb.K2 a0 s4 s5 s6 j35) (Zbb.F1 a0 b1 b2).f := by
 unfold Zbb.K2
 refine sr 10 <| J.C 2 F116 (Zjp _ _ _ _) fun r36 => J.z 7 <| seq <| sr 2 <| J.z 2 <| J.f ?_ ?_
 ·exact sr 4 <| J.k 0 0 rfl ZhU (At.whole _) <| J.s 1 1 rfl ZhU (Upd.w s5) <| J.z 1 <| J.rc (.c 1 rfl ZhU .n)
 exact SJ.skip <| sr 5 <| J.y 3 fun hb37 hb38 => J.s (u := (wrap .u8 r36.1)) 0 0 rfl Ty5 (Upd.zero (Upd.arr hb37 hb38)) <| J.z 0 <| SJ.rg 2 <| J.z 2 <| inBlock <| SJ.rg 2 <| J.z 2 <| J.o rfl
noncomputable def Zbb.L1 (a0 : ByteArray) (s3 : Int) (s4 : Int) (s5 : (Vec Int 4)) (s6 : (Vec Int 4)) : M (LS (Int × Int × (Vec Int 4) × (Vec Int 4)) ((Vec Int 4) × (Option Addr))) :=
 if s4 < 4 then
  if s4 > 0 then
   (if s3 = (a0.size : Int) then
     pure true
    else
     chk ((0 : Int) ≤ s3 ∧ s3 < (a0.size : Int)) >>= fun _ =>
     pure ((sb a0 s3) != 46)) >>= fun y42 =>
   if y42 = true then
    draw >>= fun _ =>
    Zd0 a0 s3 >>= fun r44 =>
    pure (LS.done (s5, r44))
   else
    Zbb.K2 a0 s4 s5 s6 (wrap .i64 (s3 + 1))
  else
   Zbb.K2 a0 s4 s5 s6 s3
 else
  (Zbb.K1 a0 s3 s5) >>= fun b => pure (LS.done b)
theorem Zbb.L1_ok (a0 : ByteArray) (b1 : Nat) (b2 : Nat) : LJ Zbb.cx (Zbb.F1 a0 b1 b2) (fun s_ => Zbb.L1 a0 s_.1 s_.2.1 s_.2.2.1 s_.2.2.2) := by
 rintro ⟨s3, s4, s5, s6⟩
 show SJ _ _ _ _ (Zbb.L1 a0 s3 s4 s5 s6) _
 unfold Zbb.L1
 refine sr 1 <| J.z 1 <| seq <| J.f ?_ ?_
 ·refine SJ.skip <| seq <| block (id := 1) <| sr 2 <| J.z 2 <| seq <| sr 2 <| J.z 2 <| J.f ?_ ?_
  ·refine seq <| sr 10 <| J.j 5 4 .bool ?_ ?_ fun y42 => ?_
   ·exact J.e 5
   ·exact J.t 2 fun hb40 hb41 => J.e 2
   refine J.z 0 <| J.f ?_ ?_
   ·exact seq <| J.R 6 ZcY <| J.k 0 0 rfl ZhU (At.whole _) <| J.g 2 <| OJ.call (d := 29) (g := 132) (ats := #[9, 3]) (args := [.tmp 27, .tmp 28]) (owed := [⟨0, 237, (pt b2 0), ((cI .u8).arr 4).val s5⟩]) F132 (Zgz a0 s3) fun r44 => OW.known (j := 0) (q := s5) ZhU rfl (At.whole _) <| OW.nil <| J.s 0 1 rfl ZhU (Upd.w s5) <| J.z 1 <| J.rc (.c 1 rfl ZhU .n)
   exact SJ.skip <| SJ.rg 3 <| J.z 3 <| J.q <| Zbb.K2_ok a0 b1 b2 s4 s5 s6 (wrap .i64 (s3 + 1))
  exact SJ.skip <| J.q <| Zbb.K2_ok a0 b1 b2 s4 s5 s6 s3
 exact exit (id := 0) (by rfl) <| J.q <| SJ.done <| Zbb.K1_ok a0 b1 b2 s3 s5 s6
noncomputable def Zbb (a0 : ByteArray) (a1 : Int) : M ((Vec Int 4) × (Option Addr)) :=
 slot 237 >>= fun b1 =>
 slot 237 >>= fun b2 =>
 Zcn (fun s_ : (Int × Int × (Vec Int 4) × (Vec Int 4)) => Zbb.L1 a0 s_.1 s_.2.1 s_.2.2.1 s_.2.2.2) (a1, 0, (Vec.rep 4 0), (Vec.rep 4 0))
theorem Zlt (a0 : ByteArray) (a1 : Int) : Ref Tryz.prog 128 [.string a0, .int .i64 a1] (Zbb a0 a1) Zbb.out := by
 refine J.Fn Tryz.func128 ?_
 unfold Zbb
 exact sr 2 <| J.a 0 ZhU fun b1 => J.z 1 <| sr 1 <| J.a 0 ZhU fun b2 => J.z 0 <| seq <| sr 1 <| J.z 1 <| block (id := 0) <| J.L (Zbb.L1_ok a0 b1 b2)

noncomputable def Zc7.out (r_ : Bool) : Value := .bool r_
noncomputable def Zc7 (a0 : ByteArray) (a1 : ByteArray) : M Bool :=
 Zb1 a0 a1 >>= fun r1 =>
 pure r1
theorem Zi2 (a0 : ByteArray) (a1 : ByteArray) : Ref Tryz.prog 146 [.string a0, .string a1] (Zc7 a0 a1) Zc7.out := by
 refine J.Fn Tryz.func146 ?_
 unfold Zc7
 exact sr 1 <| J.z 1 <| sr 4 <| J.C 2 F114 (Zfg _ _) fun r1 => J.z 1 <| J.r

noncomputable def Zdk.out (r_ : (Bool × (Option Addr))) : Value := .tuple #[.bool r_.1, .pointer r_.2]
noncomputable def Zdk (a0 : (Option Addr)) : M (Bool × (Option Addr)) :=
 draw >>= fun _ =>
 nilck a0 >>= fun p1 =>
 ld cS p1 >>= fun x2 =>
 nilck a0 >>= fun p3 =>
 ld (cI .i64) (Addr.add p3 1) >>= fun x4 =>
 chk (0 ≤ (x4 : Int) ∧ (x4 : Int) ≤ (x2.size : Int) ∧ (x2.size : Int) ≤ (x2.size : Int)) >>= fun _ =>
 Zc7 (ByteArray.extract x2 (Int.toNat x4) (Int.toNat (x2.size : Int))) str9 >>= fun r5 =>
 if ¬ (r5 = true) then
  pure (false, none)
 else
  nilck a0 >>= fun p6 =>
  ld (cI .i64) (Addr.add p6 3) >>= fun x7 =>
  (if x7 ≥ 0 then
    pure true
   else
    nilck a0 >>= fun p8 =>
    ld cL (Addr.add p8 2) >>= fun x9 =>
    pure ((x9.len : Int) == 8)) >>= fun y10 =>
  if y10 = true then
   draw >>= fun _ =>
   nilck a0 >>= fun p14 =>
   ld (cI .i64) (Addr.add p14 1) >>= fun x15 =>
   newv 227 Zby (⟨44, x15⟩ : ZbW) >>= fun b16 =>
   pure (false, (some (pt b16 0)))
  else
   nilck a0 >>= fun p17 =>
   ld cL (Addr.add p17 2) >>= fun x18 =>
   nilck a0 >>= fun p19 =>
   st (cI .i64) (Addr.add p19 3) (x18.len : Int) >>= fun _ =>
   nilck a0 >>= fun p20 =>
   ld (cI .i64) (Addr.add p20 1) >>= fun x21 =>
   nilck a0 >>= fun p22 =>
   st (cI .i64) (Addr.add p22 1) (wrap .i64 (x21 + 2)) >>= fun _ =>
   pure (true, none)
theorem ZgU (a0 : (Option Addr)) : Ref Tryz.prog 141 [.pointer a0] (Zdk a0) Zdk.out := by
 refine J.Fn Tryz.func141 ?_
 unfold Zdk
 refine sr 2 <| J.z 2 <| seq <| seq <| J.R 11 ZcY <| J.n 1 fun p1 => J.l 1 Ty9 fun x2 => J.n 1 fun p3 => J.l 1 Ty3 fun x4 => J.ct 0 <| J.C 0 F146 (Zi2 _ _) fun r5 => J.z 1 <| J.f ?_ ?_
 ·exact sr 2 <| J.z 2 <| J.r
 refine SJ.skip <| seq <| sr 13 <| J.n 1 fun p6 => J.l 1 Ty3 fun x7 => J.j 2 6 .bool ?_ ?_ fun y10 => ?_
 ·exact J.e 7
 ·exact J.n 1 fun p8 => J.l 1 Zk2 fun x9 => J.e 3
 refine J.z 0 <| J.f ?_ ?_
 ·exact seq <| J.R 8 ZcY <| J.n 1 fun p14 => J.l 1 Ty3 fun x15 => J.u 0 ZkA (.f 0 (ZbA _ 44) (.f 1 (ZbB _ x15) .nil)) <| J.B 0 fun b16 => J.z 2 <| J.r
 exact SJ.skip <| sr 9 <| J.n 2 fun p17 => J.l 1 Zk2 fun x18 => J.n 1 fun p19 => J.w 1 Ty3 <| J.z 0 <| sr 8 <| J.n 1 fun p20 => J.l 1 Ty3 fun x21 => J.n 1 fun p22 => J.w 1 Ty3 <| J.z 0 <| sr 2 <| J.z 2 <| J.r

noncomputable def Zf1.out (r_ : Int) : Value := .int .i64 r_
noncomputable def Zf1 (a0 : Int) : M Int :=
 Zfk a0 >>= fun r1 =>
 if r1 = true then
  pure (wrap .i64 (wrap .u8 (a0 - 48)))
 else
  (if a0 ≥ 97 then
    pure (decide (a0 ≤ 102))
   else
    pure false) >>= fun y8 =>
  if y8 = true then
   pure (wrap .i64 ((wrap .i64 (wrap .u8 (a0 - 97))) + 10))
  else
   (if a0 ≥ 65 then
     pure (decide (a0 ≤ 70))
    else
     pure false) >>= fun y11 =>
   if y11 = true then
    pure (wrap .i64 ((wrap .i64 (wrap .u8 (a0 - 65))) + 10))
   else
    pure (-1)
theorem Zls (a0 : Int) : Ref Tryz.prog 147 [.int .u8 a0] (Zf1 a0) Zf1.out := by
 refine J.Fn Tryz.func147 ?_
 unfold Zf1
 refine sr 1 <| J.z 1 <| seq <| block (id := 0) <| sr 3 <| J.C 1 F131 (Zkt _) fun r1 => J.z 1 <| J.f ?_ ?_
 ·exact sr 4 <| J.z 4 <| J.r
 refine sr 7 <| J.j 3 2 .bool ?_ ?_ fun y8 => ?_
 ·exact J.e 3
 ·exact J.e 3
 refine J.z 1 <| J.f ?_ ?_
 ·exact sr 5 <| J.z 5 <| J.r
 refine sr 7 <| J.j 3 2 .bool ?_ ?_ fun y11 => ?_
 ·exact J.e 3
 ·exact J.e 3
 refine J.z 1 <| J.f ?_ ?_
 ·exact sr 5 <| J.z 5 <| J.r
 exact SJ.skip <| inBlock <| sr 1 <| J.z 1 <| J.r

noncomputable def ZdZ.out (r_ : Int) : Value := .int .i64 r_
noncomputable def ZdZ (a0 : (Option Addr)) : M Int :=
 nilck a0 >>= fun p1 =>
 ld (cI .i64) (Addr.add p1 3) >>= fun x2 =>
 if x2 ≥ 0 then
  nilck a0 >>= fun p5 =>
  ld cL (Addr.add p5 2) >>= fun x6 =>
  pure (wrap .i64 (7 - (x6.len : Int)))
 else
  nilck a0 >>= fun p7 =>
  ld cL (Addr.add p7 2) >>= fun x8 =>
  pure (wrap .i64 (8 - (x8.len : Int)))
theorem Zh3 (a0 : (Option Addr)) : Ref Tryz.prog 148 [.pointer a0] (ZdZ a0) ZdZ.out := by
 refine J.Fn Tryz.func148 ?_
 unfold ZdZ
 refine sr 1 <| J.z 1 <| seq <| sr 5 <| J.n 1 fun p1 => J.l 1 Ty3 fun x2 => J.z 1 <| J.f ?_ ?_
 ·exact sr 7 <| J.n 1 fun p5 => J.l 1 Zk2 fun x6 => J.z 3 <| J.r
 exact SJ.skip <| sr 7 <| J.n 1 fun p7 => J.l 1 Zk2 fun x8 => J.z 3 <| J.r

noncomputable def ZaZ.B : Code := bod Tryz.f142
noncomputable def ZaZ.cx : Fx := ⟨Tryz.prog, 142, Tryz.f142, none⟩
noncomputable def ZaZ.out (r_ : (Bool × (Option Addr))) : Value := .tuple #[.bool r_.1, .pointer r_.2]
noncomputable def ZaZ.K1 (a0 : (Option Addr)) (x2 : Int) (s3 : Int) (s4 : Int) : M (Bool × (Option Addr)) :=
 if s4 = x2 then
  nilck a0 >>= fun p22 =>
  ld cS p22 >>= fun x23 =>
  Zd0 x23 x2 >>= fun r24 =>
  pure (false, r24)
 else
  nilck a0 >>= fun p25 =>
  ld cS p25 >>= fun x26 =>
  (if s4 < (x26.size : Int) then
    nilck a0 >>= fun p27 =>
    ld cS p27 >>= fun x28 =>
    chk ((0 : Int) ≤ s4 ∧ s4 < (x28.size : Int)) >>= fun _ =>
    pure ((sb x28 s4) == 46)
   else
    pure false) >>= fun y31 =>
  (if y31 = true then
    nilck a0 >>= fun p32 =>
    ld cL (Addr.add p32 2) >>= fun x33 =>
    (if (x33.len : Int) > 0 then
      pure true
     else
      nilck a0 >>= fun p34 =>
      ld (cI .i64) (Addr.add p34 3) >>= fun x35 =>
      pure (decide (x35 ≥ 0))) >>= fun y36 =>
    pure y36
   else
    pure false) >>= fun y37 =>
  if y37 = true then
   ZdZ a0 >>= fun r51 =>
   if r51 < 2 then
    newv 227 Zby (⟨44, x2⟩ : ZbW) >>= fun b53 =>
    pure (false, (some (pt b53 0)))
   else
    nilck a0 >>= fun p54 =>
    ld cS p54 >>= fun x55 =>
    Zbb x55 x2 >>= fun r56 =>
    slot 237 >>= fun b57 =>
    draw >>= fun _ =>
    nilck a0 >>= fun p58 =>
    ld cL (Addr.add p58 2) >>= fun x59 =>
    slot 3 >>= fun b60 =>
    same cL (Addr.add p58 2) x59 >>= fun _ =>
    appl (cI .i64) 3 8 0 x59 [bor .i64 (wrap .i64 ((wrap .i64 (Vec.g r56.1 0 0)) * 2 ^ 8)) (wrap .i64 (Vec.g r56.1 1 0)), bor .i64 (wrap .i64 ((wrap .i64 (Vec.g r56.1 2 0)) * 2 ^ 8)) (wrap .i64 (Vec.g r56.1 3 0))] >>= fun r61 =>
    nilck a0 >>= fun p62 =>
    st cL (Addr.add p62 2) r61 >>= fun _ =>
    pure (true, r56.2)
  else
   ZdZ a0 >>= fun r64 =>
   if r64 < 1 then
    newv 227 Zby (⟨44, x2⟩ : ZbW) >>= fun b66 =>
    pure (false, (some (pt b66 0)))
   else
    if (wrap .i64 (s4 - x2)) > 4 then
     newv 227 Zby (⟨43, x2⟩ : ZbW) >>= fun b68 =>
     pure (false, (some (pt b68 0)))
    else
     nilck a0 >>= fun p69 =>
     ld cL (Addr.add p69 2) >>= fun x70 =>
     slot 3 >>= fun b71 =>
     appl (cI .i64) 3 8 0 x70 [s3] >>= fun r72 =>
     nilck a0 >>= fun p73 =>
     st cL (Addr.add p73 2) r72 >>= fun _ =>
     nilck a0 >>= fun p74 =>
     st (cI .i64) (Addr.add p74 1) s4 >>= fun _ =>
     pure (false, none)
theorem ZaZ.K1_ok (a0 : (Option Addr)) (x2 : Int) (s3 : Int) (s4 : Int) :
  SJ ZaZ.cx [.code (c2 (c2 (c2 (c2 ZaZ.B))))] [(0, .pointer a0), (4, .int .i64 x2), (5, .int .i64 s3), (6, .int .i64 s4)] [] (ZaZ.K1 a0 x2 s3 s4) (rt ZaZ.out) := by
 unfold ZaZ.K1
 refine seq <| sr 3 <| J.z 3 <| J.f ?_ ?_
 ·exact sr 8 <| J.n 1 fun p22 => J.l 1 Ty9 fun x23 => J.C 1 F132 (Zgz _ _) fun r24 => J.z 2 <| J.r
 refine SJ.skip <| seq <| sr 31 <| J.n 2 fun p25 => J.l 1 Ty9 fun x26 => J.j 3 7 .bool ?_ ?_ fun y31 => ?_
 ·exact J.n 1 fun p27 => J.l 1 Ty9 fun x28 => J.t 1 fun hb29 hb30 => J.e 2
 ·exact J.e 8
 refine J.g 1 <| OJ.join (b := y31) [17, 18, 19, 20, 21, 22, 23, 24, 25, 26, 27, 28, 29, 30] [] [0, 4, 5, 6, 83] (fun y37 => [(0, .pointer a0), (4, .int .i64 x2), (5, .int .i64 s3), (6, .int .i64 s4), (83, .bool y37)]) [] [] (t := 69) Iff.rfl (fun hp_ => ?_) (fun hp_ => ?_) (fun _ _ _ _ _ _ h_ => h_) fun y37 => ?_
 ·refine J.n 1 fun p32 => J.l 1 Zk2 fun x33 => J.g 3 <| OJ.join (b := decide ((x33.len : Int) > 0)) [24, 25, 26, 27, 28, 29] [30] [0, 4, 5, 6, 69, 82] (fun y36 => [(0, .pointer a0), (4, .int .i64 x2), (5, .int .i64 s3), (6, .int .i64 s4), (69, .bool true), (82, .bool y36)]) [] [] (t := 76) ze (fun hp_ => ?_) (fun hp_ => ?_) (fun _ _ _ _ _ hq_ h_ => ⟨fun e_ he_ => (hq_ e_ he_).elim (fun h => h_.1 e_ h) (fun h => nomatch h), h_.2⟩) fun y36 => ?_
  ·exact J.g 6 <| OJ.nil ⟨(Cov.mem Cov.nil), rfl, _, rfl, by kernel_rfl⟩
  ·exact J.n 1 fun p34 => J.l 1 Ty3 fun x35 => J.g 2 <| OJ.nil ⟨(Cov.mem Cov.nil), rfl, _, rfl, by kernel_rfl⟩
  exact J.g 1 <| OJ.nil ⟨(Cov.mem Cov.nil), rfl, _, rfl, by kernel_rfl⟩
 ·exact J.g 14 <| OJ.nil ⟨(Cov.mem Cov.nil), rfl, _, rfl, by kernel_rfl⟩
 refine J.z 0 <| J.f ?_ ?_
 ·refine seq <| sr 3 <| J.C 1 F148 (Zh3 _) fun r51 => J.z 1 <| J.f ?_ ?_
  ·exact sr 5 <| J.u 1 ZkA (.f 0 (ZbA _ 44) (.f 1 (ZbB _ x2) .nil)) <| J.B 0 fun b53 => J.z 2 <| J.r
  exact SJ.skip <| sr 12 <| J.n 1 fun p54 => J.l 1 Ty9 fun x55 => J.C 1 F128 (Zlt _ _) fun r56 => J.a 3 ZhU fun b57 => J.s 0 0 rfl ZhU (Upd.w r56.1) <| J.z 1 <| seq <| J.R 26 ZcY <| J.n 2 fun p58 => J.l 1 Zk2 fun x59 => J.k 1 0 rfl Ty5 (At.zero (At.arr (z := 0) (i := 0) (n := 4) (by decide) (by decide))) <| J.k 3 0 rfl Ty5 (At.zero (At.arr (z := 0) (i := 1) (n := 4) (by decide) (by decide))) <| J.k 3 0 rfl Ty5 (At.zero (At.arr (z := 0) (i := 2) (n := 4) (by decide) (by decide))) <| J.k 3 0 rfl Ty5 (At.zero (At.arr (z := 0) (i := 3) (n := 4) (by decide) (by decide))) <| J.g 2 <| OJ.rowSlot (d := 120) (t := 207) (parts := [(0, .tmp 111), (1, .tmp 119)]) (ps := [(0, (cI .i64).val (bor .i64 (wrap .i64 ((wrap .i64 (Vec.g r56.1 0 0)) * 2 ^ 8)) (wrap .i64 (Vec.g r56.1 1 0)))), (1, (cI .i64).val (bor .i64 (wrap .i64 ((wrap .i64 (Vec.g r56.1 2 0)) * 2 ^ 8)) (wrap .i64 (Vec.g r56.1 3 0))))]) (cd := (cI .i64)) (⟨[bor .i64 (wrap .i64 ((wrap .i64 (Vec.g r56.1 0 0)) * 2 ^ 8)) (wrap .i64 (Vec.g r56.1 1 0)), bor .i64 (wrap .i64 ((wrap .i64 (Vec.g r56.1 2 0)) * 2 ^ 8)) (wrap .i64 (Vec.g r56.1 3 0))], rfl⟩ : Vec Int 2) (owed := [⟨4, 207, (Addr.add p58 2), cL.val x59⟩]) Ty3 (Zcg.cons (cd := (cI .i64)) (q := (bor .i64 (wrap .i64 ((wrap .i64 (Vec.g r56.1 0 0)) * 2 ^ 8)) (wrap .i64 (Vec.g r56.1 1 0)))) (o := 0) rfl (Upd.arr (i := 0) (by decide) (by decide)) (Zcg.cons (cd := (cI .i64)) (q := (bor .i64 (wrap .i64 ((wrap .i64 (Vec.g r56.1 2 0)) * 2 ^ 8)) (wrap .i64 (Vec.g r56.1 3 0)))) (o := 1) rfl (Upd.arr (i := 1) (by decide) (by decide)) Zcg.nil)) fun b60 => OW.same Zk2 <| OW.nil <| J.p 0 0 rfl Ty3 fun r61 => J.n 0 fun p62 => J.w 1 Zk2 <| J.z 0 <| sr 3 <| J.z 3 <| J.r
 refine SJ.skip <| seq <| sr 3 <| J.C 1 F148 (Zh3 _) fun r64 => J.z 1 <| J.f ?_ ?_
 ·exact sr 5 <| J.u 1 ZkA (.f 0 (ZbA _ 44) (.f 1 (ZbB _ x2) .nil)) <| J.B 0 fun b66 => J.z 2 <| J.r
 refine SJ.skip <| seq <| sr 4 <| J.z 4 <| J.f ?_ ?_
 ·exact sr 5 <| J.u 1 ZkA (.f 0 (ZbA _ 43) (.f 1 (ZbB _ x2) .nil)) <| J.B 0 fun b68 => J.z 2 <| J.r
 exact SJ.skip <| sr 11 <| J.n 2 fun p69 => J.l 1 Zk2 fun x70 => J.S 1 [s3] Ty3 fun b71 => J.p 0 0 rfl Ty3 fun r72 => J.n 0 fun p73 => J.w 1 Zk2 <| J.z 0 <| sr 5 <| J.n 2 fun p74 => J.w 1 Ty3 <| J.z 0 <| sr 2 <| J.z 2 <| J.r
noncomputable def ZaZ.F1 (a0 : (Option Addr)) (x2 : Int) : LF (Int × Int) (Bool × (Option Addr)) := ⟨[.inBlock 0, .code (c2 (c2 (c2 (c2 ZaZ.B))))], c1 (c1 (c2 (c2 (c2 ZaZ.B)))), fun s_ => [(0, .pointer a0), (4, .int .i64 x2), (5, .int .i64 s_.1), (6, .int .i64 s_.2)], fun s_ => [], (rt ZaZ.out)⟩
noncomputable def ZaZ.L1 (a0 : (Option Addr)) (x2 : Int) (s3 : Int) (s4 : Int) : M (LS (Int × Int) (Bool × (Option Addr))) :=
 nilck a0 >>= fun p79 =>
 ld cS p79 >>= fun x80 =>
 (if s4 < (x80.size : Int) then
   nilck a0 >>= fun p81 =>
   ld cS p81 >>= fun x82 =>
   chk ((0 : Int) ≤ s4 ∧ s4 < (x82.size : Int)) >>= fun _ =>
   Zf1 (sb x82 s4) >>= fun r85 =>
   pure (decide (r85 ≥ 0))
  else
   pure false) >>= fun y86 =>
 if y86 = true then
  nilck a0 >>= fun p87 =>
  ld cS p87 >>= fun x88 =>
  chk ((0 : Int) ≤ s4 ∧ s4 < (x88.size : Int)) >>= fun _ =>
  Zf1 (sb x88 s4) >>= fun r91 =>
  pure (LS.next (bor .i64 (band .i64 (wrap .i64 (s3 * 2 ^ 4)) 1048575) r91, wrap .i64 (s4 + 1)))
 else
  (ZaZ.K1 a0 x2 s3 s4) >>= fun b => pure (LS.done b)
theorem ZaZ.L1_ok (a0 : (Option Addr)) (x2 : Int) : LJ ZaZ.cx (ZaZ.F1 a0 x2) (fun s_ => ZaZ.L1 a0 x2 s_.1 s_.2) := by
 rintro ⟨s3, s4⟩
 show SJ _ _ _ _ (ZaZ.L1 a0 x2 s3 s4) _
 unfold ZaZ.L1
 refine seq <| sr 17 <| J.n 2 fun p79 => J.l 1 Ty9 fun x80 => J.j 3 8 .bool ?_ ?_ fun y86 => ?_
 ·exact J.n 1 fun p81 => J.l 1 Ty9 fun x82 => J.t 1 fun hb83 hb84 => J.C 0 F147 (Zls _) fun r85 => J.e 2
 ·exact J.e 9
 refine J.z 0 <| J.f ?_ ?_
 ·exact SJ.skip <| block (id := 1) <| sr 12 <| J.n 4 fun p87 => J.l 1 Ty9 fun x88 => J.t 1 fun hb89 hb90 => J.C 0 F147 (Zls _) fun r91 => J.z 2 <| SJ.rg 3 <| J.z 3 <| inBlock <| J.o rfl
 exact exit (id := 0) (by rfl) <| J.q <| SJ.done <| ZaZ.K1_ok a0 x2 s3 s4
noncomputable def ZaZ (a0 : (Option Addr)) : M (Bool × (Option Addr)) :=
 nilck a0 >>= fun p1 =>
 ld (cI .i64) (Addr.add p1 1) >>= fun x2 =>
 Zcn (fun s_ : (Int × Int) => ZaZ.L1 a0 x2 s_.1 s_.2) (0, x2)
theorem ZkU (a0 : (Option Addr)) : Ref Tryz.prog 142 [.pointer a0] (ZaZ a0) ZaZ.out := by
 refine J.Fn Tryz.func142 ?_
 unfold ZaZ
 exact sr 2 <| J.z 2 <| sr 6 <| J.n 1 fun p1 => J.l 1 Ty3 fun x2 => J.z 2 <| sr 2 <| J.z 2 <| seq <| block (id := 0) <| J.L (ZaZ.L1_ok a0 x2)

noncomputable def Zbt.B : Code := bod Tryz.f129
noncomputable def Zbt.cx : Fx := ⟨Tryz.prog, 129, Tryz.f129, none⟩
noncomputable def Zbt.out (r_ : (Option Addr)) : Value := .pointer r_
noncomputable def Zbt.F1 (a0 : (Option Addr)) : LF Bool (Option Addr) := ⟨[.inBlock 0], c1 (c2 (c2 (c2 Zbt.B))), fun s_ => [(0, .pointer a0), (5, .bool s_)], fun s_ => [], (rt Zbt.out)⟩
noncomputable def Zbt.L1 (a0 : (Option Addr)) (s4 : Bool) : M (LS Bool (Option Addr)) :=
 draw >>= fun _ =>
 nilck a0 >>= fun p5 =>
 ld (cI .i64) (Addr.add p5 1) >>= fun x6 =>
 nilck a0 >>= fun p7 =>
 ld cS p7 >>= fun x8 =>
 (if x6 = (x8.size : Int) then
   pure s4
  else
   pure false) >>= fun y9 =>
 if y9 = true then
  pure (LS.done none)
 else
  ZaZ a0 >>= fun r10 =>
  if ¬ (r10.2 = none) then
   pure (LS.done r10.2)
  else
   draw >>= fun _ =>
   (if r10.1 = true then
     pure true
    else
     nilck a0 >>= fun p11 =>
     ld (cI .i64) (Addr.add p11 1) >>= fun x12 =>
     nilck a0 >>= fun p13 =>
     ld cS p13 >>= fun x14 =>
     pure (x12 == (x14.size : Int))) >>= fun y15 =>
   if y15 = true then
    nilck a0 >>= fun p28 =>
    ld (cI .i64) (Addr.add p28 3) >>= fun x29 =>
    (if x29 < 0 then
      nilck a0 >>= fun p30 =>
      ld cL (Addr.add p30 2) >>= fun x31 =>
      pure ((x31.len : Int) != 8)
     else
      pure false) >>= fun y32 =>
    if y32 = true then
     nilck a0 >>= fun p36 =>
     ld cS p36 >>= fun x37 =>
     newv 227 Zby (⟨42, (x37.size : Int)⟩ : ZbW) >>= fun b38 =>
     pure (LS.done (some (pt b38 0)))
    else
     pure (LS.done none)
   else
    Zdk a0 >>= fun r40 =>
    if ¬ (r40.2 = none) then
     pure (LS.done r40.2)
    else
     if ¬ (r40.1 = true) then
      draw >>= fun _ =>
      nilck a0 >>= fun p57 =>
      ld cS p57 >>= fun x58 =>
      nilck a0 >>= fun p59 =>
      ld (cI .i64) (Addr.add p59 1) >>= fun x60 =>
      chk ((0 : Int) ≤ x60 ∧ x60 < (x58.size : Int)) >>= fun _ =>
      if (sb x58 x60) ≠ 58 then
       nilck a0 >>= fun p66 =>
       ld (cI .i64) (Addr.add p66 1) >>= fun x67 =>
       newv 227 Zby (⟨41, x67⟩ : ZbW) >>= fun b68 =>
       pure (LS.done (some (pt b68 0)))
      else
       nilck a0 >>= fun p69 =>
       ld (cI .i64) (Addr.add p69 1) >>= fun x70 =>
       nilck a0 >>= fun p71 =>
       st (cI .i64) (Addr.add p71 1) (wrap .i64 (x70 + 1)) >>= fun _ =>
       pure (LS.next r40.1)
     else
      pure (LS.next r40.1)
theorem Zbt.L1_ok (a0 : (Option Addr)) : LJ Zbt.cx (Zbt.F1 a0) (fun s_ => Zbt.L1 a0 s_) := by
 rintro s4
 show SJ _ _ _ _ (Zbt.L1 a0 s4) _
 unfold Zbt.L1
 refine block (id := 1) <| seq <| seq <| J.R 13 ZcY <| J.n 1 fun p5 => J.l 1 Ty3 fun x6 => J.n 1 fun p7 => J.l 1 Ty9 fun x8 => J.j 3 1 .bool ?_ ?_ fun y9 => ?_
 ·exact J.e 2
 ·exact J.e 2
 refine J.z 0 <| J.f ?_ ?_
 ·exact sr 1 <| J.z 1 <| J.r
 refine SJ.skip <| sr 7 <| J.C 1 F142 (ZkU _) fun r10 => J.z 5 <| seq <| sr 2 <| J.z 2 <| J.f ?_ ?_
 ·exact sr 2 <| J.z 2 <| J.r
 refine SJ.skip <| seq <| seq <| J.R 13 ZcY <| J.j 2 10 .bool ?_ ?_ fun y15 => ?_
 ·exact J.e 11
 ·exact J.n 1 fun p11 => J.l 1 Ty3 fun x12 => J.n 1 fun p13 => J.l 1 Ty9 fun x14 => J.e 3
 refine J.z 0 <| J.f ?_ ?_
 ·refine seq <| sr 13 <| J.n 1 fun p28 => J.l 1 Ty3 fun x29 => J.j 2 6 .bool ?_ ?_ fun y32 => ?_
  ·exact J.n 1 fun p30 => J.l 1 Zk2 fun x31 => J.e 3
  ·exact J.e 7
  refine J.z 0 <| J.f ?_ ?_
  ·exact sr 8 <| J.n 1 fun p36 => J.l 1 Ty9 fun x37 => J.u 1 ZkA (.f 0 (ZbA _ 42) (.f 1 (ZbB _ (x37.size : Int)) .nil)) <| J.B 0 fun b38 => J.z 1 <| J.r
  exact SJ.skip <| sr 1 <| J.z 1 <| J.r
 refine SJ.skip <| sr 7 <| J.C 1 F141 (ZgU _) fun r40 => J.z 5 <| seq <| sr 2 <| J.z 2 <| J.f ?_ ?_
 ·exact sr 2 <| J.z 2 <| J.r
 refine SJ.skip <| sr 2 <| J.z 2 <| J.f ?_ ?_
 ·refine seq <| seq <| J.R 10 ZcY <| J.n 1 fun p57 => J.l 1 Ty9 fun x58 => J.n 1 fun p59 => J.l 1 Ty3 fun x60 => J.t 0 fun hb61 hb62 => J.z 1 <| J.f ?_ ?_
  ·exact sr 7 <| J.n 1 fun p66 => J.l 1 Ty3 fun x67 => J.u 0 ZkA (.f 0 (ZbA _ 41) (.f 1 (ZbB _ x67) .nil)) <| J.B 0 fun b68 => J.z 1 <| J.r
  exact SJ.skip <| SJ.rg 8 <| J.n 1 fun p69 => J.l 1 Ty3 fun x70 => J.n 1 fun p71 => J.w 1 Ty3 <| J.z 0 <| inBlock <| J.o rfl
 exact SJ.skip <| inBlock <| J.o rfl
noncomputable def Zbt (a0 : (Option Addr)) : M (Option Addr) :=
 Zdk a0 >>= fun r1 =>
 if ¬ (r1.2 = none) then
  pure r1.2
 else
  nilck a0 >>= fun p2 =>
  ld (cI .i64) (Addr.add p2 3) >>= fun x3 =>
  Zcn (fun s_ : Bool => Zbt.L1 a0 s_) (decide (x3 ≥ 0))
theorem ZlD (a0 : (Option Addr)) : Ref Tryz.prog 129 [.pointer a0] (Zbt a0) Zbt.out := by
 refine J.Fn Tryz.func129 ?_
 unfold Zbt
 refine sr 1 <| J.z 1 <| seq <| sr 7 <| J.C 1 F141 (ZgU _) fun r1 => J.z 5 <| sr 2 <| J.z 2 <| J.f ?_ ?_
 ·exact sr 2 <| J.z 2 <| J.r
 exact SJ.skip <| sr 6 <| J.n 1 fun p2 => J.l 1 Ty3 fun x3 => J.z 2 <| block (id := 0) <| J.L (Zbt.L1_ok a0)

noncomputable def ZaJ.B : Code := bod Tryz.f130
noncomputable def ZaJ.cx : Fx := ⟨Tryz.prog, 130, Tryz.f130, none⟩
noncomputable def ZaJ.out (r_ : (Vec Int 16)) : Value := ((cI .u8).arr 16).val r_
noncomputable def ZaJ.F1 (a0 : (Option Addr)) (b1 : Nat) (b2 : Nat) (x4 : Sl) : LF (Int × (Vec Int 16)) (Vec Int 16) := ⟨[.inBlock 0, .code (c2 (c2 (c2 ZaJ.B)))], c1 (c2 (c1 (c2 (c2 ZaJ.B)))), fun s_ => [(0, .pointer a0), (2, .pointer (some (pt b1 0))), (3, .pointer (some (pt b2 0))), (9, Sl.v x4), (10, .int .i64 (x4.len : Int)), (11, .int .i64 s_.1)], fun s_ => [(b2, ((cI .u8).arr 16).enc s_.2), (b1, ((cI .u8).arr 16).enc (Vec.rep 16 0))], (rt ZaJ.out)⟩
noncomputable def ZaJ.K1 (s5 : Int) (s6 : (Vec Int 16)) (x26 : Int) (j34 : Int) : M (LS (Int × (Vec Int 16)) (Vec Int 16)) :=
 chk ((0 : Int) ≤ (wrap .i64 (2 * j34)) ∧ (wrap .i64 (2 * j34)) < (16 : Nat)) >>= fun _ =>
 chk ((0 : Int) ≤ (wrap .i64 ((wrap .i64 (2 * j34)) + 1)) ∧ (wrap .i64 ((wrap .i64 (2 * j34)) + 1)) < (16 : Nat)) >>= fun _ =>
 pure (LS.next (wrap .i64 (s5 + 1), (Vec.s (Vec.s s6 (wrap .i64 (2 * j34)) (wrap .u8 (Int.fdiv x26 (2 ^ 8)))) (wrap .i64 ((wrap .i64 (2 * j34)) + 1)) (wrap .u8 x26))))
theorem ZaJ.K1_ok (a0 : (Option Addr)) (b1 : Nat) (b2 : Nat) (x4 : Sl) (s5 : Int) (s6 : (Vec Int 16)) (x26 : Int) (j34 : Int) :
  SJ ZaJ.cx [.code (c2 (c2 (c1 (c1 (c2 (c2 (c1 (c1 (c2 (c1 (c2 (c2 ZaJ.B)))))))))))), .inBlock 1, .code (c2 (c2 (c2 (c1 (c1 (c2 (c1 (c2 (c2 ZaJ.B))))))))), .inLoop (c1 (c1 (c2 (c1 (c2 (c2 ZaJ.B)))))), .inBlock 0, .code (c2 (c2 (c2 ZaJ.B)))] [(0, .pointer a0), (2, .pointer (some (pt b1 0))), (3, .pointer (some (pt b2 0))), (9, Sl.v x4), (10, .int .i64 (x4.len : Int)), (11, .int .i64 s5), (4, .int .i64 j34), (5, .int .i64 x26)] [(b2, ((cI .u8).arr 16).enc s6), (b1, ((cI .u8).arr 16).enc (Vec.rep 16 0))] (ZaJ.K1 s5 s6 x26 j34) (ZaJ.F1 a0 b1 b2 x4).f := by
 unfold ZaJ.K1
 exact SJ.rg 14 <| J.y 10 fun hb35 hb36 => J.s (u := (wrap .u8 (Int.fdiv x26 (2 ^ 8)))) 0 0 rfl Ty5 (Upd.zero (Upd.arr hb35 hb36)) <| J.y 0 fun hb37 hb38 => J.s (u := (wrap .u8 x26)) 0 0 rfl Ty5 (Upd.zero (Upd.arr hb37 hb38)) <| J.z 0 <| inBlock <| SJ.rg 2 <| J.z 2 <| J.o rfl
noncomputable def ZaJ.L1 (a0 : (Option Addr)) (x4 : Sl) (s5 : Int) (s6 : (Vec Int 16)) : M (LS (Int × (Vec Int 16)) (Vec Int 16)) :=
 if s5 < (x4.len : Int) then
  idx x4.a x4.len s5 1 >>= fun p25 =>
  ld (cI .i64) p25 >>= fun x26 =>
  nilck a0 >>= fun p27 =>
  ld (cI .i64) (Addr.add p27 3) >>= fun x28 =>
  (if x28 ≥ 0 then
    nilck a0 >>= fun p29 =>
    ld (cI .i64) (Addr.add p29 3) >>= fun x30 =>
    pure (decide (s5 ≥ x30))
   else
    pure false) >>= fun y31 =>
  if y31 = true then
   nilck a0 >>= fun p39 =>
   ld cL (Addr.add p39 2) >>= fun x40 =>
   ZaJ.K1 s5 s6 x26 (wrap .i64 (s5 + (wrap .i64 (8 - (x40.len : Int)))))
  else
   ZaJ.K1 s5 s6 x26 s5
 else
  pure (LS.done s6)
theorem ZaJ.L1_ok (a0 : (Option Addr)) (b1 : Nat) (b2 : Nat) (x4 : Sl) : LJ ZaJ.cx (ZaJ.F1 a0 b1 b2 x4) (fun s_ => ZaJ.L1 a0 x4 s_.1 s_.2) := by
 rintro ⟨s5, s6⟩
 show SJ _ _ _ _ (ZaJ.L1 a0 x4 s5 s6) _
 unfold ZaJ.L1
 refine sr 1 <| J.z 1 <| seq <| J.f ?_ ?_
 ·refine SJ.skip <| seq <| block (id := 1) <| sr 5 <| J.i 1 fun p25 => J.l 0 Ty3 fun x26 => J.z 2 <| seq <| sr 13 <| J.n 1 fun p27 => J.l 1 Ty3 fun x28 => J.j 2 6 .bool ?_ ?_ fun y31 => ?_
  ·exact J.n 2 fun p29 => J.l 1 Ty3 fun x30 => J.e 2
  ·exact J.e 7
  refine J.z 0 <| J.f ?_ ?_
  ·exact SJ.rg 9 <| J.n 2 fun p39 => J.l 1 Zk2 fun x40 => J.z 4 <| J.q <| ZaJ.K1_ok a0 b1 b2 x4 s5 s6 x26 (wrap .i64 (s5 + (wrap .i64 (8 - (x40.len : Int)))))
  exact SJ.skip <| J.q <| ZaJ.K1_ok a0 b1 b2 x4 s5 s6 x26 s5
 exact exit (id := 0) (by rfl) <| sr 2 <| J.k 0 0 rfl Ty48 (At.whole _) <| J.s 0 1 rfl Ty48 (Upd.w s6) <| J.z 0 <| J.rc (.c 1 rfl Ty48 .n)
noncomputable def ZaJ (a0 : (Option Addr)) : M (Vec Int 16) :=
 slot 48 >>= fun b1 =>
 slot 48 >>= fun b2 =>
 nilck a0 >>= fun p3 =>
 ld cL (Addr.add p3 2) >>= fun x4 =>
 Zcn (fun s_ : (Int × (Vec Int 16)) => ZaJ.L1 a0 x4 s_.1 s_.2) (0, (Vec.rep 16 0))
theorem ZkV (a0 : (Option Addr)) : Ref Tryz.prog 130 [.pointer a0] (ZaJ a0) ZaJ.out := by
 refine J.Fn Tryz.func130 ?_
 unfold ZaJ
 exact sr 1 <| J.a 0 Ty48 fun b1 => J.z 0 <| sr 1 <| J.a 0 Ty48 fun b2 => J.z 0 <| seq <| sr 6 <| J.n 1 fun p3 => J.l 1 Zk2 fun x4 => J.z 2 <| block (id := 0) <| J.L (ZaJ.L1_ok a0 b1 b2 x4)

noncomputable def Zfj.out (r_ : (Zbw × (Option Addr))) : Value := .tuple #[Za8.val r_.1, .pointer r_.2]
noncomputable def Zfj (a0 : ByteArray) : M (Zbw × (Option Addr)) :=
 slot 50 >>= fun b1 =>
 if (a0.size : Int) > 45 then
  newv 227 Zby (⟨2, 45⟩ : ZbW) >>= fun b3 =>
  pure (ZcF, (some (pt b3 0)))
 else
  Zdp a0 Zv4 >>= fun r4 =>
  if ¬ (r4 = true) then
   Zbb a0 0 >>= fun r8 =>
   slot 237 >>= fun b9 =>
   if ¬ (r8.2 = none) then
    pure (ZcF, r8.2)
   else
    pure ((⟨4, (⟨[(Vec.g r8.1 0 0), (Vec.g r8.1 1 0), (Vec.g r8.1 2 0), (Vec.g r8.1 3 0), 0, 0, 0, 0, 0, 0, 0, 0, 0, 0, 0, 0], rfl⟩ : (Vec Int 16))⟩ : Zbw), none)
  else
   newv 242 Zdb (⟨a0, ZiS.at_, ZiS.groups, (-1)⟩ : Zea) >>= fun b11 =>
   Zbt (some (pt b11 0)) >>= fun r12 =>
   if ¬ (r12 = none) then
    pure (ZcF, r12)
   else
    ZaJ (some (pt b11 0)) >>= fun r13 =>
    pure ((⟨6, r13⟩ : Zbw), none)
theorem Zks (a0 : ByteArray) : Ref Tryz.prog 115 [.string a0] (Zfj a0) Zfj.out := by
 refine J.Fn Tryz.func115 ?_
 unfold Zfj
 refine sr 2 <| J.a 0 Ty50 fun b1 => J.z 1 <| seq <| sr 3 <| J.z 3 <| J.f ?_ ?_
 ·exact sr 5 <| J.u 0 Ty50 .nil <| J.u 0 ZkA (.f 0 (ZbA _ 2) (.f 1 (ZbB _ 45) .nil)) <| J.B 0 fun b3 => J.s 0 0 rfl Ty50 (Upd.w ZcF) <| J.z 1 <| J.rc (.c 0 rfl Ty50 .n)
 refine SJ.skip <| seq <| sr 3 <| J.C 1 F127 (Zjy _ _) fun r4 => J.z 1 <| J.f ?_ ?_
 ·refine sr 8 <| J.C 1 F128 (Zlt _ _) fun r8 => J.a 3 ZhU fun b9 => J.s 0 0 rfl ZhU (Upd.w r8.1) <| J.z 1 <| seq <| sr 2 <| J.z 2 <| J.f ?_ ?_
  ·exact sr 4 <| J.u 0 Ty50 .nil <| J.s 1 1 rfl Ty50 (Upd.w ZcF) <| J.z 1 <| J.rc (.c 1 rfl Ty50 .n)
  exact SJ.skip <| sr 12 <| J.k 1 0 rfl Ty5 (At.zero (At.arr (z := 0) (i := 0) (n := 4) (by decide) (by decide))) <| J.k 1 0 rfl Ty5 (At.zero (At.arr (z := 0) (i := 1) (n := 4) (by decide) (by decide))) <| J.k 1 0 rfl Ty5 (At.zero (At.arr (z := 0) (i := 2) (n := 4) (by decide) (by decide))) <| J.k 1 0 rfl Ty5 (At.zero (At.arr (z := 0) (i := 3) (n := 4) (by decide) (by decide))) <| OJ.build (d := 34) (T := 48) (parts := [(0, .tmp 27), (1, .tmp 29), (2, .tmp 31), (3, .tmp 33)]) (ps := [(0, (cI .u8).val (Vec.g r8.1 0 0)), (1, (cI .u8).val (Vec.g r8.1 1 0)), (2, (cI .u8).val (Vec.g r8.1 2 0)), (3, (cI .u8).val (Vec.g r8.1 3 0))]) (cd := ((cI .u8).arr 16)) (z0 := (Vec.rep 16 0)) (⟨[(Vec.g r8.1 0 0), (Vec.g r8.1 1 0), (Vec.g r8.1 2 0), (Vec.g r8.1 3 0), 0, 0, 0, 0, 0, 0, 0, 0, 0, 0, 0, 0], rfl⟩ : (Vec Int 16)) Ty48 rfl (Zcg.cons (cd := (cI .u8)) (q := (Vec.g r8.1 0 0)) (o := 0) (by kernel_rfl) (Upd.arr (i := 0) (by decide) (by decide)) (Zcg.cons (cd := (cI .u8)) (q := (Vec.g r8.1 1 0)) (o := 1) (by kernel_rfl) (Upd.arr (i := 1) (by decide) (by decide)) (Zcg.cons (cd := (cI .u8)) (q := (Vec.g r8.1 2 0)) (o := 2) (by kernel_rfl) (Upd.arr (i := 2) (by decide) (by decide)) (Zcg.cons (cd := (cI .u8)) (q := (Vec.g r8.1 3 0)) (o := 3) (by kernel_rfl) (Upd.arr (i := 3) (by decide) (by decide)) Zcg.nil)))) <| J.u 0 Ty50 (.f 0 (ZjU _ 4) (.f 1 (ZjV _ (⟨[(Vec.g r8.1 0 0), (Vec.g r8.1 1 0), (Vec.g r8.1 2 0), (Vec.g r8.1 3 0), 0, 0, 0, 0, 0, 0, 0, 0, 0, 0, 0, 0], rfl⟩ : (Vec Int 16))) .nil)) <| J.s 0 1 rfl Ty50 (Upd.w (⟨4, (⟨[(Vec.g r8.1 0 0), (Vec.g r8.1 1 0), (Vec.g r8.1 2 0), (Vec.g r8.1 3 0), 0, 0, 0, 0, 0, 0, 0, 0, 0, 0, 0, 0], rfl⟩ : (Vec Int 16))⟩ : Zbw)) <| J.z 1 <| J.rc (.c 1 rfl Ty50 .n)
 refine SJ.skip <| sr 4 <| J.u 1 ZxZ (.f 0 (ZoW _ a0) (.f 3 (ZiP _ (-1)) .nil)) <| J.B 0 fun b11 => J.z 1 <| seq <| sr 3 <| J.C 1 F129 (ZlD _) fun r12 => J.z 1 <| sr 2 <| J.z 2 <| J.f ?_ ?_
 ·exact sr 4 <| J.u 0 Ty50 .nil <| J.s 1 0 rfl Ty50 (Upd.w ZcF) <| J.z 1 <| J.rc (.c 0 rfl Ty50 .n)
 exact SJ.skip <| sr 5 <| J.C 1 F130 (ZkV _) fun r13 => J.u 0 Ty50 (.f 0 (ZjU _ 6) (.f 1 (ZjV _ r13) .nil)) <| J.s 0 0 rfl Ty50 (Upd.w (⟨6, r13⟩ : Zbw)) <| J.z 1 <| J.rc (.c 0 rfl Ty50 .n)

noncomputable def ZfD.out (r_ : Int) : Value := .int .i64 r_
noncomputable def ZfD (a0 : Zbw) : M Int :=
 newv 50 Za8 a0 >>= fun b1 =>
 ld (cI .i64) (pt b1 0) >>= fun x2 =>
 if x2 = 6 then
  pure 128
 else
  ld (cI .i64) (pt b1 0) >>= fun x3 =>
  (if x3 ≠ 4 then
    pure true
   else
    cut 1 ⟨some (Addr.add (pt b1 0) 1), 16, 16⟩ (some 4) none none >>= fun r4 =>
    (chk (12 ≤ r4.len) >>= fun _ => nilck r4.a) >>= fun p5 =>
    ld ((cI .u8).arr 12) p5 >>= fun x6 =>
    pure (!eqv x6 (⟨[0, 0, 0, 0, 0, 0, 0, 0, 0, 0, 0, 0], rfl⟩ : (Vec Int 12)))) >>= fun y7 =>
  if y7 = true then
   pure 0
  else
   pure 32
theorem ZiK (a0 : Zbw) : Ref Tryz.prog 117 [Za8.val a0] (ZfD a0) ZfD.out := by
 refine J.Fn Tryz.func117 ?_
 unfold ZfD
 refine sr 2 <| J.B 0 fun b1 => J.z 1 <| seq <| sr 3 <| J.l 1 Ty3 fun x2 => J.z 1 <| J.f ?_ ?_
 ·exact sr 1 <| J.z 1 <| J.r
 refine SJ.skip <| seq <| sr 11 <| J.l 1 Ty3 fun x3 => J.j 2 6 .bool ?_ ?_ fun y7 => ?_
 ·exact J.e 7
 ·exact J.ca 1 fun r4 => OJ.toArr (d := 12) (t := 202) (E := 5) (y := .tmp 11) (s := r4) fun p5 => J.l 0 Zvv fun x6 => J.u 0 Zvv .nil <| OJ.neq (d := 15) (T := 202) (yT := 202) (y := .tmp 13) (z := .tmp 14) (cd := ((cI .u8).arr 12)) (p := x6) (q := (⟨[0, 0, 0, 0, 0, 0, 0, 0, 0, 0, 0, 0], rfl⟩ : (Vec Int 12))) rfl ZxF <| J.e 1
 refine J.z 0 <| J.f ?_ ?_
 ·exact sr 1 <| J.z 1 <| J.r
 exact SJ.skip <| sr 1 <| J.z 1 <| J.r

noncomputable def ZbG.B : Code := bod Tryz.f112
noncomputable def ZbG.cx : Fx := ⟨Tryz.prog, 112, Tryz.f112, none⟩
noncomputable def ZbG.out (r_ : (Vec Int 16)) : Value := ((cI .u8).arr 16).val r_
noncomputable def ZbG.F1 (a0 : (Vec Int 16)) (a1 : Int) (b1 : Nat) (b2 : Nat) (b3 : Nat) : LF (Int × (Vec Int 16)) (Vec Int 16) := ⟨[.inBlock 0, .code (c2 (c2 (c2 ZbG.B)))], c1 (c2 (c1 (c2 (c2 ZbG.B)))), fun s_ => [(1, .int .i64 a1), (2, .pointer (some (pt b1 0))), (4, .pointer (some (pt b2 0))), (5, .pointer (some (pt b3 0))), (8, .int .i64 s_.1)], fun s_ => [(b3, ((cI .u8).arr 16).enc s_.2), (b2, ((cI .u8).arr 16).enc (Vec.rep 16 0)), (b1, ((cI .u8).arr 16).enc a0)], (rt ZbG.out)⟩
noncomputable def ZbG.L1 (a0 : (Vec Int 16)) (a1 : Int) (s4 : Int) (s5 : (Vec Int 16)) : M (LS (Int × (Vec Int 16)) (Vec Int 16)) :=
 if s4 < 16 then
  chk ((0 : Int) ≤ s4 ∧ s4 < (16 : Nat)) >>= fun _ =>
  chk (0 ≤ (wrap .u64 (if (if 0 < (wrap .i64 (a1 - (wrap .i64 (8 * s4)))) then (wrap .i64 (a1 - (wrap .i64 (8 * s4)))) else 0) < 8 then (if 0 < (wrap .i64 (a1 - (wrap .i64 (8 * s4)))) then (wrap .i64 (a1 - (wrap .i64 (8 * s4)))) else 0) else 8))) >>= fun _ =>
  chk ((0 : Int) ≤ s4 ∧ s4 < (16 : Nat)) >>= fun _ =>
  pure (LS.next (wrap .i64 (s4 + 1), (Vec.s s5 s4 (band .u8 (Vec.g a0 s4 0) (wrap .u8 (Int.fdiv 65280 (2 ^ min (Int.toNat (wrap .u64 (if (if 0 < (wrap .i64 (a1 - (wrap .i64 (8 * s4)))) then (wrap .i64 (a1 - (wrap .i64 (8 * s4)))) else 0) < 8 then (if 0 < (wrap .i64 (a1 - (wrap .i64 (8 * s4)))) then (wrap .i64 (a1 - (wrap .i64 (8 * s4)))) else 0) else 8))) 64)))))))
 else
  pure (LS.done s5)
theorem ZbG.L1_ok (a0 : (Vec Int 16)) (a1 : Int) (b1 : Nat) (b2 : Nat) (b3 : Nat) : LJ ZbG.cx (ZbG.F1 a0 a1 b1 b2 b3) (fun s_ => ZbG.L1 a0 a1 s_.1 s_.2) := by
 rintro ⟨s4, s5⟩
 show SJ _ _ _ _ (ZbG.L1 a0 a1 s4 s5) _
 unfold ZbG.L1
 refine sr 1 <| J.z 1 <| seq <| J.f ?_ ?_
 ·exact SJ.skip <| seq <| block (id := 1) <| sr 2 <| J.z 2 <| sr 7 <| J.g 4 <| OJ.max (d := 15) (t := 3) (u := 3) (so := .const (.int .i64 0)) (xo := .tmp 14) (k := .i64) (p := 0) (q := (wrap .i64 (a1 - (wrap .i64 (8 * s4))))) <| OJ.min (d := 16) (t := 3) (u := 3) (so := .const (.int .i64 8)) (xo := .tmp 15) (k := .i64) (p := 8) (q := (if 0 < (wrap .i64 (a1 - (wrap .i64 (8 * s4)))) then (wrap .i64 (a1 - (wrap .i64 (8 * s4)))) else 0)) <| J.z 1 <| SJ.rg 11 <| J.y 2 fun hb12 hb13 => J.k 0 2 rfl Ty5 (At.zero (At.arr (z := 0) hb12 hb13)) <| J.g 2 <| OJ.shr (d := 23) (T := 3) (yT := 136) (y := .const (.int .i64 65280)) (z := .tmp 22) (k := .i64) (yk := .u64) (p := 65280) (q := (wrap .u64 (if (if 0 < (wrap .i64 (a1 - (wrap .i64 (8 * s4)))) then (wrap .i64 (a1 - (wrap .i64 (8 * s4)))) else 0) < 8 then (if 0 < (wrap .i64 (a1 - (wrap .i64 (8 * s4)))) then (wrap .i64 (a1 - (wrap .i64 (8 * s4)))) else 0) else 8))) fun hq16 => J.y 2 fun hb14 hb15 => J.s (u := (band .u8 (Vec.g a0 s4 0) (wrap .u8 (Int.fdiv 65280 (2 ^ min (Int.toNat (wrap .u64 (if (if 0 < (wrap .i64 (a1 - (wrap .i64 (8 * s4)))) then (wrap .i64 (a1 - (wrap .i64 (8 * s4)))) else 0) < 8 then (if 0 < (wrap .i64 (a1 - (wrap .i64 (8 * s4)))) then (wrap .i64 (a1 - (wrap .i64 (8 * s4)))) else 0) else 8))) 64))))) 0 0 rfl Ty5 (Upd.zero (Upd.arr hb14 hb15)) <| J.z 0 <| inBlock <| SJ.rg 2 <| J.z 2 <| J.o rfl
 exact exit (id := 0) (by rfl) <| sr 2 <| J.k 0 0 rfl Ty48 (At.whole _) <| J.s 0 1 rfl Ty48 (Upd.w s5) <| J.z 0 <| J.rc (.c 1 rfl Ty48 .n)
noncomputable def ZbG (a0 : (Vec Int 16)) (a1 : Int) : M (Vec Int 16) :=
 slot 48 >>= fun b1 =>
 slot 48 >>= fun b2 =>
 slot 48 >>= fun b3 =>
 Zcn (fun s_ : (Int × (Vec Int 16)) => ZbG.L1 a0 a1 s_.1 s_.2) (0, (Vec.rep 16 0))
theorem Zjq (a0 : (Vec Int 16)) (a1 : Int) : Ref Tryz.prog 112 [((cI .u8).arr 16).val a0, .int .i64 a1] (ZbG a0 a1) ZbG.out := by
 refine J.Fn Tryz.func112 ?_
 unfold ZbG
 exact sr 2 <| J.b 0 ((cI .u8).arr 16) a0 fun b1 => J.a 0 Ty48 fun b2 => J.z 0 <| sr 1 <| J.a 0 Ty48 fun b3 => J.z 0 <| seq <| sr 1 <| J.z 1 <| block (id := 0) <| J.L (ZbG.L1_ok a0 a1 b1 b2 b3)

noncomputable def Zcm.out (r_ : Int) : Value := .int .i64 r_
noncomputable def Zcm (a0 : Zag) : M Int :=
 slot 129 >>= fun b1 =>
 ZfD a0.IP >>= fun r2 =>
 if r2 = 0 then
  pure 40
 else
  (if a0.Len < 0 then
    pure true
   else
    pure (decide (a0.Len > r2))) >>= fun y9 =>
  if y9 = true then
   pure 45
  else
   draw >>= fun _ =>
   ZbG a0.IP.A a0.Len >>= fun r12 =>
   if ¬ (r12 = a0.IP.A) then
    pure 46
   else
    pure 0
theorem Zeu (a0 : Zag) : Ref Tryz.prog 99 [ZaI.val a0] (Zcm a0) Zcm.out := by
 refine J.Fn Tryz.func99 ?_
 unfold Zcm
 refine sr 2 <| J.b 0 ZaI a0 fun b1 => J.z 1 <| seq <| sr 4 <| J.k 1 0 rfl Ty50 (ZbQ _) <| J.C 0 F117 (ZiK _) fun r2 => J.z 1 <| block (id := 0) <| sr 3 <| J.z 3 <| J.f ?_ ?_
 ·exact sr 1 <| J.z 1 <| J.r
 refine sr 10 <| J.k 1 0 rfl Ty3 (Zct _) <| J.j 2 4 .bool ?_ ?_ fun y9 => ?_
 ·exact J.e 5
 ·exact J.k 1 0 rfl Ty3 (Zct _) <| J.e 3
 refine J.z 1 <| J.f ?_ ?_
 ·exact sr 1 <| J.z 1 <| J.r
 refine seq <| J.D [0, 1, 2, 3, 4, 6, 7, 8, 5, 9, 10] ZcY <| J.k 2 0 rfl Ty48 (At.trans (ZbQ _) (Zds _)) <| J.k 1 0 rfl Ty3 (Zct _) <| J.k 2 0 rfl Ty48 (At.trans (ZbQ _) (Zds _)) <| OJ.call (d := 26) (g := 112) (ats := #[48, 3]) (args := [.tmp 23, .tmp 25]) (owed := [⟨8, 48, (pt b1 1), ((cI .u8).arr 16).val a0.IP.A⟩]) F112 (Zjq a0.IP.A a0.Len) fun r12 => OW.known (j := 0) (q := a0.IP.A) Ty48 rfl (At.trans (ZbQ a0) (Zds a0.IP)) <| OW.nil <| OJ.neq (d := 30) (T := 48) (yT := 48) (y := .tmp 26) (z := .tmp 29) (cd := ((cI .u8).arr 16)) (p := r12) (q := a0.IP.A) rfl Eq48 <| J.z 1 <| J.f ?_ ?_
 ·exact sr 1 <| J.z 1 <| J.r
 exact SJ.skip <| inBlock <| sr 1 <| J.z 1 <| J.r

noncomputable def Zas.B : Code := bod Tryz.f95
noncomputable def Zas.cx : Fx := ⟨Tryz.prog, 95, Tryz.f95, none⟩
noncomputable def Zas.out (r_ : (Zag × Int × Int)) : Value := .tuple #[ZaI.val r_.1, .int .i64 r_.2.1, .int .i64 r_.2.2]
noncomputable def Zas.K1 (r3 : (Zbw × (Option Addr))) (j8 : Int) (j17 : (Option Addr)) : M (Zag × Int × Int) :=
 if ¬ (j17 = none) then
  draw >>= fun _ =>
  nilck j17 >>= fun p22 =>
  ld (cI .i64) p22 >>= fun x23 =>
  nilck j17 >>= fun p24 =>
  ld (cI .i64) (Addr.add p24 1) >>= fun x25 =>
  same (cI .i64) (Addr.add p24 1) x25 >>= fun _ =>
  same (cI .i64) p22 x23 >>= fun _ =>
  pure (ZbP, x23, x25)
 else
  pure ((⟨r3.1, j8⟩ : Zag), 0, 0)
theorem Zas.K1_ok (b1 : Nat) (r3 : (Zbw × (Option Addr))) (j8 : Int) (b13 : Nat) (j17 : (Option Addr)) :
  SJ Zas.cx [.code (c2 (c2 (c2 (c2 (c2 (c2 (c2 (c2 (c2 (c2 Zas.B))))))))))] [(2, .pointer (some (pt b1 0))), (9, .pointer j17), (12, .pointer (some (pt b13 0)))] [(b13, ZaI.enc (⟨r3.1, j8⟩ : Zag)), (b1, ZaI.enc ZbP)] (Zas.K1 r3 j8 j17) (rt Zas.out) := by
 unfold Zas.K1
 refine seq <| sr 2 <| J.z 2 <| J.f ?_ ?_
 ·exact seq <| J.R 12 ZcY <| J.u 0 Zc5 .nil <| J.n 1 fun p22 => J.l 1 Ty25 fun x23 => J.n 1 fun p24 => J.l 1 Ty3 fun x25 => OJ.kst (y := .tmp 2) (z := .tmp 71) (cd := ZaI) (u := ZbP) (j := 1) (b := b1) (o := 0) (ZaI.enc ZbP) (owed := [⟨8, 3, (Addr.add p24 1), (cI .i64).val x25⟩, ⟨4, 25, p22, (cI .i64).val x23⟩]) Zc5 rfl (Upd.whole ((Cod.len _ _).trans (Cod.len _ _).symm)) rfl <| OW.same Ty3 <| OW.same Ty25 <| OW.nil <| J.z 2 <| J.rc (.c 1 rfl Zc5 .n)
 exact SJ.skip <| sr 4 <| J.k 0 0 rfl Zc5 (At.whole _) <| J.s 0 1 rfl Zc5 (Upd.w (⟨r3.1, j8⟩ : Zag)) <| J.z 2 <| J.rc (.c 1 rfl Zc5 .n)
noncomputable def Zas.K2 (r3 : (Zbw × (Option Addr))) (j8 : Int) (j12 : (Option Addr)) : M (Zag × Int × Int) :=
 slot 129 >>= fun b13 =>
 (if j12 = none then
   Zcm (⟨r3.1, j8⟩ : Zag) >>= fun r14 =>
   pure (r14 != 0)
  else
   pure false) >>= fun y15 =>
 if y15 = true then
  newv 227 Zby (⟨46, 0⟩ : ZbW) >>= fun b27 =>
  Zas.K1 r3 j8 (some (pt b27 0))
 else
  Zas.K1 r3 j8 j12
theorem Zas.K2_ok (b1 : Nat) (r3 : (Zbw × (Option Addr))) (b4 : Nat) (j8 : Int) (j12 : (Option Addr)) :
  SJ Zas.cx [.code (c2 (c2 (c2 (c2 (c2 (c2 (c2 (c2 Zas.B))))))))] [(2, .pointer (some (pt b1 0))), (8, .pointer (some (pt b4 0))), (9, .pointer j12), (10, .int .i64 j8)] [(b4, Za8.enc r3.1), (b1, ZaI.enc ZbP)] (Zas.K2 r3 j8 j12) (rt Zas.out) := by
 unfold Zas.K2
 refine sr 5 <| J.k 0 0 rfl Ty50 (At.whole _) <| J.u 1 Zc5 (.f 0 (Zf5 _ r3.1) (.f 1 (ZeZ _ j8) .nil)) <| J.a 0 Zc5 fun b13 => J.s 0 0 rfl Zc5 (Upd.w (⟨r3.1, j8⟩ : Zag)) <| J.z 0 <| seq <| sr 7 <| J.j 3 3 .bool ?_ ?_ fun y15 => ?_
 ·exact J.k 0 0 rfl Zc5 (At.whole _) <| J.C 0 F99 (Zeu _) fun r14 => J.e 2
 ·exact J.e 4
 refine J.z 0 <| J.f ?_ ?_
 ·exact SJ.rg 3 <| J.u 0 ZkA (.f 0 (ZbA _ 46) (.f 1 (ZbB _ 0) .nil)) <| J.B 0 fun b27 => J.z 1 <| SJ.forget (List.Sublist.cons_cons _ (List.Sublist.cons _ (List.Sublist.cons_cons _ List.Sublist.slnil))) <| J.q <| Zas.K1_ok b1 r3 j8 b13 (some (pt b27 0))
 exact SJ.skip <| SJ.forget (List.Sublist.cons_cons _ (List.Sublist.cons _ (List.Sublist.cons_cons _ List.Sublist.slnil))) <| J.q <| Zas.K1_ok b1 r3 j8 b13 j12
noncomputable def Zas.K3 (a0 : ByteArray) (r3 : (Zbw × (Option Addr))) (j7 : (Option Addr)) (j8 : Int) (j9 : Int) : M (Zag × Int × Int) :=
 (if j7 = none then
   pure (decide (j9 < (a0.size : Int)))
  else
   pure false) >>= fun y10 =>
 if y10 = true then
  newv 227 Zby (⟨41, j9⟩ : ZbW) >>= fun b29 =>
  Zas.K2 r3 j8 (some (pt b29 0))
 else
  Zas.K2 r3 j8 j7
theorem Zas.K3_ok (a0 : ByteArray) (b1 : Nat) (r3 : (Zbw × (Option Addr))) (b4 : Nat) (j7 : (Option Addr)) (j8 : Int) (j9 : Int) :
  SJ Zas.cx [.code (c2 (c2 (c2 (c2 (c2 (c2 (c2 Zas.B)))))))] [(0, .string a0), (2, .pointer (some (pt b1 0))), (8, .pointer (some (pt b4 0))), (9, .pointer j7), (10, .int .i64 j8), (11, .int .i64 j9)] [(b4, Za8.enc r3.1), (b1, ZaI.enc ZbP)] (Zas.K3 a0 r3 j7 j8 j9) (rt Zas.out) := by
 unfold Zas.K3
 refine seq <| sr 8 <| J.j 3 4 .bool ?_ ?_ fun y10 => ?_
 ·exact J.e 5
 ·exact J.e 5
 refine J.z 0 <| J.f ?_ ?_
 ·exact SJ.rg 4 <| J.u 1 ZkA (.f 0 (ZbA _ 41) (.f 1 (ZbB _ j9) .nil)) <| J.B 0 fun b29 => J.z 1 <| J.q <| Zas.K2_ok b1 r3 b4 j8 (some (pt b29 0))
 exact SJ.skip <| J.q <| Zas.K2_ok b1 r3 b4 j8 j7
noncomputable def Zas (a0 : ByteArray) : M (Zag × Int × Int) :=
 slot 129 >>= fun b1 =>
 if (a0.size : Int) > 49 then
  pure (ZbP, 2, 49)
 else
  ZdE a0 Zr8 >>= fun r2 =>
  if ¬ (r2.2.2 = true) then
   pure (ZbP, 42, (a0.size : Int))
  else
   Zfj r2.1 >>= fun r3 =>
   slot 50 >>= fun b4 =>
   if r3.2 = none then
    ZfD r3.1 >>= fun r31 =>
    ZaT a0 (wrap .i64 ((r2.1.size : Int) + 1)) r31 45 >>= fun r32 =>
    Zas.K3 a0 r3 r32.2.2 r32.1 r32.2.1
   else
    Zas.K3 a0 r3 r3.2 0 0
theorem ZjR (a0 : ByteArray) : Ref Tryz.prog 95 [.string a0] (Zas a0) Zas.out := by
 refine J.Fn Tryz.func95 ?_
 unfold Zas
 refine sr 3 <| J.a 0 Zc5 fun b1 => J.z 2 <| seq <| sr 3 <| J.z 3 <| J.f ?_ ?_
 ·exact sr 4 <| J.u 0 Zc5 .nil <| J.s 0 0 rfl Zc5 (Upd.w ZbP) <| J.z 2 <| J.rc (.c 0 rfl Zc5 .n)
 refine SJ.skip <| sr 9 <| J.C 1 F97 (Zjh _ _) fun r2 => J.z 7 <| seq <| sr 2 <| J.z 2 <| J.f ?_ ?_
 ·exact sr 6 <| J.u 0 Zc5 .nil <| J.s 2 0 rfl Zc5 (Upd.w ZbP) <| J.z 2 <| J.rc (.c 0 rfl Zc5 .n)
 refine SJ.skip <| sr 8 <| J.C 1 F115 (Zks _) fun r3 => J.a 3 Ty50 fun b4 => J.s 0 0 rfl Ty50 (Upd.w r3.1) <| J.z 1 <| sr 2 <| J.z 2 <| seq <| sr 2 <| J.z 2 <| J.f ?_ ?_
 ·exact SJ.rg 14 <| J.k 4 0 rfl Ty50 (At.whole _) <| J.C 0 F117 (ZiK _) fun r31 => J.C 0 F116 (Zjp _ _ _ _) fun r32 => J.z 7 <| J.q <| Zas.K3_ok a0 b1 r3 b4 r32.2.2 r32.1 r32.2.1
 exact SJ.skip <| J.q <| Zas.K3_ok a0 b1 r3 b4 r3.2 0 0

noncomputable def Zem.out (r_ : (Zbw × Int × Int)) : Value := .tuple #[Za8.val r_.1, .int .i64 r_.2.1, .int .i64 r_.2.2]
noncomputable def Zem (a0 : ByteArray) : M (Zbw × Int × Int) :=
 slot 50 >>= fun b1 =>
 Zfj a0 >>= fun r2 =>
 slot 50 >>= fun b3 =>
 if ¬ (r2.2 = none) then
  draw >>= fun _ =>
  nilck r2.2 >>= fun p8 =>
  ld (cI .i64) p8 >>= fun x9 =>
  nilck r2.2 >>= fun p10 =>
  ld (cI .i64) (Addr.add p10 1) >>= fun x11 =>
  same (cI .i64) (Addr.add p10 1) x11 >>= fun _ =>
  same (cI .i64) p8 x9 >>= fun _ =>
  pure (ZcF, x9, x11)
 else
  pure (r2.1, 0, 0)
theorem ZmV (a0 : ByteArray) : Ref Tryz.prog 96 [.string a0] (Zem a0) Zem.out := by
 refine J.Fn Tryz.func96 ?_
 unfold Zem
 refine sr 3 <| J.a 0 Ty50 fun b1 => J.z 2 <| sr 8 <| J.C 1 F115 (Zks _) fun r2 => J.a 3 Ty50 fun b3 => J.s 0 0 rfl Ty50 (Upd.w r2.1) <| J.z 1 <| seq <| sr 2 <| J.z 2 <| J.f ?_ ?_
 ·exact seq <| J.R 12 ZcY <| J.u 0 Ty50 .nil <| J.n 1 fun p8 => J.l 1 Ty25 fun x9 => J.n 1 fun p10 => J.l 1 Ty3 fun x11 => OJ.kst (y := .tmp 2) (z := .tmp 14) (cd := Za8) (u := ZcF) (j := 1) (b := b1) (o := 0) (Za8.enc ZcF) (owed := [⟨8, 3, (Addr.add p10 1), (cI .i64).val x11⟩, ⟨4, 25, p8, (cI .i64).val x9⟩]) Ty50 rfl (Upd.whole ((Cod.len _ _).trans (Cod.len _ _).symm)) rfl <| OW.same Ty3 <| OW.same Ty25 <| OW.nil <| J.z 2 <| J.rc (.c 1 rfl Ty50 .n)
 exact SJ.skip <| sr 4 <| J.k 0 0 rfl Ty50 (At.whole _) <| J.s 0 1 rfl Ty50 (Upd.w r2.1) <| J.z 2 <| J.rc (.c 1 rfl Ty50 .n)

noncomputable def ZeV.out (r_ : Int) : Value := .int .i64 r_
noncomputable def ZeV (a0 : Int) : M Int :=
 if a0 = 1 then
  if a0 = 1 then
   pure 4
  else
   if a0 = 3 then
    pure 6
   else
    pure 0
 else
  if a0 = 2 then
   pure 4
  else
   if a0 = 3 then
    pure 6
   else
    pure 0
theorem Zly (a0 : Int) : Ref Tryz.prog 98 [.int .i64 a0] (ZeV a0) ZeV.out := by
 refine J.Fn Tryz.func98 ?_
 unfold ZeV
 refine sr 1 <| J.z 1 <| seq <| sr 1 <| J.z 1 <| block (id := 0) <| seq <| sr 2 <| J.z 2 <| J.f ?_ ?_
 ·refine SJ.skip <| J.f ?_ ?_
  ·exact sr 1 <| J.z 1 <| J.r
  refine sr 2 <| J.z 2 <| J.f ?_ ?_
  ·exact sr 1 <| J.z 1 <| J.r
  exact SJ.skip <| inBlock <| sr 1 <| J.z 1 <| J.r
 refine SJ.rg 2 <| J.z 2 <| J.f ?_ ?_
 ·exact sr 1 <| J.z 1 <| J.r
 refine sr 2 <| J.z 2 <| J.f ?_ ?_
 ·exact sr 1 <| J.z 1 <| J.r
 exact SJ.skip <| inBlock <| sr 1 <| J.z 1 <| J.r

noncomputable def ZdS.out (r_ : Bool) : Value := .bool r_
noncomputable def ZdS (a0 : Zag) (a1 : Int) : M Bool :=
 slot 129 >>= fun b1 =>
 ZeV a1 >>= fun r2 =>
 Zcm a0 >>= fun r3 =>
 (if r3 = 0 then
   (if r2 = 0 then
     pure true
    else
     pure (a0.IP.V == r2)) >>= fun y4 =>
   pure y4
  else
   pure false) >>= fun y5 =>
 pure y5
theorem Zh0 (a0 : Zag) (a1 : Int) : Ref Tryz.prog 71 [ZaI.val a0, .int .i64 a1] (ZdS a0 a1) ZdS.out := by
 refine J.Fn Tryz.func71 ?_
 unfold ZdS
 refine sr 2 <| J.b 0 ZaI a0 fun b1 => J.z 1 <| sr 3 <| J.C 1 F98 (Zly _) fun r2 => J.z 1 <| sr 15 <| J.k 0 0 rfl Zc5 (At.whole _) <| J.C 0 F99 (Zeu _) fun r3 => J.g 2 <| OJ.join (b := (r3 == 0)) [4, 5, 6, 7, 8, 9, 10, 11, 12, 13] [14] [21] (fun y5 => [(21, .bool y5)]) [] [] (t := 11) zq (fun hp_ => ?_) (fun hp_ => ?_) (fun _ _ _ _ _ _ h_ => h_) fun y5 => ?_
 ·refine J.g 3 <| OJ.join (b := (r2 == 0)) [7, 8, 9, 10, 11, 12] [13] [11, 20] (fun y4 => [(11, .bool true), (20, .bool y4)]) [] [] (t := 14) zq (fun hp_ => ?_) (fun hp_ => ?_) (fun _ _ _ _ _ hq_ h_ => ⟨fun e_ he_ => (hq_ e_ he_).elim (fun h => h_.1 e_ h) (fun h => nomatch h), h_.2⟩) fun y4 => ?_
  ·exact J.g 6 <| OJ.nil ⟨(Cov.mem Cov.nil), rfl, _, rfl, by kernel_rfl⟩
  ·exact J.k 2 0 rfl Ty3 (At.trans (ZbQ _) (Zd7 _)) <| J.g 3 <| OJ.nil ⟨(Cov.mem Cov.nil), rfl, _, rfl, by kernel_rfl⟩
  exact J.g 1 <| OJ.nil ⟨(Cov.mem Cov.nil), rfl, _, rfl, by kernel_rfl⟩
 ·exact J.g 10 <| OJ.nil ⟨(Cov.mem Cov.nil), rfl, _, rfl, by kernel_rfl⟩
 exact J.z 1 <| J.r

noncomputable def ZaC.B : Code := bod Tryz.f68
noncomputable def ZaC.cx : Fx := ⟨Tryz.prog, 68, Tryz.f68, none⟩
noncomputable def ZaC.out (r_ : Zag) : Value := ZaI.val r_
noncomputable def ZaC.K1 (a0 : (Option Addr)) (a1 : Int) (r2 : ZaG) (j10 : Int) (j11 : Zag) : M Zag :=
 draw >>= fun _ =>
 nilck a0 >>= fun p12 =>
 ld (cI .i64) (Addr.add p12 19) >>= fun x13 =>
 (if x13 = 0 then
   (if j10 ≠ 0 then
     pure true
    else
     pure (a1 == 16)) >>= fun y14 =>
   (if y14 = true then
     pure true
    else
     nilck a0 >>= fun p15 =>
     ld (cI .i64) (Addr.add (Addr.add p15 3) 2) >>= fun x16 =>
     ZdS j11 x16 >>= fun r17 =>
     pure (!r17)) >>= fun y18 =>
   pure y18
  else
   pure false) >>= fun y19 =>
 if y19 = true then
  Za0 a0 163 r2.at_ >>= fun r21 =>
  pure j11
 else
  pure j11
theorem ZaC.K1_ok (a0 : (Option Addr)) (a1 : Int) (b1 : Nat) (r2 : ZaG) (b3 : Nat) (b5 : Nat) (j10 : Int) (j11 : Zag) :
  SJ ZaC.cx [.code (c2 (c2 (c2 (c2 ZaC.B))))] [(0, .pointer a0), (1, .int .i64 a1), (4, .pointer (some (pt b1 0))), (5, .pointer (some (pt b3 0))), (6, .pointer (some (pt b5 0))), (7, .int .i64 j10)] [(b5, ZaI.enc j11), (b3, Zbr.enc r2), (b1, ZaI.enc ZbP)] (ZaC.K1 a0 a1 r2 j10 j11) (rt ZaC.out) := by
 unfold ZaC.K1
 refine seq <| seq <| J.R 23 ZcY <| J.n 1 fun p12 => J.l 1 Ty25 fun x13 => J.g 2 <| OJ.join (b := (x13 == 0)) [6, 7, 8, 9, 10, 11, 12, 13, 14, 15, 16, 17, 18, 19, 20, 21, 22] [] [0, 4, 5, 6, 59] (fun y19 => [(0, .pointer a0), (4, .pointer (some (pt b1 0))), (5, .pointer (some (pt b3 0))), (6, .pointer (some (pt b5 0))), (59, .bool y19)]) [⟨3, 25, (Addr.add p12 19), (cI .i64).val x13⟩] [13, 18] (t := 42) zq (fun hp_ => ?_) (fun hp_ => ?_) (fun _ _ _ _ _ _ h_ => h_) fun y19 => ?_
 ·refine J.g 3 <| OJ.join (b := (j10 != 0)) [9, 10, 11] [12, 13, 14, 15, 16, 17, 18, 19, 20, 21, 22] [0, 4, 5, 6, 42, 48] (fun y14 => [(0, .pointer a0), (4, .pointer (some (pt b1 0))), (5, .pointer (some (pt b3 0))), (6, .pointer (some (pt b5 0))), (42, .bool true), (48, .bool y14)]) [⟨3, 25, (Addr.add p12 19), (cI .i64).val x13⟩] [] (t := 45) bne_iff_ne (fun hp_ => ?_) (fun hp_ => ?_) (fun _ _ _ _ _ hq_ h_ => ⟨fun e_ he_ => (hq_ e_ he_).elim (fun h => h_.1 e_ h) (fun h => nomatch h), h_.2⟩) fun y14 => ?_
  ·exact J.g 3 <| OJ.nil ⟨(Cov.mem (Cov.keep (zk (i := 0) rfl) Cov.nil)), rfl, _, rfl, by kernel_rfl⟩
  ·exact J.g 3 <| OJ.nil ⟨(Cov.mem (Cov.keep (zk (i := 0) rfl) Cov.nil)), rfl, _, rfl, by kernel_rfl⟩
  refine J.g 1 <| OJ.join (b := y14) [13, 14, 15, 16, 17, 18, 19, 20, 21] [22] [0, 4, 5, 6, 42, 58] (fun y18 => [(0, .pointer a0), (4, .pointer (some (pt b1 0))), (5, .pointer (some (pt b3 0))), (6, .pointer (some (pt b5 0))), (42, .bool true), (58, .bool y18)]) [⟨3, 25, (Addr.add p12 19), (cI .i64).val x13⟩] [13, 18] (t := 49) Iff.rfl (fun hp_ => ?_) (fun hp_ => ?_) (fun _ _ _ _ _ hq_ h_ => ⟨fun e_ he_ => by rcases hq_ e_ he_ with h | h; exact h_.1 e_ h; exact .inr ((by decide : ∀ i ∈ [13, 18], i ∈ [13, 18]) _ h), h_.2⟩) fun y18 => ?_
  ·exact J.g 9 <| OJ.nil ⟨(Cov.mem (Cov.keep (zk (i := 0) rfl) Cov.nil)), rfl, _, rfl, by kernel_rfl⟩
  ·exact J.k 0 0 rfl Zc5 (At.whole _) <| J.n 1 fun p15 => J.l 2 Ty3 fun x16 => J.C 0 F71 (Zh0 _ _) fun r17 => J.g 2 <| OJ.nil ⟨(Cov.mem (Cov.drop (zk (i := 1) rfl) (Cov.drop (zk (i := 0) rfl) (Cov.keep (zk (i := 0) rfl) Cov.nil)))), rfl, _, rfl, by kernel_rfl⟩
  exact J.g 1 <| OJ.nil ⟨(Cov.mem (Cov.keep (zk (i := 0) rfl) Cov.nil)), rfl, _, rfl, by kernel_rfl⟩
 ·exact J.g 17 <| OJ.nil ⟨(Cov.mem (Cov.keep (zk (i := 0) rfl) Cov.nil)), rfl, _, rfl, by kernel_rfl⟩
 refine J.z 0 <| J.f ?_ ?_
 ·exact SJ.rg 4 <| J.k 2 1 rfl Ty3 (ZbN _) <| J.C 0 F21 (Zbl _ _ _) fun r21 => J.z 0 <| sr 2 <| J.k 0 0 rfl Zc5 (At.whole _) <| J.s 0 2 rfl Zc5 (Upd.w j11) <| J.z 0 <| J.rc (.c 2 rfl Zc5 .n)
 exact SJ.skip <| sr 2 <| J.k 0 0 rfl Zc5 (At.whole _) <| J.s 0 2 rfl Zc5 (Upd.w j11) <| J.z 0 <| J.rc (.c 2 rfl Zc5 .n)
noncomputable def ZaC.K2 (a0 : (Option Addr)) (a1 : Int) (r2 : ZaG) (r23 : (Zbw × Int × Int)) (j25 : Zag) : M Zag :=
 ZaC.K1 a0 a1 r2 r23.2.1 j25
theorem ZaC.K2_ok (a0 : (Option Addr)) (a1 : Int) (b1 : Nat) (r2 : ZaG) (b3 : Nat) (b5 : Nat) (r23 : (Zbw × Int × Int)) (j25 : Zag) :
  SJ ZaC.cx [.code (c2 (c2 (c2 (c2 ZaC.B))))] [(0, .pointer a0), (1, .int .i64 a1), (4, .pointer (some (pt b1 0))), (5, .pointer (some (pt b3 0))), (6, .pointer (some (pt b5 0))), (7, .int .i64 r23.2.1)] [(b5, ZaI.enc j25), (b3, Zbr.enc r2), (b1, ZaI.enc ZbP)] (ZaC.K2 a0 a1 r2 r23 j25) (rt ZaC.out) := by
 unfold ZaC.K2
 exact J.q <| ZaC.K1_ok a0 a1 b1 r2 b3 b5 r23.2.1 j25
noncomputable def ZaC (a0 : (Option Addr)) (a1 : Int) : M Zag :=
 slot 129 >>= fun b1 =>
 Zb0 a0 >>= fun r2 =>
 slot 90 >>= fun b3 =>
 Zas r2.s >>= fun r4 =>
 slot 129 >>= fun b5 =>
 if r4.2.1 ≠ 0 then
  Zem r2.s >>= fun r23 =>
  slot 50 >>= fun b24 =>
  if r23.1.V = 6 then
   ZaC.K2 a0 a1 r2 r23 (⟨r23.1, 128⟩ : Zag)
  else
   ZaC.K2 a0 a1 r2 r23 (⟨r23.1, 32⟩ : Zag)
 else
  ZaC.K1 a0 a1 r2 r4.2.1 r4.1
theorem ZjC (a0 : (Option Addr)) (a1 : Int) : Ref Tryz.prog 68 [.pointer a0, .int .i64 a1] (ZaC a0 a1) ZaC.out := by
 refine J.Fn Tryz.func68 ?_
 unfold ZaC
 refine sr 1 <| J.a 0 Zc5 fun b1 => J.z 0 <| sr 4 <| J.C 1 F64 (Zdu _) fun r2 => J.a 0 Ty90 fun b3 => J.s 0 0 rfl Ty90 (Upd.w r2) <| J.z 0 <| sr 11 <| J.k 1 0 rfl Ty9 (Zbq _) <| J.C 0 F95 (ZjR _) fun r4 => J.a 4 Zc5 fun b5 => J.s 0 0 rfl Zc5 (Upd.w r4.1) <| J.z 2 <| seq <| sr 2 <| J.z 2 <| J.f ?_ ?_
 ·refine sr 11 <| J.k 1 1 rfl Ty9 (Zbq _) <| J.C 0 F96 (ZmV _) fun r23 => J.a 4 Ty50 fun b24 => J.s 0 0 rfl Ty50 (Upd.w r23.1) <| J.z 2 <| sr 5 <| J.k 0 0 rfl Ty50 (At.whole _) <| J.u 0 Zc5 (.f 0 (Zf5 _ r23.1) (.f 1 (ZeZ _ 32) .nil)) <| J.s 1 1 rfl Zc5 (Upd.w (⟨r23.1, 32⟩ : Zag)) <| J.z 1 <| sr 3 <| J.k 1 0 rfl Ty3 (Zd7 _) <| J.z 1 <| J.f ?_ ?_
  ·exact SJ.rg 2 <| J.s 1 1 rfl Ty3 (ZeZ _ 128) <| J.z 0 <| SJ.forget (List.Sublist.cons _ (List.Sublist.cons_cons _ (List.Sublist.cons_cons _ (List.Sublist.cons_cons _ List.Sublist.slnil)))) <| J.q <| ZaC.K2_ok a0 a1 b1 r2 b3 b5 r23 (⟨r23.1, 128⟩ : Zag)
  exact SJ.skip <| SJ.forget (List.Sublist.cons _ (List.Sublist.cons_cons _ (List.Sublist.cons_cons _ (List.Sublist.cons_cons _ List.Sublist.slnil)))) <| J.q <| ZaC.K2_ok a0 a1 b1 r2 b3 b5 r23 (⟨r23.1, 32⟩ : Zag)
 exact SJ.skip <| J.q <| ZaC.K1_ok a0 a1 b1 r2 b3 b5 r4.2.1 r4.1

noncomputable def Zel.out (r_ : Bool) : Value := .bool r_
noncomputable def Zel (a0 : Int) : M Bool :=
 (if a0 = 6 then
   pure true
  else
   pure (a0 == 17)) >>= fun y1 =>
 pure y1
theorem Ziq (a0 : Int) : Ref Tryz.prog 69 [.int .i64 a0] (Zel a0) Zel.out := by
 refine J.Fn Tryz.func69 ?_
 unfold Zel
 refine sr 1 <| J.z 1 <| sr 7 <| J.j 3 2 .bool ?_ ?_ fun y1 => ?_
 ·exact J.e 3
 ·exact J.e 3
 exact J.z 1 <| J.r

noncomputable def ZaV.B : Code := bod Tryz.f70
noncomputable def ZaV.cx : Fx := ⟨Tryz.prog, 70, Tryz.f70, none⟩
noncomputable def ZaV.out (r_ : ZaH) : Value := Zbd.val r_
noncomputable def ZaV.K1 (a0 : (Option Addr)) (a1 : Int) (r2 : ZaG) (r4 : (ByteArray × ByteArray × Bool)) (j5 : ByteArray) : M ZaH :=
 Zbg r4.1 0 65535 >>= fun r6 =>
 Zbg j5 0 65535 >>= fun r7 =>
 nilck a0 >>= fun p8 =>
 ld (cI .i64) (Addr.add p8 19) >>= fun x9 =>
 (if x9 = 0 then
   (if ¬ (r6.2 = true) then
     pure true
    else
     pure (!r7.2)) >>= fun y10 =>
   (if y10 = true then
     pure true
    else
     pure (decide (r6.1 > r7.1))) >>= fun y11 =>
   (if y11 = true then
     pure true
    else
     pure (a1 == 16)) >>= fun y12 =>
   pure y12
  else
   pure false) >>= fun y13 =>
 if y13 = true then
  Za0 a0 164 r2.at_ >>= fun r15 =>
  pure (⟨r6.1, r7.1⟩ : ZaH)
 else
  pure (⟨r6.1, r7.1⟩ : ZaH)
theorem ZaV.K1_ok (a0 : (Option Addr)) (a1 : Int) (b1 : Nat) (r2 : ZaG) (b3 : Nat) (r4 : (ByteArray × ByteArray × Bool)) (j5 : ByteArray) :
  SJ ZaV.cx [.code (c2 (c2 (c2 (c2 ZaV.B))))] [(0, .pointer a0), (1, .int .i64 a1), (4, .pointer (some (pt b1 0))), (5, .pointer (some (pt b3 0))), (6, .string r4.1), (7, .string j5)] [(b3, Zbr.enc r2), (b1, Zbd.enc Zgn)] (ZaV.K1 a0 a1 r2 r4 j5) (rt ZaV.out) := by
 unfold ZaV.K1
 refine sr 7 <| J.C 1 F65 (Zfs _ _ _) fun r6 => J.z 5 <| sr 7 <| J.C 1 F65 (Zfs _ _ _) fun r7 => J.z 5 <| seq <| sr 22 <| J.n 1 fun p8 => J.l 1 Ty25 fun x9 => J.g 2 <| OJ.join (b := (x9 == 0)) [6, 7, 8, 9, 10, 11, 12, 13, 14, 15, 16, 17, 18, 19, 20, 21] [] [0, 4, 5, 9, 11, 56] (fun y13 => [(0, .pointer a0), (4, .pointer (some (pt b1 0))), (5, .pointer (some (pt b3 0))), (9, .int .i64 r6.1), (11, .int .i64 r7.1), (56, .bool y13)]) [] [] (t := 40) zq (fun hp_ => ?_) (fun hp_ => ?_) (fun _ _ _ _ _ _ h_ => h_) fun y13 => ?_
 ·refine J.g 3 <| OJ.join (b := (!r6.2)) [9, 10, 11] [12, 13, 14, 15, 16, 17, 18, 19, 20, 21] [0, 1, 4, 5, 9, 11, 40, 46] (fun y10 => [(0, .pointer a0), (1, .int .i64 a1), (4, .pointer (some (pt b1 0))), (5, .pointer (some (pt b3 0))), (9, .int .i64 r6.1), (11, .int .i64 r7.1), (40, .bool true), (46, .bool y10)]) [] [] (t := 43) (ZoT Iff.rfl) (fun hp_ => ?_) (fun hp_ => ?_) (fun _ _ _ _ _ hq_ h_ => ⟨fun e_ he_ => (hq_ e_ he_).elim (fun h => h_.1 e_ h) (fun h => nomatch h), h_.2⟩) fun y10 => ?_
  ·exact J.g 3 <| OJ.nil ⟨(Cov.mem Cov.nil), rfl, _, rfl, by kernel_rfl⟩
  ·exact J.g 3 <| OJ.nil ⟨(Cov.mem Cov.nil), rfl, _, rfl, by kernel_rfl⟩
  refine J.g 1 <| OJ.join (b := y10) [13, 14, 15, 16] [17, 18, 19, 20, 21] [0, 1, 4, 5, 9, 11, 40, 51] (fun y11 => [(0, .pointer a0), (1, .int .i64 a1), (4, .pointer (some (pt b1 0))), (5, .pointer (some (pt b3 0))), (9, .int .i64 r6.1), (11, .int .i64 r7.1), (40, .bool true), (51, .bool y11)]) [] [] (t := 47) Iff.rfl (fun hp_ => ?_) (fun hp_ => ?_) (fun _ _ _ _ _ hq_ h_ => ⟨fun e_ he_ => (hq_ e_ he_).elim (fun h => h_.1 e_ h) (fun h => nomatch h), h_.2⟩) fun y11 => ?_
  ·exact J.g 4 <| OJ.nil ⟨(Cov.mem Cov.nil), rfl, _, rfl, by kernel_rfl⟩
  ·exact J.g 4 <| OJ.nil ⟨(Cov.mem Cov.nil), rfl, _, rfl, by kernel_rfl⟩
  refine J.g 1 <| OJ.join (b := y11) [18, 19, 20] [21] [0, 4, 5, 9, 11, 40, 55] (fun y12 => [(0, .pointer a0), (4, .pointer (some (pt b1 0))), (5, .pointer (some (pt b3 0))), (9, .int .i64 r6.1), (11, .int .i64 r7.1), (40, .bool true), (55, .bool y12)]) [] [] (t := 52) Iff.rfl (fun hp_ => ?_) (fun hp_ => ?_) (fun _ _ _ _ _ hq_ h_ => ⟨fun e_ he_ => (hq_ e_ he_).elim (fun h => h_.1 e_ h) (fun h => nomatch h), h_.2⟩) fun y12 => ?_
  ·exact J.g 3 <| OJ.nil ⟨(Cov.mem Cov.nil), rfl, _, rfl, by kernel_rfl⟩
  ·exact J.g 3 <| OJ.nil ⟨(Cov.mem Cov.nil), rfl, _, rfl, by kernel_rfl⟩
  exact J.g 1 <| OJ.nil ⟨(Cov.mem Cov.nil), rfl, _, rfl, by kernel_rfl⟩
 ·exact J.g 16 <| OJ.nil ⟨(Cov.mem Cov.nil), rfl, _, rfl, by kernel_rfl⟩
 refine J.z 0 <| J.f ?_ ?_
 ·exact SJ.rg 4 <| J.k 2 0 rfl Ty3 (ZbN _) <| J.C 0 F21 (Zbl _ _ _) fun r15 => J.z 0 <| sr 4 <| J.u 2 Zgj (.f 0 (ZfF _ r6.1) (.f 1 (ZfG _ r7.1) .nil)) <| J.s 0 1 rfl Zgj (Upd.w (⟨r6.1, r7.1⟩ : ZaH)) <| J.z 0 <| J.rc (.c 1 rfl Zgj .n)
 exact SJ.skip <| sr 4 <| J.u 2 Zgj (.f 0 (ZfF _ r6.1) (.f 1 (ZfG _ r7.1) .nil)) <| J.s 0 1 rfl Zgj (Upd.w (⟨r6.1, r7.1⟩ : ZaH)) <| J.z 0 <| J.rc (.c 1 rfl Zgj .n)
noncomputable def ZaV (a0 : (Option Addr)) (a1 : Int) : M ZaH :=
 slot 131 >>= fun b1 =>
 Zb0 a0 >>= fun r2 =>
 slot 90 >>= fun b3 =>
 ZdE r2.s Zpe >>= fun r4 =>
 if ¬ (r4.2.2 = true) then
  ZaV.K1 a0 a1 r2 r4 r4.1
 else
  ZaV.K1 a0 a1 r2 r4 r4.2.1
theorem Zio (a0 : (Option Addr)) (a1 : Int) : Ref Tryz.prog 70 [.pointer a0, .int .i64 a1] (ZaV a0 a1) ZaV.out := by
 refine J.Fn Tryz.func70 ?_
 unfold ZaV
 refine sr 1 <| J.a 0 Zgj fun b1 => J.z 0 <| sr 4 <| J.C 1 F64 (Zdu _) fun r2 => J.a 0 Ty90 fun b3 => J.s 0 0 rfl Ty90 (Upd.w r2) <| J.z 0 <| sr 10 <| J.k 1 0 rfl Ty9 (Zbq _) <| J.C 0 F97 (Zjh _ _) fun r4 => J.z 7 <| seq <| sr 2 <| J.z 2 <| J.f ?_ ?_
 ·exact SJ.rg 2 <| J.z 2 <| J.q <| ZaV.K1_ok a0 a1 b1 r2 b3 r4 r4.1
 exact SJ.skip <| J.q <| ZaV.K1_ok a0 a1 b1 r2 b3 r4 r4.2.1
end Go.Proofs.YtfnokeoldcfcoaaGreatDoor.Lx
