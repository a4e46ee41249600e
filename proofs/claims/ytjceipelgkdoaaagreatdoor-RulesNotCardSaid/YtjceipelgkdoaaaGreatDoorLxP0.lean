/- Programs of the M-world for Go functions, each with the proof that the Go text does what it says. Printed by lxgen.py. -/
import Derived.Test.YtjceipelgkdoaaaGreatDoorLxT
set_option linter.unusedVariables false
set_option linter.unusedSimpArgs false
set_option linter.unusedSectionVars false
namespace Go.Proofs.YtjceipelgkdoaaaGreatDoor.Lx
open Go Go.Proofs
variable [Zdg]
/-! ### weir/weirlaw16.line: function 14 -/
noncomputable def Zcv.B : Code := bod Tryz.f14
noncomputable def Zcv.out (r_ : (ByteArray × Zah)) : Value := .tuple #[.string r_.1, Zan.val r_.2]
noncomputable def Zcv  : M (ByteArray × Zah) :=
 slot 63 >>= fun b1 =>
 slot 91 >>= fun b2 =>
 draws 14 2 (Zei (c1 (c2 (c2 Zcv.B)))) >>= fun o3 =>
 if bfr o3 1 4 = true then
  newv 91 (Zay.arr 1) (⟨[(⟨(⟨4, (⟨[10, 0, 0, 0, 0, 0, 0, 0, 0, 0, 0, 0, 0, 0, 0, 0], rfl⟩ : (Vec Int 16))⟩ : Zbn), 8⟩ : Zac)], rfl⟩ : Vec Zac 1) >>= fun b10 =>
  newv 93 (ZaU.arr 1) (⟨[(⟨80, 80⟩ : ZaD)], rfl⟩ : Vec ZaD 1) >>= fun b11 =>
  pure (str0, (⟨1, Zaa.Class, Zaa.Kind, 6, Zaa.In, Zaa.Vid, (⟨Zaw.Not, (⟨some (pt b10 0), 1, 1⟩ : Sl), Zaw.Ports⟩ : Zae), (⟨Zaw.Not, Zaw.Nets, (⟨some (pt b11 0), 1, 1⟩ : Sl)⟩ : Zae), Zaa.Set, Zaa.Clear, Zaa.Type_, Zaa.Pieces⟩ : Zah))
 else
  newv 93 (ZaU.arr 1) (⟨[(⟨80, 80⟩ : ZaD)], rfl⟩ : Vec ZaD 1) >>= fun b12 =>
  newv 91 (Zay.arr 1) (⟨[(⟨(⟨4, (⟨[10, 0, 0, 0, 0, 0, 0, 0, 0, 0, 0, 0, 0, 0, 0, 0], rfl⟩ : (Vec Int 16))⟩ : Zbn), 8⟩ : Zac)], rfl⟩ : Vec Zac 1) >>= fun b13 =>
  pure (str0, (⟨1, Zaa.Class, Zaa.Kind, 6, Zaa.In, Zaa.Vid, (⟨Zaw.Not, (⟨some (pt b13 0), 1, 1⟩ : Sl), Zaw.Ports⟩ : Zae), (⟨Zaw.Not, Zaw.Nets, (⟨some (pt b12 0), 1, 1⟩ : Sl)⟩ : Zae), Zaa.Set, Zaa.Clear, Zaa.Type_, Zaa.Pieces⟩ : Zah))
theorem Zit  : Ref Tryz.prog 14 [] (Zcv) Zcv.out := by
 refine J.Fn Tryz.func14 ?_
 unfold Zcv
 refine SJ.sr 2 <| J.a 1 Ty63 fun b1 => J.z 0 <| SJ.sr 5 <| OJ.build (d := 3) (T := 26) (parts := [(0, .const (.int .u8 10))]) (ps := [(0, (cI .u8).val 10)]) (cd := ((cI .u8).arr 16)) (z0 := (Vec.rep 16 0)) (⟨[10, 0, 0, 0, 0, 0, 0, 0, 0, 0, 0, 0, 0, 0, 0, 0], rfl⟩ : (Vec Int 16)) Ty26 rfl (ZbV.cons (cd := (cI .u8)) (q := 10) (o := 0) (by kernel_rfl) (Upd.arr (i := 0) (by decide) (by decide)) ZbV.nil) <| J.u 0 Ty28 (.f 0 (ZhV _ 4) (.f 1 (ZhW _ (⟨[10, 0, 0, 0, 0, 0, 0, 0, 0, 0, 0, 0, 0, 0, 0, 0], rfl⟩ : (Vec Int 16))) .nil)) <| J.u 0 Ty91 (.f 0 (ZeV _ (⟨4, (⟨[10, 0, 0, 0, 0, 0, 0, 0, 0, 0, 0, 0, 0, 0, 0, 0], rfl⟩ : (Vec Int 16))⟩ : Zbn)) (.f 1 (Zd0 _ 8) .nil)) <| J.a 0 Ty91 fun b2 => J.s 0 0 rfl Ty91 (Upd.w (⟨(⟨4, (⟨[10, 0, 0, 0, 0, 0, 0, 0, 0, 0, 0, 0, 0, 0, 0, 0], rfl⟩ : (Vec Int 16))⟩ : Zbn), 8⟩ : Zac)) <| J.z 0 <| SJ.seq <| SJ.draws (id := 2) (kd := [1, 2, 0, 0, 2, 0, 0, 0, 2]) (bef := [0, 1, 3, 0, 8, 24, 63, 0, 255]) (ord := [0, 1, 2, 3, 4, 5, 6, 7, 8]) (E := [(1, 4)]) ZcZ fun o3 hg_ => SJ.bfr hg_ (by decide) (fun ho9 => ?_) fun ho9 => ?_
 ·exact SJ.leaf hg_ (kd := [1, 2, 0, 0, 2, 0, 0, 0, 2]) (bef := [0, 1, 3, 0, 8, 24, 63, 0, 255]) (ord := [0, 1, 2, 3, 4, 5, 6, 7, 8]) (E := [(1, 4)]) (allB.cons ho9 allB.nil) <| J.k 0 0 rfl Ty91 (At.whole _) <| J.N 0 Ty91 fun b10 => J.u 0 Ty61 (.f 1 (Zcq _ (⟨some (pt b10 0), 1, 1⟩ : Sl)) .nil) <| J.u 0 Ty93 (.f 0 (Zeu _ 80) (.f 1 (Zev _ 80) .nil)) <| OJ.rowNew (d := 10) (t := 59) (parts := [(0, .tmp 9)]) (ps := [(0, ZaU.val (⟨80, 80⟩ : ZaD))]) (cd := ZaU) (owed := [⟨0, 91, (pt b2 0), Zay.val (⟨(⟨4, (⟨[10, 0, 0, 0, 0, 0, 0, 0, 0, 0, 0, 0, 0, 0, 0, 0], rfl⟩ : (Vec Int 16))⟩ : Zbn), 8⟩ : Zac)⟩]) Ty93 (ZbV.cons (cd := ZaU) (q := (⟨80, 80⟩ : ZaD)) (o := 0) rfl (Upd.arr (i := 0) (by decide) (by decide)) ZbV.nil) fun b11 => OW.known (j := 0) (q := (⟨(⟨4, (⟨[10, 0, 0, 0, 0, 0, 0, 0, 0, 0, 0, 0, 0, 0, 0, 0], rfl⟩ : (Vec Int 16))⟩ : Zbn), 8⟩ : Zac)) Ty91 rfl (At.whole _) <| OW.nil <| J.u 0 Ty61 (.f 2 (ZdY _ (⟨some (pt b11 0), 1, 1⟩ : Sl)) .nil) <| J.u 0 Ty63 (.f 0 (Zcm _ 1) (.f 3 (ZdZ _ 6) (.f 6 (ZcH _ (⟨Zaw.Not, (⟨some (pt b10 0), 1, 1⟩ : Sl), Zaw.Ports⟩ : Zae)) (.f 7 (Zdd _ (⟨Zaw.Not, Zaw.Nets, (⟨some (pt b11 0), 1, 1⟩ : Sl)⟩ : Zae)) .nil)))) <| J.s 1 1 rfl Ty63 (Upd.w (⟨1, Zaa.Class, Zaa.Kind, 6, Zaa.In, Zaa.Vid, (⟨Zaw.Not, (⟨some (pt b10 0), 1, 1⟩ : Sl), Zaw.Ports⟩ : Zae), (⟨Zaw.Not, Zaw.Nets, (⟨some (pt b11 0), 1, 1⟩ : Sl)⟩ : Zae), Zaa.Set, Zaa.Clear, Zaa.Type_, Zaa.Pieces⟩ : Zah)) <| J.z 0 <| J.rc (.c 1 rfl Ty63 .n)
 exact SJ.leaf hg_ (kd := [1, 2, 0, 0, 2, 0, 0, 0, 2]) (bef := [0, 1, 3, 0, 8, 24, 63, 0, 255]) (ord := [0, 3, 4, 1, 2, 5, 6, 7, 8]) (E := [(4, 1)]) (allB.cons ho9 allB.nil) <| J.k 0 0 rfl Ty91 (At.whole _) <| J.u 0 Ty93 (.f 0 (Zeu _ 80) (.f 1 (Zev _ 80) .nil)) <| OJ.rowNew (d := 10) (t := 59) (parts := [(0, .tmp 9)]) (ps := [(0, ZaU.val (⟨80, 80⟩ : ZaD))]) (cd := ZaU) (owed := [⟨0, 91, (pt b2 0), Zay.val (⟨(⟨4, (⟨[10, 0, 0, 0, 0, 0, 0, 0, 0, 0, 0, 0, 0, 0, 0, 0], rfl⟩ : (Vec Int 16))⟩ : Zbn), 8⟩ : Zac)⟩]) Ty93 (ZbV.cons (cd := ZaU) (q := (⟨80, 80⟩ : ZaD)) (o := 0) rfl (Upd.arr (i := 0) (by decide) (by decide)) ZbV.nil) fun b12 => OW.known (j := 0) (q := (⟨(⟨4, (⟨[10, 0, 0, 0, 0, 0, 0, 0, 0, 0, 0, 0, 0, 0, 0, 0], rfl⟩ : (Vec Int 16))⟩ : Zbn), 8⟩ : Zac)) Ty91 rfl (At.whole _) <| OW.nil <| J.N 0 Ty91 fun b13 => J.u 0 Ty61 (.f 1 (Zcq _ (⟨some (pt b13 0), 1, 1⟩ : Sl)) .nil) <| J.u 0 Ty61 (.f 2 (ZdY _ (⟨some (pt b12 0), 1, 1⟩ : Sl)) .nil) <| J.u 0 Ty63 (.f 0 (Zcm _ 1) (.f 3 (ZdZ _ 6) (.f 6 (ZcH _ (⟨Zaw.Not, (⟨some (pt b13 0), 1, 1⟩ : Sl), Zaw.Ports⟩ : Zae)) (.f 7 (Zdd _ (⟨Zaw.Not, Zaw.Nets, (⟨some (pt b12 0), 1, 1⟩ : Sl)⟩ : Zae)) .nil)))) <| J.s 1 1 rfl Ty63 (Upd.w (⟨1, Zaa.Class, Zaa.Kind, 6, Zaa.In, Zaa.Vid, (⟨Zaw.Not, (⟨some (pt b13 0), 1, 1⟩ : Sl), Zaw.Ports⟩ : Zae), (⟨Zaw.Not, Zaw.Nets, (⟨some (pt b12 0), 1, 1⟩ : Sl)⟩ : Zae), Zaa.Set, Zaa.Clear, Zaa.Type_, Zaa.Pieces⟩ : Zah)) <| J.z 0 <| J.rc (.c 1 rfl Ty63 .n)

/-! ### weir/rules.words: function 24 -/
noncomputable def ZaI.B : Code := bod Tryz.f24
noncomputable def ZaI.cx : Fx := ⟨Tryz.prog, 24, Tryz.f24, none⟩
noncomputable def ZaI.out (r_ : (Sl × Int)) : Value := .tuple #[Sl.v r_.1, .int .i64 r_.2]
noncomputable def ZaI.F1 (a0 : ByteArray) : LF (Sl × Int) (Sl × Int) := ⟨[.inBlock 0, .code (c2 (c2 (c2 ZaI.B)))], c1 (c2 (c1 (c2 (c2 ZaI.B)))), fun s_ => [(0, .string a0), (4, Sl.v s_.1), (5, .int .i64 s_.2)], fun s_ => [], (rt ZaI.out)⟩
noncomputable def ZaI.K1 (a0 : ByteArray) (s1 : Sl) (s2 : Int) (s42 : Int) : M (LS (Sl × Int) (Sl × Int)) :=
 chk ((0 : Int) ≤ s2 ∧ s2 < (a0.size : Int)) >>= fun _ =>
 if s42 > s2 then
  chk (0 ≤ (s2 : Int) ∧ (s2 : Int) ≤ s42 ∧ s42 ≤ (a0.size : Int)) >>= fun _ =>
  slot 102 >>= fun b60 =>
  appl Za9 102 24 Zcw s1 [(⟨(ByteArray.extract a0 (Int.toNat s2) (Int.toNat s42)), s2⟩ : ZaA)] >>= fun r61 =>
  pure (LS.next (r61, s42))
 else
  if (sb a0 s2) = 44 then
   chk (0 ≤ (s2 : Int) ∧ (s2 : Int) ≤ (IntKind.wrap .i64 (s42 + 1)) ∧ (IntKind.wrap .i64 (s42 + 1)) ≤ (a0.size : Int)) >>= fun _ =>
   slot 102 >>= fun b64 =>
   appl Za9 102 24 Zcw s1 [(⟨(ByteArray.extract a0 (Int.toNat s2) (Int.toNat (IntKind.wrap .i64 (s42 + 1)))), s2⟩ : ZaA)] >>= fun r65 =>
   pure (LS.next (r65, IntKind.wrap .i64 (s42 + 1)))
  else
   (if (sb a0 s2) = 32 then
     pure true
    else
     pure ((sb a0 s2) == 9)) >>= fun y66 =>
   if y66 = true then
    pure (LS.next (s1, IntKind.wrap .i64 (s2 + 1)))
   else
    pure (LS.done (Sl.nil, s2))
theorem ZaI.K1_ok (a0 : ByteArray) (s1 : Sl) (s2 : Int) (s42 : Int) :
  SJ ZaI.cx [.code (c2 (c2 (c1 (c2 (c1 (c1 (c2 (c1 (c2 (c2 ZaI.B)))))))))), .inBlock 1, .inLoop (c1 (c1 (c2 (c1 (c2 (c2 ZaI.B)))))), .inBlock 0, .code (c2 (c2 (c2 ZaI.B)))] [(0, .string a0), (4, Sl.v s1), (5, .int .i64 s2), (6, .int .i64 s42)] [] (ZaI.K1 a0 s1 s2 s42) (ZaI.F1 a0).f := by
 unfold ZaI.K1
 refine SJ.seq <| SJ.sr 4 <| J.t 2 fun hb53 hb54 => J.z 1 <| SJ.block (id := 4) <| SJ.sr 4 <| J.z 4 <| J.f ?_ ?_
 ·exact SJ.skip <| SJ.inBlock <| SJ.sr 10 <| J.ct 4 <| J.u 1 Zds (.f 0 (ZgX _ (ByteArray.extract a0 (Int.toNat s2) (Int.toNat s42))) (.f 1 (ZfV _ s2) .nil)) <| J.S 0 [(⟨(ByteArray.extract a0 (Int.toNat s2) (Int.toNat s42)), s2⟩ : ZaA)] Zds fun b60 => J.p 0 0 rfl Zds fun r61 => J.z 1 <| SJ.rg 2 <| J.z 2 <| SJ.inBlock <| SJ.forget (List.Sublist.cons _ List.Sublist.slnil) <| J.o rfl
 refine SJ.sr 3 <| J.z 3 <| J.f ?_ ?_
 ·exact SJ.rg 3 <| J.z 3 <| SJ.inBlock <| SJ.sr 10 <| J.ct 4 <| J.u 1 Zds (.f 0 (ZgX _ (ByteArray.extract a0 (Int.toNat s2) (Int.toNat (IntKind.wrap .i64 (s42 + 1))))) (.f 1 (ZfV _ s2) .nil)) <| J.S 0 [(⟨(ByteArray.extract a0 (Int.toNat s2) (Int.toNat (IntKind.wrap .i64 (s42 + 1)))), s2⟩ : ZaA)] Zds fun b64 => J.p 0 0 rfl Zds fun r65 => J.z 1 <| SJ.rg 2 <| J.z 2 <| SJ.inBlock <| SJ.forget (List.Sublist.cons _ List.Sublist.slnil) <| J.o rfl
 refine SJ.sr 7 <| J.j 3 2 .bool ?_ ?_ fun y66 => ?_
 ·exact J.e 3
 ·exact J.e 3
 refine J.z 1 <| J.f ?_ ?_
 ·exact SJ.sr 3 <| J.z 3 <| SJ.exit (id := 1) (by rfl) <| J.o rfl
 exact SJ.sr 3 <| J.z 3 <| J.r
noncomputable def ZaI.F2 (a0 : ByteArray) (s1 : Sl) (s2 : Int) : LF Int (LS (Sl × Int) (Sl × Int)) := ⟨[.inBlock 2, .code (c2 (c2 (c1 (c2 (c1 (c1 (c2 (c1 (c2 (c2 ZaI.B)))))))))), .inBlock 1, .inLoop (c1 (c1 (c2 (c1 (c2 (c2 ZaI.B)))))), .inBlock 0, .code (c2 (c2 (c2 ZaI.B)))], c1 (c1 (c2 (c1 (c2 (c1 (c1 (c2 (c1 (c2 (c2 ZaI.B)))))))))), fun s_ => [(0, .string a0), (4, Sl.v s1), (5, .int .i64 s2), (6, .int .i64 s_)], fun s_ => [], (ZaI.F1 a0).f⟩
noncomputable def ZaI.L2 (a0 : ByteArray) (s1 : Sl) (s2 : Int) (s42 : Int) : M (LS Int (LS (Sl × Int) (Sl × Int))) :=
 (if s42 < (a0.size : Int) then
   chk ((0 : Int) ≤ s42 ∧ s42 < (a0.size : Int)) >>= fun _ =>
   pure (decide ((sb a0 s42) > 32))
  else
   pure false) >>= fun y72 =>
 (if y72 = true then
   chk ((0 : Int) ≤ s42 ∧ s42 < (a0.size : Int)) >>= fun _ =>
   pure (decide ((sb a0 s42) < 127))
  else
   pure false) >>= fun y75 =>
 (if y75 = true then
   chk ((0 : Int) ≤ s42 ∧ s42 < (a0.size : Int)) >>= fun _ =>
   pure ((sb a0 s42) != 44)
  else
   pure false) >>= fun y78 =>
 if y78 = true then
  pure (LS.next (IntKind.wrap .i64 (s42 + 1)))
 else
  (ZaI.K1 a0 s1 s2 s42) >>= fun b => pure (LS.done b)
theorem ZaI.L2_ok (a0 : ByteArray) (s1 : Sl) (s2 : Int) : LJ ZaI.cx (ZaI.F2 a0 s1 s2) (fun s_ => ZaI.L2 a0 s1 s2 s_) := by
 rintro s42
 show SJ _ _ _ _ (ZaI.L2 a0 s1 s2 s42) _
 unfold ZaI.L2
 refine SJ.seq <| SJ.sr 22 <| J.j 5 4 .bool ?_ ?_ fun y72 => ?_
 ·exact J.t 2 fun hb70 hb71 => J.e 2
 ·exact J.e 5
 refine J.j 1 4 .bool ?_ ?_ fun y75 => ?_
 ·exact J.t 2 fun hb73 hb74 => J.e 2
 ·exact J.e 5
 refine J.j 1 4 .bool ?_ ?_ fun y78 => ?_
 ·exact J.t 2 fun hb76 hb77 => J.e 2
 ·exact J.e 5
 refine J.z 0 <| J.f ?_ ?_
 ·exact SJ.skip <| SJ.block (id := 3) <| SJ.rg 3 <| J.z 3 <| SJ.inBlock <| J.o rfl
 exact SJ.exit (id := 2) (by rfl) <| J.q <| SJ.done <| ZaI.K1_ok a0 s1 s2 s42
noncomputable def ZaI.L1 (a0 : ByteArray) (s1 : Sl) (s2 : Int) : M (LS (Sl × Int) (Sl × Int)) :=
 if s2 < (a0.size : Int) then
  Zc7 (fun s_ : Int => ZaI.L2 a0 s1 s2 s_) s2
 else
  pure (LS.done (s1, (-1)))
theorem ZaI.L1_ok (a0 : ByteArray) : LJ ZaI.cx (ZaI.F1 a0) (fun s_ => ZaI.L1 a0 s_.1 s_.2) := by
 rintro ⟨s1, s2⟩
 show SJ _ _ _ _ (ZaI.L1 a0 s1 s2) _
 unfold ZaI.L1
 refine SJ.seq <| SJ.sr 4 <| J.z 4 <| J.f ?_ ?_
 ·exact SJ.skip <| SJ.block (id := 1) <| SJ.sr 2 <| J.z 2 <| SJ.seq <| SJ.block (id := 2) <| J.L (ZaI.L2_ok a0 s1 s2)
 exact SJ.exit (id := 0) (by rfl) <| SJ.sr 3 <| J.z 3 <| J.r
noncomputable def ZaI (a0 : ByteArray) : M (Sl × Int) :=
 Zc7 (fun s_ : (Sl × Int) => ZaI.L1 a0 s_.1 s_.2) (Sl.nil, 0)
theorem Zkr (a0 : ByteArray) : Ref Tryz.prog 24 [.string a0] (ZaI a0) ZaI.out := by
 refine J.Fn Tryz.func24 ?_
 unfold ZaI
 exact SJ.sr 2 <| J.z 2 <| SJ.sr 1 <| J.z 1 <| SJ.seq <| SJ.sr 1 <| J.z 1 <| SJ.block (id := 0) <| J.L (ZaI.L1_ok a0)

/-! ### (*weir/rules.reader).fail: function 27 -/
noncomputable def ZaN.out (r_ : Unit) : Value := .tuple #[]
noncomputable def ZaN (a0 : (Option Addr)) (a1 : Int) (a2 : Int) : M Unit :=
 nilck a0 >>= fun p1 =>
 ld (cI .i64) (Addr.add p1 19) >>= fun x2 =>
 if x2 = 0 then
  nilck a0 >>= fun p5 =>
  st (cI .i64) (Addr.add p5 19) a1 >>= fun _ =>
  nilck a0 >>= fun p6 =>
  st (cI .i64) (Addr.add p6 20) a2 >>= fun _ =>
  pure ()
 else
  pure ()
theorem Za3 (a0 : (Option Addr)) (a1 : Int) (a2 : Int) : Ref Tryz.prog 27 [.pointer a0, .int .i64 a1, .int .i64 a2] (ZaN a0 a1 a2) ZaN.out := by
 refine J.Fn Tryz.func27 ?_
 unfold ZaN
 refine SJ.sr 5 <| J.n 1 fun p1 => J.l 1 Ty49 fun x2 => J.z 1 <| J.f ?_ ?_
 ·exact SJ.rg 10 <| J.n 4 fun p5 => J.w 1 Ty49 <| J.n 0 fun p6 => J.w 1 Ty3 <| J.z 0 <| SJ.end_ rfl (Res.run (ys := []) .nil rfl)
 exact SJ.skip <| SJ.end_ rfl (Res.run (ys := []) .nil rfl)

/-! ### (*weir/rules.reader).next: function 26 -/
noncomputable def ZaH.B : Code := bod Tryz.f26
noncomputable def ZaH.cx : Fx := ⟨Tryz.prog, 26, Tryz.f26, none⟩
noncomputable def ZaH.out (r_ : ZaA) : Value := Za9.val r_
noncomputable def ZaH.K1 (a0 : (Option Addr)) : M ZaA :=
 nilck a0 >>= fun p12 =>
 ld (cI .i64) (Addr.add p12 19) >>= fun x13 =>
 if x13 ≠ 0 then
  pure Zcw
 else
  nilck a0 >>= fun p14 =>
  ld (cI .i64) (Addr.add p14 1) >>= fun x15 =>
  nilck a0 >>= fun p16 =>
  st (cI .i64) (Addr.add p16 1) (IntKind.wrap .i64 (x15 + 1)) >>= fun _ =>
  draw >>= fun _ =>
  nilck a0 >>= fun p17 =>
  ld cL p17 >>= fun x18 =>
  nilck a0 >>= fun p19 =>
  ld (cI .i64) (Addr.add p19 1) >>= fun x20 =>
  idx x18.a x18.len (IntKind.wrap .i64 (x20 - 1)) 2 >>= fun p21 =>
  ld Za9 p21 >>= fun x22 =>
  pure x22
theorem ZaH.K1_ok (a0 : (Option Addr)) (b1 : Nat) :
  SJ ZaH.cx [.code (c2 (c2 ZaH.B))] [(0, .pointer a0), (2, .pointer (some (pt b1 0)))] [(b1, Za9.enc Zcw)] (ZaH.K1 a0) (rt ZaH.out) := by
 unfold ZaH.K1
 refine SJ.seq <| SJ.sr 5 <| J.n 1 fun p12 => J.l 1 Ty49 fun x13 => J.z 1 <| J.f ?_ ?_
 ·exact SJ.sr 2 <| J.u 0 Zds .nil <| J.s 0 0 rfl Zds (Upd.w Zcw) <| J.z 0 <| J.rc (.c 0 rfl Zds .n)
 exact SJ.skip <| SJ.sr 8 <| J.n 1 fun p14 => J.l 1 Ty3 fun x15 => J.n 1 fun p16 => J.w 1 Ty3 <| J.z 0 <| SJ.seq <| J.R 12 ZcZ <| J.n 1 fun p17 => J.l 1 Ty94 fun x18 => J.n 1 fun p19 => J.l 1 Ty3 fun x20 => J.i 1 fun p21 => J.l 0 Zds fun x22 => J.s 0 0 rfl Zds (Upd.w x22) <| J.z 0 <| J.rc (.c 0 rfl Zds .n)
noncomputable def ZaH (a0 : (Option Addr)) : M ZaA :=
 slot 102 >>= fun b1 =>
 draw >>= fun _ =>
 nilck a0 >>= fun p2 =>
 ld (cI .i64) (Addr.add p2 19) >>= fun x3 =>
 (if x3 = 0 then
   nilck a0 >>= fun p4 =>
   ld (cI .i64) (Addr.add p4 1) >>= fun x5 =>
   nilck a0 >>= fun p6 =>
   ld cL p6 >>= fun x7 =>
   pure (x5 == (x7.len : Int))
  else
   pure false) >>= fun y8 =>
 if y8 = true then
  nilck a0 >>= fun p24 =>
  ld (cI .i64) (Addr.add p24 2) >>= fun x25 =>
  ZaN a0 161 x25 >>= fun r26 =>
  ZaH.K1 a0
 else
  ZaH.K1 a0
theorem ZcI (a0 : (Option Addr)) : Ref Tryz.prog 26 [.pointer a0] (ZaH a0) ZaH.out := by
 refine J.Fn Tryz.func26 ?_
 unfold ZaH
 refine SJ.sr 1 <| J.a 0 Zds fun b1 => J.z 0 <| SJ.seq <| SJ.seq <| J.R 17 ZcZ <| J.n 1 fun p2 => J.l 1 Ty49 fun x3 => J.j 2 10 .bool ?_ ?_ fun y8 => ?_
 ·exact J.n 1 fun p4 => J.l 1 Ty3 fun x5 => J.n 1 fun p6 => J.l 1 Ty94 fun x7 => J.e 3
 ·exact J.e 11
 refine J.z 0 <| J.f ?_ ?_
 ·exact SJ.rg 6 <| J.n 2 fun p24 => J.l 1 Ty3 fun x25 => J.C 0 F27 (Za3 _ _ _) fun r26 => J.z 0 <| J.q <| ZaH.K1_ok a0 b1
 exact SJ.skip <| J.q <| ZaH.K1_ok a0 b1

/-! ### slices.Index[[]string,string]: function 37 -/
noncomputable def Zao.B : Code := bod Tryz.f37
noncomputable def Zao.cx : Fx := ⟨Tryz.prog, 37, Tryz.f37, none⟩
noncomputable def Zao.out (r_ : Int) : Value := .int .i64 r_
noncomputable def Zao.F1 (a0 : Sl) (a1 : ByteArray) : LF Int Int := ⟨[.inBlock 0, .code (c2 (c2 Zao.B))], c1 (c2 (c1 (c2 Zao.B))), fun s_ => [(0, Sl.v a0), (1, .string a1), (7, .int .i64 (a0.len : Int)), (8, .int .i64 s_)], fun s_ => [], (rt Zao.out)⟩
noncomputable def Zao.L1 (a0 : Sl) (a1 : ByteArray) (s1 : Int) : M (LS Int Int) :=
 if s1 < (a0.len : Int) then
  idx a0.a a0.len s1 1 >>= fun p6 =>
  ld cS p6 >>= fun x7 =>
  if a1.toList = x7.toList then
   pure (LS.done s1)
  else
   pure (LS.next (IntKind.wrap .i64 (s1 + 1)))
 else
  pure (LS.done (-1))
theorem Zao.L1_ok (a0 : Sl) (a1 : ByteArray) : LJ Zao.cx (Zao.F1 a0 a1) (fun s_ => Zao.L1 a0 a1 s_) := by
 rintro s1
 show SJ _ _ _ _ (Zao.L1 a0 a1 s1) _
 unfold Zao.L1
 refine SJ.sr 1 <| J.z 1 <| SJ.seq <| J.f ?_ ?_
 ·refine SJ.skip <| SJ.seq <| SJ.block (id := 1) <| SJ.sr 2 <| J.z 2 <| SJ.sr 6 <| J.i 3 fun p6 => J.l 0 Ty9 fun x7 => J.z 1 <| J.f ?_ ?_
  ·exact SJ.sr 2 <| J.z 2 <| J.r
  exact SJ.skip <| SJ.inBlock <| SJ.rg 2 <| J.z 2 <| J.o rfl
 exact SJ.exit (id := 0) (by rfl) <| SJ.sr 1 <| J.z 1 <| J.r
noncomputable def Zao (a0 : Sl) (a1 : ByteArray) : M Int :=
 Zc7 (fun s_ : Int => Zao.L1 a0 a1 s_) 0
theorem ZcE (a0 : Sl) (a1 : ByteArray) : Ref Tryz.prog 37 [Sl.v a0, .string a1] (Zao a0 a1) Zao.out := by
 refine J.Fn Tryz.func37 ?_
 unfold Zao
 exact SJ.sr 1 <| J.z 1 <| SJ.seq <| SJ.sr 3 <| J.z 3 <| SJ.block (id := 0) <| J.L (Zao.L1_ok a0 a1)

/-! ### (*weir/rules.reader).take: function 38 -/
noncomputable def Za6.out (r_ : Bool) : Value := .bool r_
noncomputable def Za6 (a0 : (Option Addr)) (a1 : ByteArray) : M Bool :=
 draw >>= fun _ =>
 nilck a0 >>= fun p1 =>
 ld (cI .i64) (Addr.add p1 19) >>= fun x2 =>
 (if x2 ≠ 0 then
   pure true
  else
   nilck a0 >>= fun p3 =>
   ld (cI .i64) (Addr.add p3 1) >>= fun x4 =>
   nilck a0 >>= fun p5 =>
   ld cL p5 >>= fun x6 =>
   pure (x4 == (x6.len : Int))) >>= fun y7 =>
 (if y7 = true then
   pure true
  else
   nilck a0 >>= fun p8 =>
   ld cL p8 >>= fun x9 =>
   nilck a0 >>= fun p10 =>
   ld (cI .i64) (Addr.add p10 1) >>= fun x11 =>
   idx x9.a x9.len x11 2 >>= fun p12 =>
   ld cS p12 >>= fun x13 =>
   pure (!(x13.toList == a1.toList))) >>= fun y14 =>
 if y14 = true then
  pure false
 else
  nilck a0 >>= fun p15 =>
  ld (cI .i64) (Addr.add p15 1) >>= fun x16 =>
  nilck a0 >>= fun p17 =>
  st (cI .i64) (Addr.add p17 1) (IntKind.wrap .i64 (x16 + 1)) >>= fun _ =>
  pure true
theorem Zb3 (a0 : (Option Addr)) (a1 : ByteArray) : Ref Tryz.prog 38 [.pointer a0, .string a1] (Za6 a0 a1) Za6.out := by
 refine J.Fn Tryz.func38 ?_
 unfold Za6
 refine SJ.sr 1 <| J.z 1 <| SJ.seq <| SJ.seq <| J.R 32 ZcZ <| J.n 1 fun p1 => J.l 1 Ty49 fun x2 => J.j 2 10 .bool ?_ ?_ fun y7 => ?_
 ·exact J.e 11
 ·exact J.n 1 fun p3 => J.l 1 Ty3 fun x4 => J.n 1 fun p5 => J.l 1 Ty94 fun x6 => J.e 3
 refine J.j 1 13 .bool ?_ ?_ fun y14 => ?_
 ·exact J.e 14
 ·exact J.n 1 fun p8 => J.l 1 Ty94 fun x9 => J.n 1 fun p10 => J.l 1 Ty3 fun x11 => J.i 0 fun p12 => J.l 1 Ty9 fun x13 => J.e 3
 refine J.z 0 <| J.f ?_ ?_
 ·exact SJ.sr 1 <| J.z 1 <| J.r
 exact SJ.skip <| SJ.sr 8 <| J.n 1 fun p15 => J.l 1 Ty3 fun x16 => J.n 1 fun p17 => J.w 1 Ty3 <| J.z 0 <| SJ.sr 1 <| J.z 1 <| J.r

/-! ### (*weir/rules.reader).item: function 64 -/
noncomputable def ZbF.out (r_ : ZaA) : Value := Za9.val r_
noncomputable def ZbF (a0 : (Option Addr)) : M ZaA :=
 slot 102 >>= fun b1 =>
 ZaH a0 >>= fun r2 =>
 slot 102 >>= fun b3 =>
 if r2.s.toList = str1.toList then
  ZaN a0 160 r2.at_ >>= fun r5 =>
  pure r2
 else
  pure r2
theorem ZcJ (a0 : (Option Addr)) : Ref Tryz.prog 64 [.pointer a0] (ZbF a0) ZbF.out := by
 refine J.Fn Tryz.func64 ?_
 unfold ZbF
 refine SJ.sr 1 <| J.a 0 Zds fun b1 => J.z 0 <| SJ.sr 4 <| J.C 1 F26 (ZcI _) fun r2 => J.a 0 Zds fun b3 => J.s 0 0 rfl Zds (Upd.w r2) <| J.z 0 <| SJ.seq <| SJ.sr 3 <| J.k 1 0 rfl Ty9 (Za8 _) <| J.z 1 <| J.f ?_ ?_
 ·exact SJ.rg 4 <| J.k 2 0 rfl Ty3 (Zbr _) <| J.C 0 F27 (Za3 _ _ _) fun r5 => J.z 0 <| SJ.sr 2 <| J.k 0 0 rfl Zds (At.whole _) <| J.s 0 1 rfl Zds (Upd.w r2) <| J.z 0 <| J.rc (.c 1 rfl Zds .n)
 exact SJ.skip <| SJ.sr 2 <| J.k 0 0 rfl Zds (At.whole _) <| J.s 0 1 rfl Zds (Upd.w r2) <| J.z 0 <| J.rc (.c 1 rfl Zds .n)

/-! ### weir/rules.within: function 18 -/
noncomputable def Zbw.out (r_ : Bool) : Value := .bool r_
noncomputable def Zbw (a0 : Int) (a1 : Int) (a2 : Int) : M Bool :=
 (if a0 ≥ a1 then
   pure (decide (a0 ≤ a2))
  else
   pure false) >>= fun y1 =>
 pure y1
theorem ZbQ (a0 : Int) (a1 : Int) (a2 : Int) : Ref Tryz.prog 18 [.int .i64 a0, .int .i64 a1, .int .i64 a2] (Zbw a0 a1 a2) Zbw.out := by
 refine J.Fn Tryz.func18 ?_
 unfold Zbw
 refine SJ.sr 1 <| J.z 1 <| SJ.sr 9 <| J.j 4 3 .bool ?_ ?_ fun y1 => ?_
 ·exact J.e 4
 ·exact J.e 4
 exact J.z 1 <| J.r

/-! ### weir/rules.number: function 65 -/
noncomputable def ZaZ.B : Code := bod Tryz.f65
noncomputable def ZaZ.cx : Fx := ⟨Tryz.prog, 65, Tryz.f65, none⟩
noncomputable def ZaZ.out (r_ : (Int × Bool)) : Value := .tuple #[.int .i64 r_.1, .bool r_.2]
noncomputable def ZaZ.F1 (a0 : ByteArray) (a1 : Int) (a2 : Int) : LF (Int × Int) (Int × Bool) := ⟨[.inBlock 0, .code (c2 (c2 (c2 (c2 ZaZ.B))))], c1 (c2 (c1 (c2 (c2 (c2 ZaZ.B))))), fun s_ => [(0, .string a0), (1, .int .i64 a1), (2, .int .i64 a2), (8, .int .i64 s_.1), (28, .int .i64 (a0.size : Int)), (29, .int .i64 s_.2)], fun s_ => [], (rt ZaZ.out)⟩
noncomputable def ZaZ.L1 (a0 : ByteArray) (a1 : Int) (a2 : Int) (s6 : Int) (s7 : Int) : M (LS (Int × Int) (Int × Bool)) :=
 if s7 < (a0.size : Int) then
  chk ((0 : Int) ≤ s7 ∧ s7 < (a0.size : Int)) >>= fun _ =>
  (if (sb a0 s7) < 48 then
    pure true
   else
    chk ((0 : Int) ≤ s7 ∧ s7 < (a0.size : Int)) >>= fun _ =>
    pure (decide ((sb a0 s7) > 57))) >>= fun y22 =>
  if y22 = true then
   pure (LS.done (0, false))
  else
   chk ((0 : Int) ≤ s7 ∧ s7 < (a0.size : Int)) >>= fun _ =>
   pure (LS.next (IntKind.wrap .i64 ((IntKind.wrap .i64 (10 * s6)) + (IntKind.wrap .i64 (IntKind.wrap .u8 ((sb a0 s7) - 48)))), IntKind.wrap .i64 (s7 + 1)))
 else
  Zbw s6 a1 a2 >>= fun r26 =>
  pure (LS.done (s6, r26))
theorem ZaZ.L1_ok (a0 : ByteArray) (a1 : Int) (a2 : Int) : LJ ZaZ.cx (ZaZ.F1 a0 a1 a2) (fun s_ => ZaZ.L1 a0 a1 a2 s_.1 s_.2) := by
 rintro ⟨s6, s7⟩
 show SJ _ _ _ _ (ZaZ.L1 a0 a1 a2 s6 s7) _
 unfold ZaZ.L1
 refine SJ.sr 1 <| J.z 1 <| SJ.seq <| J.f ?_ ?_
 ·refine SJ.skip <| SJ.seq <| SJ.block (id := 1) <| SJ.sr 2 <| J.z 2 <| SJ.seq <| SJ.sr 10 <| J.t 2 fun hb18 hb19 => J.j 2 4 .bool ?_ ?_ fun y22 => ?_
  ·exact J.e 5
  ·exact J.t 2 fun hb20 hb21 => J.e 2
  refine J.z 0 <| J.f ?_ ?_
  ·exact SJ.sr 2 <| J.z 2 <| J.r
  exact SJ.skip <| SJ.rg 9 <| J.t 4 fun hb23 hb24 => J.z 4 <| SJ.inBlock <| SJ.rg 2 <| J.z 2 <| J.o rfl
 exact SJ.exit (id := 0) (by rfl) <| SJ.sr 7 <| J.C 4 F18 (ZbQ _ _ _) fun r26 => J.z 2 <| J.r
noncomputable def ZaZ (a0 : ByteArray) (a1 : Int) (a2 : Int) : M (Int × Bool) :=
 (if a0.toList = ByteArray.empty.toList then
   pure true
  else
   pure (decide ((a0.size : Int) > 9))) >>= fun y1 =>
 (if y1 = true then
   pure true
  else
   chk ((0 : Int) ≤ 0 ∧ 0 < (a0.size : Int)) >>= fun _ =>
   (if (sb a0 0) = 48 then
     pure (decide ((a0.size : Int) > 1))
    else
     pure false) >>= fun y4 =>
   pure y4) >>= fun y5 =>
 if y5 = true then
  pure (0, false)
 else
  Zc7 (fun s_ : (Int × Int) => ZaZ.L1 a0 a1 a2 s_.1 s_.2) (0, 0)
theorem Zeo (a0 : ByteArray) (a1 : Int) (a2 : Int) : Ref Tryz.prog 65 [.string a0, .int .i64 a1, .int .i64 a2] (ZaZ a0 a1 a2) ZaZ.out := by
 refine J.Fn Tryz.func65 ?_
 unfold ZaZ
 refine SJ.sr 2 <| J.z 2 <| SJ.seq <| SJ.sr 17 <| J.j 3 3 .bool ?_ ?_ fun y1 => ?_
 ·exact J.e 4
 ·exact J.e 4
 refine J.g 1 <| OJ.join (b := y1) [8, 9, 10, 11, 12, 13, 14, 15, 16] [] [0, 1, 2, 26] (fun y5 => [(0, .string a0), (1, .int .i64 a1), (2, .int .i64 a2), (26, .bool y5)]) [] [] (t := 17) Iff.rfl (fun hp_ => ?_) (fun hp_ => ?_) (fun _ _ _ _ _ _ h_ => h_) fun y5 => ?_
 ·exact J.g 9 <| OJ.nil ⟨(Cov.mem Cov.nil), rfl, _, rfl, by kernel_rfl⟩
 ·refine J.t 1 fun hb2 hb3 => J.g 2 <| OJ.join (b := ((sb a0 0) == 48)) [12, 13, 14, 15] [16] [0, 1, 2, 17, 25] (fun y4 => [(0, .string a0), (1, .int .i64 a1), (2, .int .i64 a2), (17, .bool false), (25, .bool y4)]) [] [] (t := 21) beq_iff_eq (fun hp_ => ?_) (fun hp_ => ?_) (fun _ _ _ _ _ hq_ h_ => ⟨fun e_ he_ => (hq_ e_ he_).elim (fun h => h_.1 e_ h) (fun h => nomatch h), h_.2⟩) fun y4 => ?_
  ·exact J.g 4 <| OJ.nil ⟨(Cov.mem Cov.nil), rfl, _, rfl, by kernel_rfl⟩
  ·exact J.g 4 <| OJ.nil ⟨(Cov.mem Cov.nil), rfl, _, rfl, by kernel_rfl⟩
  exact J.g 1 <| OJ.nil ⟨(Cov.mem Cov.nil), rfl, _, rfl, by kernel_rfl⟩
 refine J.z 0 <| J.f ?_ ?_
 ·exact SJ.sr 2 <| J.z 2 <| J.r
 exact SJ.skip <| SJ.sr 1 <| J.z 1 <| SJ.seq <| SJ.sr 3 <| J.z 3 <| SJ.block (id := 0) <| J.L (ZaZ.L1_ok a0 a1 a2)

/-! ### (*weir/rules.reader).number: function 39 -/
noncomputable def Zbx.out (r_ : Int) : Value := .int .i64 r_
noncomputable def Zbx (a0 : (Option Addr)) (a1 : Int) (a2 : Int) : M Int :=
 ZbF a0 >>= fun r1 =>
 slot 102 >>= fun b2 =>
 ZaZ r1.s a1 a2 >>= fun r3 =>
 nilck a0 >>= fun p4 =>
 ld (cI .i64) (Addr.add p4 19) >>= fun x5 =>
 (if x5 = 0 then
   pure (!r3.2)
  else
   pure false) >>= fun y6 =>
 if y6 = true then
  ZaN a0 162 r1.at_ >>= fun r8 =>
  pure r3.1
 else
  pure r3.1
theorem ZcX (a0 : (Option Addr)) (a1 : Int) (a2 : Int) : Ref Tryz.prog 39 [.pointer a0, .int .i64 a1, .int .i64 a2] (Zbx a0 a1 a2) Zbx.out := by
 refine J.Fn Tryz.func39 ?_
 unfold Zbx
 refine SJ.sr 1 <| J.z 1 <| SJ.sr 4 <| J.C 1 F64 (ZcJ _) fun r1 => J.a 0 Zds fun b2 => J.s 0 0 rfl Zds (Upd.w r1) <| J.z 0 <| SJ.sr 10 <| J.k 1 0 rfl Ty9 (Za8 _) <| J.C 2 F65 (Zeo _ _ _) fun r3 => J.z 5 <| SJ.seq <| SJ.sr 9 <| J.n 1 fun p4 => J.l 1 Ty49 fun x5 => J.j 2 2 .bool ?_ ?_ fun y6 => ?_
 ·exact J.e 3
 ·exact J.e 3
 refine J.z 0 <| J.f ?_ ?_
 ·exact SJ.rg 4 <| J.k 2 0 rfl Ty3 (Zbr _) <| J.C 0 F27 (Za3 _ _ _) fun r8 => J.z 0 <| SJ.sr 2 <| J.z 2 <| J.r
 exact SJ.skip <| SJ.sr 2 <| J.z 2 <| J.r

/-! ### weir/rules.protoOf: function 66 -/
noncomputable def Zc3.out (r_ : (Int × Bool)) : Value := .tuple #[.int .i64 r_.1, .bool r_.2]
noncomputable def Zc3 (a0 : ByteArray) : M (Int × Bool) :=
 if a0.toList = str2.toList then
  pure (6, true)
 else
  if a0.toList = str3.toList then
   pure (17, true)
  else
   if a0.toList = str4.toList then
    pure (1, true)
   else
    if a0.toList = str5.toList then
     pure (58, true)
    else
     pure (0, false)
theorem Zgk (a0 : ByteArray) : Ref Tryz.prog 66 [.string a0] (Zc3 a0) Zc3.out := by
 refine J.Fn Tryz.func66 ?_
 unfold Zc3
 refine SJ.sr 2 <| J.z 2 <| SJ.seq <| SJ.sr 1 <| J.z 1 <| SJ.block (id := 0) <| SJ.sr 2 <| J.z 2 <| J.f ?_ ?_
 ·exact SJ.sr 2 <| J.z 2 <| J.r
 refine SJ.sr 2 <| J.z 2 <| J.f ?_ ?_
 ·exact SJ.sr 2 <| J.z 2 <| J.r
 refine SJ.sr 2 <| J.z 2 <| J.f ?_ ?_
 ·exact SJ.sr 2 <| J.z 2 <| J.r
 refine SJ.sr 2 <| J.z 2 <| J.f ?_ ?_
 ·exact SJ.sr 2 <| J.z 2 <| J.r
 exact SJ.skip <| SJ.inBlock <| SJ.sr 2 <| J.z 2 <| J.r

/-! ### weir/rules.begins: function 40 -/
noncomputable def Zc5.out (r_ : Bool) : Value := .bool r_
noncomputable def Zc5 (a0 : ZaA) : M Bool :=
 slot 102 >>= fun b1 =>
 Zc3 a0.s >>= fun r2 =>
 (if r2.2 = true then
   pure true
  else
   pure (a0.s.toList == str6.toList)) >>= fun y3 =>
 pure y3
theorem ZgE (a0 : ZaA) : Ref Tryz.prog 40 [Za9.val a0] (Zc5 a0) Zc5.out := by
 refine J.Fn Tryz.func40 ?_
 unfold Zc5
 refine SJ.sr 2 <| J.b 0 Za9 a0 fun b1 => J.z 1 <| SJ.sr 8 <| J.k 1 0 rfl Ty9 (Za8 _) <| J.C 0 F66 (Zgk _) fun r2 => J.z 5 <| SJ.sr 7 <| J.j 2 3 .bool ?_ ?_ fun y3 => ?_
 ·exact J.e 4
 ·exact J.k 1 0 rfl Ty9 (Za8 _) <| J.e 2
 exact J.z 1 <| J.r

/-! ### (*weir/rules.reader).proto: function 41 -/
noncomputable def ZbP.out (r_ : Unit) : Value := .tuple #[]
noncomputable def ZbP (a0 : (Option Addr)) (a1 : ZaA) : M Unit :=
 slot 102 >>= fun b1 =>
 nilck a0 >>= fun p2 =>
 ld (cI .i64) (Addr.add (Addr.add p2 3) 2) >>= fun x3 =>
 if x3 = 1 then
  ZaN a0 165 a1.at_ >>= fun r5 =>
  pure ()
 else
  Zc3 a1.s >>= fun r6 =>
  if ¬ (r6.2 = true) then
   Zbx a0 1 255 >>= fun r8 =>
   nilck a0 >>= fun p9 =>
   st (cI .i64) (Addr.add (Addr.add p9 3) 3) r8 >>= fun _ =>
   pure ()
  else
   nilck a0 >>= fun p10 =>
   st (cI .i64) (Addr.add (Addr.add p10 3) 3) r6.1 >>= fun _ =>
   pure ()
theorem ZeM (a0 : (Option Addr)) (a1 : ZaA) : Ref Tryz.prog 41 [.pointer a0, Za9.val a1] (ZbP a0 a1) ZbP.out := by
 refine J.Fn Tryz.func41 ?_
 unfold ZbP
 refine SJ.sr 1 <| J.b 0 Za9 a1 fun b1 => J.z 0 <| SJ.seq <| SJ.sr 6 <| J.n 1 fun p2 => J.l 2 Ty3 fun x3 => J.z 1 <| J.f ?_ ?_
 ·exact SJ.sr 4 <| J.k 2 0 rfl Ty3 (Zbr _) <| J.C 0 F27 (Za3 _ _ _) fun r5 => J.z 0 <| J.r
 refine SJ.skip <| SJ.sr 8 <| J.k 1 0 rfl Ty9 (Za8 _) <| J.C 0 F66 (Zgk _) fun r6 => J.z 5 <| SJ.seq <| SJ.sr 2 <| J.z 2 <| J.f ?_ ?_
 ·exact SJ.rg 3 <| J.C 1 F39 (ZcX _ _ _) fun r8 => J.z 1 <| SJ.rg 6 <| J.n 2 fun p9 => J.w 2 Ty3 <| J.z 0 <| SJ.end_ rfl (Res.run (ys := []) .nil rfl)
 exact SJ.skip <| SJ.rg 6 <| J.n 2 fun p10 => J.w 2 Ty3 <| J.z 0 <| SJ.end_ rfl (Res.run (ys := []) .nil rfl)

/-! ### (*weir/rules.reader).head: function 25 -/
noncomputable def Zar.B : Code := bod Tryz.f25
noncomputable def Zar.cx : Fx := ⟨Tryz.prog, 25, Tryz.f25, none⟩
noncomputable def Zar.out (r_ : Unit) : Value := .tuple #[]
noncomputable def Zar.K1 (a0 : (Option Addr)) : M Unit :=
 ZaH a0 >>= fun r18 =>
 nilck a0 >>= fun p19 =>
 ld (cI .i64) (Addr.add p19 19) >>= fun x20 =>
 (if x20 ≠ 0 then
   pure true
  else
   pure (r18.s.toList == str8.toList)) >>= fun y21 =>
 if y21 = true then
  pure ()
 else
  ld cL ⟨1, 0, none⟩ >>= fun x22 =>
  Zao x22 r18.s >>= fun r23 =>
  nilck a0 >>= fun p24 =>
  st (cI .i64) (Addr.add (Addr.add p24 3) 2) (IntKind.wrap .i64 (r23 + 1)) >>= fun _ =>
  nilck a0 >>= fun p25 =>
  ld (cI .i64) (Addr.add (Addr.add p25 3) 2) >>= fun x26 =>
  (if x26 = 0 then
    Zc5 r18 >>= fun r27 =>
    pure r27
   else
    pure false) >>= fun y28 =>
  if y28 = true then
   ZbP a0 r18 >>= fun r75 =>
   pure ()
  else
   nilck a0 >>= fun p76 =>
   ld (cI .i64) (Addr.add (Addr.add p76 3) 2) >>= fun x77 =>
   if x77 = 0 then
    ZaN a0 160 r18.at_ >>= fun r99 =>
    pure ()
   else
    draw >>= fun _ =>
    nilck a0 >>= fun p100 =>
    ld (cI .i64) (Addr.add (Addr.add p100 3) 2) >>= fun x101 =>
    (if x101 > 0 then
      nilck a0 >>= fun p102 =>
      ld (cI .i64) (Addr.add p102 1) >>= fun x103 =>
      nilck a0 >>= fun p104 =>
      ld cL p104 >>= fun x105 =>
      pure (decide (x103 < (x105.len : Int)))
     else
      pure false) >>= fun y106 =>
    (if y106 = true then
      nilck a0 >>= fun p107 =>
      ld cL p107 >>= fun x108 =>
      nilck a0 >>= fun p109 =>
      ld (cI .i64) (Addr.add p109 1) >>= fun x110 =>
      idx x108.a x108.len x110 2 >>= fun p111 =>
      ld Za9 p111 >>= fun x112 =>
      Zc5 x112 >>= fun r113 =>
      pure r113
     else
      pure false) >>= fun y114 =>
    if y114 = true then
     ZaH a0 >>= fun r117 =>
     ZbP a0 r117 >>= fun r118 =>
     pure ()
    else
     pure ()
theorem Zar.K1_ok (a0 : (Option Addr)) (r1 : ZaA) (b2 : Nat) :
  SJ Zar.cx [.code (c2 (c2 (c2 (c2 Zar.B))))] [(0, .pointer a0), (2, .pointer (some (pt b2 0)))] [(b2, Za9.enc r1)] (Zar.K1 a0) (rt Zar.out) := by
 unfold Zar.K1
 refine SJ.sr 3 <| J.C 1 F26 (ZcI _) fun r18 => J.s 0 0 rfl Zds (Upd.w r18) <| J.z 0 <| SJ.seq <| SJ.sr 10 <| J.n 1 fun p19 => J.l 1 Ty49 fun x20 => J.j 2 3 .bool ?_ ?_ fun y21 => ?_
 ·exact J.e 4
 ·exact J.k 1 0 rfl Ty9 (Za8 _) <| J.e 2
 refine J.z 0 <| J.f ?_ ?_
 ·exact J.r
 refine SJ.skip <| SJ.sr 10 <| J.l 1 Zqd fun x22 => J.k 1 0 rfl Ty9 (Za8 _) <| J.C 0 F37 (ZcE _ _) fun r23 => J.n 1 fun p24 => J.w 2 Ty3 <| J.z 0 <| SJ.block (id := 0) <| SJ.sr 11 <| J.n 1 fun p25 => J.l 2 Ty3 fun x26 => J.j 2 2 .bool ?_ ?_ fun y28 => ?_
 ·exact J.k 0 0 rfl Zds (At.whole _) <| J.C 0 F40 (ZgE _) fun r27 => J.e 1
 ·exact J.e 3
 refine J.z 1 <| J.f ?_ ?_
 ·exact SJ.rg 3 <| J.k 1 0 rfl Zds (At.whole _) <| J.C 0 F41 (ZeM _ _) fun r75 => J.z 0 <| SJ.inBlock <| SJ.end_ rfl (Res.run (ys := []) .nil rfl)
 refine SJ.sr 7 <| J.n 1 fun p76 => J.l 2 Ty3 fun x77 => J.z 2 <| J.f ?_ ?_
 ·exact SJ.rg 4 <| J.k 2 0 rfl Ty3 (Zbr _) <| J.C 0 F27 (Za3 _ _ _) fun r99 => J.z 0 <| SJ.inBlock <| SJ.end_ rfl (Res.run (ys := []) .nil rfl)
 refine SJ.seq <| J.R 32 ZcZ <| J.n 1 fun p100 => J.l 2 Ty3 fun x101 => J.j 2 10 .bool ?_ ?_ fun y106 => ?_
 ·exact J.n 1 fun p102 => J.l 1 Ty3 fun x103 => J.n 1 fun p104 => J.l 1 Ty94 fun x105 => J.e 3
 ·exact J.e 11
 refine J.j 1 11 .bool ?_ ?_ fun y114 => ?_
 ·exact J.n 1 fun p107 => J.l 1 Ty94 fun x108 => J.n 1 fun p109 => J.l 1 Ty3 fun x110 => J.i 0 fun p111 => J.l 0 Zds fun x112 => J.C 0 F40 (ZgE _) fun r113 => J.e 1
 ·exact J.e 12
 refine J.z 1 <| J.f ?_ ?_
 ·exact SJ.rg 4 <| J.C 2 F26 (ZcI _) fun r117 => J.C 0 F41 (ZeM _ _) fun r118 => J.z 0 <| SJ.inBlock <| SJ.end_ rfl (Res.run (ys := []) .nil rfl)
 exact SJ.skip <| SJ.inBlock <| SJ.end_ rfl (Res.run (ys := []) .nil rfl)
noncomputable def Zar.K2 (a0 : (Option Addr)) : M Unit :=
 nilck a0 >>= fun p12 =>
 ld (cI .i64) (Addr.add p12 3) >>= fun x13 =>
 (if x13 = 1 then
   Za6 a0 str7 >>= fun r14 =>
   pure r14
  else
   pure false) >>= fun y15 =>
 if y15 = true then
  Zbx a0 0 7 >>= fun r123 =>
  nilck a0 >>= fun p124 =>
  st (cI .i64) (Addr.add (Addr.add p124 3) 1) r123 >>= fun _ =>
  Zar.K1 a0
 else
  Zar.K1 a0
theorem Zar.K2_ok (a0 : (Option Addr)) (r1 : ZaA) (b2 : Nat) :
  SJ Zar.cx [.code (c2 (c2 (c2 Zar.B)))] [(0, .pointer a0), (2, .pointer (some (pt b2 0)))] [(b2, Za9.enc r1)] (Zar.K2 a0) (rt Zar.out) := by
 unfold Zar.K2
 refine SJ.seq <| SJ.sr 10 <| J.n 1 fun p12 => J.l 2 Ty3 fun x13 => J.j 2 2 .bool ?_ ?_ fun y15 => ?_
 ·exact J.C 1 F38 (Zb3 _ _) fun r14 => J.e 1
 ·exact J.e 3
 refine J.z 0 <| J.f ?_ ?_
 ·exact SJ.rg 7 <| J.C 2 F39 (ZcX _ _ _) fun r123 => J.n 0 fun p124 => J.w 2 Ty3 <| J.z 0 <| J.q <| Zar.K1_ok a0 r1 b2
 exact SJ.skip <| J.q <| Zar.K1_ok a0 r1 b2
noncomputable def Zar (a0 : (Option Addr)) : M Unit :=
 ZaH a0 >>= fun r1 =>
 slot 102 >>= fun b2 =>
 ld cL ⟨0, 0, none⟩ >>= fun x3 =>
 Zao x3 r1.s >>= fun r4 =>
 nilck a0 >>= fun p5 =>
 st (cI .i64) (Addr.add p5 3) (IntKind.wrap .i64 (r4 + 1)) >>= fun _ =>
 nilck a0 >>= fun p6 =>
 ld (cI .i64) (Addr.add p6 19) >>= fun x7 =>
 (if x7 = 0 then
   nilck a0 >>= fun p8 =>
   ld (cI .i64) (Addr.add p8 3) >>= fun x9 =>
   pure (x9 == 0)
  else
   pure false) >>= fun y10 =>
 if y10 = true then
  ZaN a0 160 r1.at_ >>= fun r126 =>
  Zar.K2 a0
 else
  Zar.K2 a0
theorem Zhg (a0 : (Option Addr)) : Ref Tryz.prog 25 [.pointer a0] (Zar a0) Zar.out := by
 refine J.Fn Tryz.func25 ?_
 unfold Zar
 refine SJ.sr 4 <| J.C 1 F26 (ZcI _) fun r1 => J.a 0 Zds fun b2 => J.s 0 0 rfl Zds (Upd.w r1) <| J.z 0 <| SJ.sr 10 <| J.l 1 Zqd fun x3 => J.k 1 0 rfl Ty9 (Za8 _) <| J.C 0 F37 (ZcE _ _) fun r4 => J.n 1 fun p5 => J.w 2 Ty3 <| J.z 0 <| SJ.seq <| SJ.sr 13 <| J.n 1 fun p6 => J.l 1 Ty49 fun x7 => J.j 2 6 .bool ?_ ?_ fun y10 => ?_
 ·exact J.n 1 fun p8 => J.l 2 Ty3 fun x9 => J.e 2
 ·exact J.e 7
 refine J.z 0 <| J.f ?_ ?_
 ·exact SJ.rg 4 <| J.k 2 0 rfl Ty3 (Zbr _) <| J.C 0 F27 (Za3 _ _ _) fun r126 => J.z 0 <| J.q <| Zar.K2_ok a0 r1 b2
 exact SJ.skip <| J.q <| Zar.K2_ok a0 r1 b2

/-! ### weir/rules.typed: function 19 -/
noncomputable def Zdw.out (r_ : Bool) : Value := .bool r_
noncomputable def Zdw (a0 : Int) : M Bool :=
 (if a0 = 1 then
   pure true
  else
   pure (a0 == 58)) >>= fun y1 =>
 pure y1
theorem Zhq (a0 : Int) : Ref Tryz.prog 19 [.int .i64 a0] (Zdw a0) Zdw.out := by
 refine J.Fn Tryz.func19 ?_
 unfold Zdw
 refine SJ.sr 1 <| J.z 1 <| SJ.sr 7 <| J.j 3 2 .bool ?_ ?_ fun y1 => ?_
 ·exact J.e 3
 ·exact J.e 3
 exact J.z 1 <| J.r

/-! ### internal/stringslite.HasPrefix: function 92 -/
noncomputable def ZbG.out (r_ : Bool) : Value := .bool r_
noncomputable def ZbG (a0 : ByteArray) (a1 : ByteArray) : M Bool :=
 (if (a0.size : Int) ≥ (a1.size : Int) then
   chk (0 ≤ (0 : Int) ∧ (0 : Int) ≤ (a1.size : Int) ∧ (a1.size : Int) ≤ (a0.size : Int)) >>= fun _ =>
   pure ((ByteArray.extract a0 (Int.toNat 0) (Int.toNat (a1.size : Int))).toList == a1.toList)
  else
   pure false) >>= fun y1 =>
 pure y1
theorem Zec (a0 : ByteArray) (a1 : ByteArray) : Ref Tryz.prog 92 [.string a0, .string a1] (ZbG a0 a1) ZbG.out := by
 refine J.Fn Tryz.func92 ?_
 unfold ZbG
 refine SJ.sr 1 <| J.z 1 <| SJ.sr 14 <| J.j 6 6 .bool ?_ ?_ fun y1 => ?_
 ·exact J.ct 3 <| J.e 3
 ·exact J.e 7
 exact J.z 1 <| J.r

/-! ### internal/stringslite.CutPrefix: function 82 -/
noncomputable def Zch.out (r_ : (ByteArray × Bool)) : Value := .tuple #[.string r_.1, .bool r_.2]
noncomputable def Zch (a0 : ByteArray) (a1 : ByteArray) : M (ByteArray × Bool) :=
 ZbG a0 a1 >>= fun r1 =>
 if ¬ (r1 = true) then
  pure (a0, false)
 else
  chk (0 ≤ ((a1.size : Int) : Int) ∧ ((a1.size : Int) : Int) ≤ (a0.size : Int) ∧ (a0.size : Int) ≤ (a0.size : Int)) >>= fun _ =>
  pure ((ByteArray.extract a0 (Int.toNat (a1.size : Int)) (Int.toNat (a0.size : Int))), true)
theorem ZfJ (a0 : ByteArray) (a1 : ByteArray) : Ref Tryz.prog 82 [.string a0, .string a1] (Zch a0 a1) Zch.out := by
 refine J.Fn Tryz.func82 ?_
 unfold Zch
 refine SJ.sr 2 <| J.z 2 <| SJ.seq <| SJ.sr 4 <| J.C 2 F92 (Zec _ _) fun r1 => J.z 1 <| J.f ?_ ?_
 ·exact SJ.sr 3 <| J.z 3 <| J.r
 exact SJ.skip <| SJ.sr 6 <| J.ct 3 <| J.z 2 <| J.r

/-! ### strings.CutPrefix: function 67 -/
noncomputable def ZbW.out (r_ : (ByteArray × Bool)) : Value := .tuple #[.string r_.1, .bool r_.2]
noncomputable def ZbW (a0 : ByteArray) (a1 : ByteArray) : M (ByteArray × Bool) :=
 Zch a0 a1 >>= fun r1 =>
 pure (r1.1, r1.2)
theorem ZeY (a0 : ByteArray) (a1 : ByteArray) : Ref Tryz.prog 67 [.string a0, .string a1] (ZbW a0 a1) ZbW.out := by
 refine J.Fn Tryz.func67 ?_
 unfold ZbW
 exact SJ.sr 2 <| J.z 2 <| SJ.sr 7 <| J.C 2 F82 (ZfJ _ _) fun r1 => J.z 4 <| J.r

/-! ### (*weir/rules.reader).port: function 42 -/
noncomputable def Zcs.out (r_ : Int) : Value := .int .i64 r_
noncomputable def Zcs (a0 : (Option Addr)) : M Int :=
 ZbF a0 >>= fun r1 =>
 slot 102 >>= fun b2 =>
 ZbW r1.s str9 >>= fun r3 =>
 ZaZ r3.1 0 7 >>= fun r4 =>
 nilck a0 >>= fun p5 =>
 ld (cI .i64) (Addr.add p5 19) >>= fun x6 =>
 (if x6 = 0 then
   (if ¬ (r3.2 = true) then
     pure true
    else
     pure (!r4.2)) >>= fun y7 =>
   pure y7
  else
   pure false) >>= fun y8 =>
 if y8 = true then
  ZaN a0 162 r1.at_ >>= fun r10 =>
  pure r4.1
 else
  pure r4.1
theorem Zhf (a0 : (Option Addr)) : Ref Tryz.prog 42 [.pointer a0] (Zcs a0) Zcs.out := by
 refine J.Fn Tryz.func42 ?_
 unfold Zcs
 refine SJ.sr 1 <| J.z 1 <| SJ.sr 4 <| J.C 1 F64 (ZcJ _) fun r1 => J.a 0 Zds fun b2 => J.s 0 0 rfl Zds (Upd.w r1) <| J.z 0 <| SJ.sr 8 <| J.k 1 0 rfl Ty9 (Za8 _) <| J.C 0 F67 (ZeY _ _) fun r3 => J.z 5 <| SJ.sr 7 <| J.C 1 F65 (Zeo _ _ _) fun r4 => J.z 5 <| SJ.seq <| SJ.sr 13 <| J.n 1 fun p5 => J.l 1 Ty49 fun x6 => J.g 2 <| OJ.join (b := (x6 == 0)) [6, 7, 8, 9, 10, 11, 12] [] [0, 3, 6, 33] (fun y8 => [(0, .pointer a0), (3, .pointer (some (pt b2 0))), (6, .int .i64 r4.1), (33, .bool y8)]) [] [] (t := 26) beq_iff_eq (fun hp_ => ?_) (fun hp_ => ?_) (fun _ _ _ _ _ _ h_ => h_) fun y8 => ?_
 ·refine J.g 3 <| OJ.join (b := (!r3.2)) [9, 10, 11] [12] [0, 3, 6, 26, 32] (fun y7 => [(0, .pointer a0), (3, .pointer (some (pt b2 0))), (6, .int .i64 r4.1), (26, .bool true), (32, .bool y7)]) [] [] (t := 29) (ZlE Iff.rfl) (fun hp_ => ?_) (fun hp_ => ?_) (fun _ _ _ _ _ hq_ h_ => ⟨fun e_ he_ => (hq_ e_ he_).elim (fun h => h_.1 e_ h) (fun h => nomatch h), h_.2⟩) fun y7 => ?_
  ·exact J.g 3 <| OJ.nil ⟨(Cov.mem Cov.nil), rfl, _, rfl, by kernel_rfl⟩
  ·exact J.g 3 <| OJ.nil ⟨(Cov.mem Cov.nil), rfl, _, rfl, by kernel_rfl⟩
  exact J.g 1 <| OJ.nil ⟨(Cov.mem Cov.nil), rfl, _, rfl, by kernel_rfl⟩
 ·exact J.g 7 <| OJ.nil ⟨(Cov.mem Cov.nil), rfl, _, rfl, by kernel_rfl⟩
 refine J.z 0 <| J.f ?_ ?_
 ·exact SJ.rg 4 <| J.k 2 0 rfl Ty3 (Zbr _) <| J.C 0 F27 (Za3 _ _ _) fun r10 => J.z 0 <| SJ.sr 2 <| J.z 2 <| J.r
 exact SJ.skip <| SJ.sr 2 <| J.z 2 <| J.r

/-! ### internal/stringslite.IndexByte: function 118 -/
noncomputable def Zcf.out (r_ : Int) : Value := .int .i64 r_
noncomputable def Zcf (a0 : ByteArray) (a1 : Int) : M Int :=
 idxB a0 a1 >>= fun r1 =>
 pure r1
theorem ZfI (a0 : ByteArray) (a1 : Int) : Ref Tryz.prog 118 [.string a0, .int .u8 a1] (Zcf a0 a1) Zcf.out := by
 refine J.Fn Tryz.func118 ?_
 unfold Zcf
 exact SJ.sr 1 <| J.z 1 <| SJ.sr 4 <| J.g 2 <| OJ.ext (d := 7) (g := 127) (ats := #[9, 5]) (args := [.tmp 5, .tmp 6]) (out := fun r => .int .i64 r) (owed := []) Tryz.func127 Zq1 fun r1 => OW.nil <| J.z 1 <| J.r

/-! ### internal/stringslite.Index: function 109 -/
noncomputable def Zcg.out (r_ : Int) : Value := .int .i64 r_
noncomputable def Zcg (a0 : ByteArray) (a1 : ByteArray) : M Int :=
 (if (a1.size : Int) = 0 then
   pure true
  else
   pure (a1.toList == a0.toList)) >>= fun y1 =>
 if y1 = true then
  pure 0
 else
  if (a1.size : Int) = 1 then
   chk ((0 : Int) ≤ 0 ∧ 0 < (a1.size : Int)) >>= fun _ =>
   Zcf a0 (sb a1 0) >>= fun r14 =>
   pure r14
  else
   fail
theorem ZeX (a0 : ByteArray) (a1 : ByteArray) : Ref Tryz.prog 109 [.string a0, .string a1] (Zcg a0 a1) Zcg.out := by
 refine J.Fn Tryz.func109 ?_
 unfold Zcg
 refine SJ.sr 1 <| J.z 1 <| SJ.sr 3 <| J.z 3 <| SJ.seq <| SJ.block (id := 0) <| SJ.sr 8 <| J.j 3 3 .bool ?_ ?_ fun y1 => ?_
 ·exact J.e 4
 ·exact J.e 4
 refine J.z 1 <| J.f ?_ ?_
 ·exact SJ.sr 1 <| J.z 1 <| J.r
 refine SJ.sr 3 <| J.z 3 <| J.f ?_ ?_
 ·exact SJ.sr 5 <| J.t 2 fun hb12 hb13 => J.C 0 F118 (ZfI _ _) fun r14 => J.z 1 <| J.r
 exact SJ.fail

/-! ### internal/stringslite.Cut: function 95 -/
noncomputable def ZcR.out (r_ : (ByteArray × ByteArray × Bool)) : Value := .tuple #[.string r_.1, .string r_.2.1, .bool r_.2.2]
noncomputable def ZcR (a0 : ByteArray) (a1 : ByteArray) : M (ByteArray × ByteArray × Bool) :=
 Zcg a0 a1 >>= fun r1 =>
 if r1 ≥ 0 then
  draw >>= fun _ =>
  chk (0 ≤ (0 : Int) ∧ (0 : Int) ≤ r1 ∧ r1 ≤ (a0.size : Int)) >>= fun _ =>
  chk (0 ≤ ((IntKind.wrap .i64 (r1 + (a1.size : Int))) : Int) ∧ ((IntKind.wrap .i64 (r1 + (a1.size : Int))) : Int) ≤ (a0.size : Int) ∧ (a0.size : Int) ≤ (a0.size : Int)) >>= fun _ =>
  pure ((ByteArray.extract a0 (Int.toNat 0) (Int.toNat r1)), (ByteArray.extract a0 (Int.toNat (IntKind.wrap .i64 (r1 + (a1.size : Int)))) (Int.toNat (a0.size : Int))), true)
 else
  pure (a0, ByteArray.empty, false)
theorem ZhZ (a0 : ByteArray) (a1 : ByteArray) : Ref Tryz.prog 95 [.string a0, .string a1] (ZcR a0 a1) ZcR.out := by
 refine J.Fn Tryz.func95 ?_
 unfold ZcR
 refine SJ.sr 3 <| J.z 3 <| SJ.seq <| SJ.sr 4 <| J.C 2 F109 (ZeX _ _) fun r1 => J.z 1 <| SJ.sr 2 <| J.z 2 <| J.f ?_ ?_
 ·exact SJ.seq <| J.R 12 ZcZ <| J.ct 2 <| J.ct 5 <| J.z 3 <| J.r
 exact SJ.skip <| SJ.sr 4 <| J.z 4 <| J.r

/-! ### strings.Cut: function 85 -/
noncomputable def ZcS.out (r_ : (ByteArray × ByteArray × Bool)) : Value := .tuple #[.string r_.1, .string r_.2.1, .bool r_.2.2]
noncomputable def ZcS (a0 : ByteArray) (a1 : ByteArray) : M (ByteArray × ByteArray × Bool) :=
 ZcR a0 a1 >>= fun r1 =>
 pure (r1.1, r1.2.1, r1.2.2)
theorem Zhp (a0 : ByteArray) (a1 : ByteArray) : Ref Tryz.prog 85 [.string a0, .string a1] (ZcS a0 a1) ZcS.out := by
 refine J.Fn Tryz.func85 ?_
 unfold ZcS
 exact SJ.sr 3 <| J.z 3 <| SJ.sr 9 <| J.C 2 F95 (ZhZ _ _) fun r1 => J.z 6 <| J.r

/-! ### strings.Index: function 115 -/
noncomputable def ZdW.out (r_ : Int) : Value := .int .i64 r_
noncomputable def ZdW (a0 : ByteArray) (a1 : ByteArray) : M Int :=
 Zcg a0 a1 >>= fun r1 =>
 pure r1
theorem Zjd (a0 : ByteArray) (a1 : ByteArray) : Ref Tryz.prog 115 [.string a0, .string a1] (ZdW a0 a1) ZdW.out := by
 refine J.Fn Tryz.func115 ?_
 unfold ZdW
 exact SJ.sr 1 <| J.z 1 <| SJ.sr 4 <| J.C 2 F109 (ZeX _ _) fun r1 => J.z 1 <| J.r

/-! ### strings.Contains: function 103 -/
noncomputable def ZcD.out (r_ : Bool) : Value := .bool r_
noncomputable def ZcD (a0 : ByteArray) (a1 : ByteArray) : M Bool :=
 ZdW a0 a1 >>= fun r1 =>
 pure (decide (r1 ≥ 0))
theorem ZhA (a0 : ByteArray) (a1 : ByteArray) : Ref Tryz.prog 103 [.string a0, .string a1] (ZcD a0 a1) ZcD.out := by
 refine J.Fn Tryz.func103 ?_
 unfold ZcD
 exact SJ.sr 1 <| J.z 1 <| SJ.sr 5 <| J.C 2 F115 (Zjd _ _) fun r1 => J.z 2 <| J.r

/-! ### weir/addr.missing: function 108 -/
noncomputable def Zda.out (r_ : (Option Addr)) : Value := .pointer r_
noncomputable def Zda (a0 : ByteArray) (a1 : Int) : M (Option Addr) :=
 if a1 = (a0.size : Int) then
  newv 191 Zbf (⟨42, a1⟩ : ZbA) >>= fun b2 =>
  pure (some (pt b2 0))
 else
  newv 191 Zbf (⟨41, a1⟩ : ZbA) >>= fun b3 =>
  pure (some (pt b3 0))
theorem Zff (a0 : ByteArray) (a1 : Int) : Ref Tryz.prog 108 [.string a0, .int .i64 a1] (Zda a0 a1) Zda.out := by
 refine J.Fn Tryz.func108 ?_
 unfold Zda
 refine SJ.sr 1 <| J.z 1 <| SJ.seq <| SJ.sr 4 <| J.z 4 <| J.f ?_ ?_
 ·exact SJ.sr 4 <| J.u 1 Zip (.f 0 (Zbg _ 42) (.f 1 (Zbh _ a1) .nil)) <| J.B 0 fun b2 => J.z 1 <| J.r
 exact SJ.skip <| SJ.sr 4 <| J.u 1 Zip (.f 0 (Zbg _ 41) (.f 1 (Zbh _ a1) .nil)) <| J.B 0 fun b3 => J.z 1 <| J.r

/-! ### weir/addr.digit: function 107 -/
noncomputable def Zef.out (r_ : Bool) : Value := .bool r_
noncomputable def Zef (a0 : Int) : M Bool :=
 (if a0 ≥ 48 then
   pure (decide (a0 ≤ 57))
  else
   pure false) >>= fun y1 =>
 pure y1
theorem Zik (a0 : Int) : Ref Tryz.prog 107 [.int .u8 a0] (Zef a0) Zef.out := by
 refine J.Fn Tryz.func107 ?_
 unfold Zef
 refine SJ.sr 1 <| J.z 1 <| SJ.sr 7 <| J.j 3 2 .bool ?_ ?_ fun y1 => ?_
 ·exact J.e 3
 ·exact J.e 3
 exact J.z 1 <| J.r

/-! ### weir/addr.number: function 94 -/
noncomputable def ZaK.B : Code := bod Tryz.f94
noncomputable def ZaK.cx : Fx := ⟨Tryz.prog, 94, Tryz.f94, none⟩
noncomputable def ZaK.out (r_ : (Int × Int × (Option Addr))) : Value := .tuple #[.int .i64 r_.1, .int .i64 r_.2.1, .pointer r_.2.2]
noncomputable def ZaK.F1 (a0 : ByteArray) (a1 : Int) (a2 : Int) (a3 : Int) (s1 : Int) : LF (Int × Int) (Int × Int × (Option Addr)) := ⟨[.inBlock 2, .code (c2 (c2 (c2 (c2 (c2 (c2 (c2 ZaK.B)))))))], c1 (c2 (c1 (c2 (c2 (c2 (c2 (c2 (c2 ZaK.B)))))))), fun s_ => [(0, .string a0), (1, .int .i64 a1), (2, .int .i64 a2), (3, .int .i64 a3), (11, .int .i64 s1), (12, .int .i64 s_.1), (13, .int .i64 s_.2)], fun s_ => [], (rt ZaK.out)⟩
noncomputable def ZaK.L1 (a0 : ByteArray) (a1 : Int) (a2 : Int) (a3 : Int) (s1 : Int) (s15 : Int) (s16 : Int) : M (LS (Int × Int) (Int × Int × (Option Addr))) :=
 if s16 < s1 then
  chk ((0 : Int) ≤ s16 ∧ s16 < (a0.size : Int)) >>= fun _ =>
  pure (LS.next (IntKind.wrap .i64 ((IntKind.wrap .i64 (10 * s15)) + (IntKind.wrap .i64 (IntKind.wrap .u8 ((sb a0 s16) - 48)))), IntKind.wrap .i64 (s16 + 1)))
 else
  if s15 > a2 then
   newv 191 Zbf (⟨a3, a1⟩ : ZbA) >>= fun b26 =>
   pure (LS.done (0, 0, (some (pt b26 0))))
  else
   pure (LS.done (s15, s1, none))
theorem ZaK.L1_ok (a0 : ByteArray) (a1 : Int) (a2 : Int) (a3 : Int) (s1 : Int) : LJ ZaK.cx (ZaK.F1 a0 a1 a2 a3 s1) (fun s_ => ZaK.L1 a0 a1 a2 a3 s1 s_.1 s_.2) := by
 rintro ⟨s15, s16⟩
 show SJ _ _ _ _ (ZaK.L1 a0 a1 a2 a3 s1 s15 s16) _
 unfold ZaK.L1
 refine SJ.seq <| SJ.sr 3 <| J.z 3 <| J.f ?_ ?_
 ·exact SJ.skip <| SJ.seq <| SJ.block (id := 3) <| SJ.rg 9 <| J.t 4 fun hb23 hb24 => J.z 4 <| SJ.inBlock <| SJ.rg 3 <| J.z 3 <| J.o rfl
 refine SJ.exit (id := 2) (by rfl) <| SJ.seq <| SJ.sr 3 <| J.z 3 <| J.f ?_ ?_
 ·exact SJ.sr 7 <| J.u 2 Zip (.f 0 (Zbg _ a3) (.f 1 (Zbh _ a1) .nil)) <| J.B 0 fun b26 => J.z 3 <| J.r
 exact SJ.skip <| SJ.sr 5 <| J.z 5 <| J.r
noncomputable def ZaK.K1 (a0 : ByteArray) (a1 : Int) (a2 : Int) (a3 : Int) (s1 : Int) : M (Int × Int × (Option Addr)) :=
 if s1 = a1 then
  Zda a0 a1 >>= fun r8 =>
  pure (0, 0, r8)
 else
  (if (IntKind.wrap .i64 (s1 - a1)) > 3 then
    pure true
   else
    (if (IntKind.wrap .i64 (s1 - a1)) > 1 then
      chk ((0 : Int) ≤ a1 ∧ a1 < (a0.size : Int)) >>= fun _ =>
      pure ((sb a0 a1) == 48)
     else
      pure false) >>= fun y11 =>
    pure y11) >>= fun y12 =>
  if y12 = true then
   newv 191 Zbf (⟨a3, a1⟩ : ZbA) >>= fun b14 =>
   pure (0, 0, (some (pt b14 0)))
  else
   Zc7 (fun s_ : (Int × Int) => ZaK.L1 a0 a1 a2 a3 s1 s_.1 s_.2) (0, a1)
theorem ZaK.K1_ok (a0 : ByteArray) (a1 : Int) (a2 : Int) (a3 : Int) (s1 : Int) :
  SJ ZaK.cx [.code (c2 (c2 (c2 ZaK.B)))] [(0, .string a0), (1, .int .i64 a1), (2, .int .i64 a2), (3, .int .i64 a3), (11, .int .i64 s1)] [] (ZaK.K1 a0 a1 a2 a3 s1) (rt ZaK.out) := by
 unfold ZaK.K1
 refine SJ.seq <| SJ.sr 3 <| J.z 3 <| J.f ?_ ?_
 ·exact SJ.sr 6 <| J.C 2 F108 (Zff _ _) fun r8 => J.z 3 <| J.r
 refine SJ.skip <| SJ.seq <| SJ.sr 16 <| J.g 5 <| OJ.join (b := decide ((IntKind.wrap .i64 (s1 - a1)) > 3)) [5, 6, 7, 8, 9, 10, 11, 12, 13, 14, 15] [] [0, 1, 2, 3, 11, 48] (fun y12 => [(0, .string a0), (1, .int .i64 a1), (2, .int .i64 a2), (3, .int .i64 a3), (11, .int .i64 s1), (48, .bool y12)]) [] [] (t := 37) decide_eq_true_iff (fun hp_ => ?_) (fun hp_ => ?_) (fun _ _ _ _ _ _ h_ => h_) fun y12 => ?_
 ·exact J.g 11 <| OJ.nil ⟨(Cov.mem Cov.nil), rfl, _, rfl, by kernel_rfl⟩
 ·refine J.g 5 <| OJ.join (b := decide ((IntKind.wrap .i64 (s1 - a1)) > 1)) [10, 11, 12, 13, 14] [15] [0, 1, 2, 3, 11, 37, 47] (fun y11 => [(0, .string a0), (1, .int .i64 a1), (2, .int .i64 a2), (3, .int .i64 a3), (11, .int .i64 s1), (37, .bool false), (47, .bool y11)]) [] [] (t := 42) decide_eq_true_iff (fun hp_ => ?_) (fun hp_ => ?_) (fun _ _ _ _ _ hq_ h_ => ⟨fun e_ he_ => (hq_ e_ he_).elim (fun h => h_.1 e_ h) (fun h => nomatch h), h_.2⟩) fun y11 => ?_
  ·exact J.t 2 fun hb9 hb10 => J.g 2 <| OJ.nil ⟨(Cov.mem Cov.nil), rfl, _, rfl, by kernel_rfl⟩
  ·exact J.g 5 <| OJ.nil ⟨(Cov.mem Cov.nil), rfl, _, rfl, by kernel_rfl⟩
  exact J.g 1 <| OJ.nil ⟨(Cov.mem Cov.nil), rfl, _, rfl, by kernel_rfl⟩
 refine J.z 0 <| J.f ?_ ?_
 ·exact SJ.sr 7 <| J.u 2 Zip (.f 0 (Zbg _ a3) (.f 1 (Zbh _ a1) .nil)) <| J.B 0 fun b14 => J.z 3 <| J.r
 exact SJ.skip <| SJ.sr 1 <| J.z 1 <| SJ.seq <| SJ.sr 2 <| J.z 2 <| SJ.block (id := 2) <| J.L (ZaK.L1_ok a0 a1 a2 a3 s1)
noncomputable def ZaK.F2 (a0 : ByteArray) (a1 : Int) (a2 : Int) (a3 : Int) : LF Int (Int × Int × (Option Addr)) := ⟨[.inBlock 0, .code (c2 (c2 (c2 ZaK.B)))], c1 (c1 (c2 (c2 ZaK.B))), fun s_ => [(0, .string a0), (1, .int .i64 a1), (2, .int .i64 a2), (3, .int .i64 a3), (11, .int .i64 s_)], fun s_ => [], (rt ZaK.out)⟩
noncomputable def ZaK.L2 (a0 : ByteArray) (a1 : Int) (a2 : Int) (a3 : Int) (s1 : Int) : M (LS Int (Int × Int × (Option Addr))) :=
 (if s1 < (a0.size : Int) then
   chk ((0 : Int) ≤ s1 ∧ s1 < (a0.size : Int)) >>= fun _ =>
   Zef (sb a0 s1) >>= fun r33 =>
   pure r33
  else
   pure false) >>= fun y34 =>
 if y34 = true then
  pure (LS.next (IntKind.wrap .i64 (s1 + 1)))
 else
  (ZaK.K1 a0 a1 a2 a3 s1) >>= fun b => pure (LS.done b)
theorem ZaK.L2_ok (a0 : ByteArray) (a1 : Int) (a2 : Int) (a3 : Int) : LJ ZaK.cx (ZaK.F2 a0 a1 a2 a3) (fun s_ => ZaK.L2 a0 a1 a2 a3 s_) := by
 rintro s1
 show SJ _ _ _ _ (ZaK.L2 a0 a1 a2 a3 s1) _
 unfold ZaK.L2
 refine SJ.seq <| SJ.sr 10 <| J.j 5 4 .bool ?_ ?_ fun y34 => ?_
 ·exact J.t 2 fun hb31 hb32 => J.C 0 F107 (Zik _) fun r33 => J.e 1
 ·exact J.e 5
 refine J.z 0 <| J.f ?_ ?_
 ·exact SJ.skip <| SJ.block (id := 1) <| SJ.rg 3 <| J.z 3 <| SJ.inBlock <| J.o rfl
 exact SJ.exit (id := 0) (by rfl) <| J.q <| SJ.done <| ZaK.K1_ok a0 a1 a2 a3 s1
noncomputable def ZaK (a0 : ByteArray) (a1 : Int) (a2 : Int) (a3 : Int) : M (Int × Int × (Option Addr)) :=
 Zc7 (fun s_ : Int => ZaK.L2 a0 a1 a2 a3 s_) a1
theorem Zhs (a0 : ByteArray) (a1 : Int) (a2 : Int) (a3 : Int) : Ref Tryz.prog 94 [.string a0, .int .i64 a1, .int .i64 a2, .int .i64 a3] (ZaK a0 a1 a2 a3) ZaK.out := by
 refine J.Fn Tryz.func94 ?_
 unfold ZaK
 exact SJ.sr 3 <| J.z 3 <| SJ.sr 2 <| J.z 2 <| SJ.seq <| SJ.block (id := 0) <| J.L (ZaK.L2_ok a0 a1 a2 a3)

/-! ### weir/addr.four: function 104 -/
noncomputable def ZaT.B : Code := bod Tryz.f104
noncomputable def ZaT.cx : Fx := ⟨Tryz.prog, 104, Tryz.f104, none⟩
noncomputable def ZaT.out (r_ : ((Vec Int 4) × (Option Addr))) : Value := .tuple #[((cI .u8).arr 4).val r_.1, .pointer r_.2]
noncomputable def ZaT.K1 (a0 : ByteArray) (s3 : Int) (s5 : (Vec Int 4)) : M ((Vec Int 4) × (Option Addr)) :=
 if s3 < (a0.size : Int) then
  newv 191 Zbf (⟨41, s3⟩ : ZbA) >>= fun b27 =>
  pure (s5, (some (pt b27 0)))
 else
  pure (s5, none)
theorem ZaT.K1_ok (a0 : ByteArray) (b1 : Nat) (b2 : Nat) (s3 : Int) (s5 : (Vec Int 4)) (s6 : (Vec Int 4)) :
  SJ ZaT.cx [.code (c2 (c2 (c2 ZaT.B)))] [(0, .string a0), (1, .int .i64 s3), (4, .pointer (some (pt b1 0))), (6, .pointer (some (pt b2 0)))] [(b2, ((cI .u8).arr 4).enc s5), (b1, ((cI .u8).arr 4).enc s6)] (ZaT.K1 a0 s3 s5) (rt ZaT.out) := by
 unfold ZaT.K1
 refine SJ.seq <| SJ.sr 4 <| J.z 4 <| J.f ?_ ?_
 ·exact SJ.sr 6 <| J.k 0 0 rfl Zgf (At.whole _) <| J.u 1 Zip (.f 0 (Zbg _ 41) (.f 1 (Zbh _ s3) .nil)) <| J.B 0 fun b27 => J.s 0 1 rfl Zgf (Upd.w s5) <| J.z 1 <| J.rc (.c 1 rfl Zgf .n)
 exact SJ.skip <| SJ.sr 3 <| J.k 0 0 rfl Zgf (At.whole _) <| J.s 0 1 rfl Zgf (Upd.w s5) <| J.z 1 <| J.rc (.c 1 rfl Zgf .n)
noncomputable def ZaT.F1 (a0 : ByteArray) (b1 : Nat) (b2 : Nat) : LF (Int × Int × (Vec Int 4) × (Vec Int 4)) ((Vec Int 4) × (Option Addr)) := ⟨[.inBlock 0, .code (c2 (c2 (c2 ZaT.B)))], c1 (c2 (c1 (c2 (c2 ZaT.B)))), fun s_ => [(0, .string a0), (1, .int .i64 s_.1), (4, .pointer (some (pt b1 0))), (6, .pointer (some (pt b2 0))), (11, .int .i64 s_.2.1)], fun s_ => [(b2, ((cI .u8).arr 4).enc s_.2.2.1), (b1, ((cI .u8).arr 4).enc s_.2.2.2)], (rt ZaT.out)⟩
noncomputable def ZaT.K2 (a0 : ByteArray) (s4 : Int) (s5 : (Vec Int 4)) (s6 : (Vec Int 4)) (j35 : Int) : M (LS (Int × Int × (Vec Int 4) × (Vec Int 4)) ((Vec Int 4) × (Option Addr))) :=
 ZaK a0 j35 255 43 >>= fun r36 =>
 if ¬ (r36.2.2 = none) then
  pure (LS.done (s5, r36.2.2))
 else
  chk ((0 : Int) ≤ s4 ∧ s4 < (4 : Nat)) >>= fun _ =>
  pure (LS.next (r36.2.1, IntKind.wrap .i64 (s4 + 1), (Vec.s s5 s4 (IntKind.wrap .u8 r36.1)), s6))
theorem ZaT.K2_ok (a0 : ByteArray) (b1 : Nat) (b2 : Nat) (s4 : Int) (s5 : (Vec Int 4)) (s6 : (Vec Int 4)) (j35 : Int) :
  SJ ZaT.cx [.code (c2 (c2 (c1 (c1 (c2 (c2 (c1 (c1 (c2 (c1 (c2 (c2 ZaT.B)))))))))))), .inBlock 1, .code (c2 (c2 (c2 (c1 (c1 (c2 (c1 (c2 (c2 ZaT.B))))))))), .inLoop (c1 (c1 (c2 (c1 (c2 (c2 ZaT.B)))))), .inBlock 0, .code (c2 (c2 (c2 ZaT.B)))] [(0, .string a0), (1, .int .i64 j35), (4, .pointer (some (pt b1 0))), (6, .pointer (some (pt b2 0))), (11, .int .i64 s4), (7, .int .i64 s4)] [(b2, ((cI .u8).arr 4).enc s5), (b1, ((cI .u8).arr 4).enc s6)] (ZaT.K2 a0 s4 s5 s6 j35) (ZaT.F1 a0 b1 b2).f := by
 unfold ZaT.K2
 refine SJ.sr 10 <| J.C 2 F94 (Zhs _ _ _ _) fun r36 => J.z 7 <| SJ.seq <| SJ.sr 2 <| J.z 2 <| J.f ?_ ?_
 ·exact SJ.sr 4 <| J.k 0 0 rfl Zgf (At.whole _) <| J.s 1 1 rfl Zgf (Upd.w s5) <| J.z 1 <| J.rc (.c 1 rfl Zgf .n)
 exact SJ.skip <| SJ.sr 5 <| J.y 3 fun hb37 hb38 => J.s (u := (IntKind.wrap .u8 r36.1)) 0 0 rfl Ty5 (Upd.zero (Upd.arr hb37 hb38)) <| J.z 0 <| SJ.rg 2 <| J.z 2 <| SJ.inBlock <| SJ.rg 2 <| J.z 2 <| J.o rfl
noncomputable def ZaT.L1 (a0 : ByteArray) (s3 : Int) (s4 : Int) (s5 : (Vec Int 4)) (s6 : (Vec Int 4)) : M (LS (Int × Int × (Vec Int 4) × (Vec Int 4)) ((Vec Int 4) × (Option Addr))) :=
 if s4 < 4 then
  if s4 > 0 then
   (if s3 = (a0.size : Int) then
     pure true
    else
     chk ((0 : Int) ≤ s3 ∧ s3 < (a0.size : Int)) >>= fun _ =>
     pure ((sb a0 s3) != 46)) >>= fun y42 =>
   if y42 = true then
    draw >>= fun _ =>
    Zda a0 s3 >>= fun r44 =>
    pure (LS.done (s5, r44))
   else
    ZaT.K2 a0 s4 s5 s6 (IntKind.wrap .i64 (s3 + 1))
  else
   ZaT.K2 a0 s4 s5 s6 s3
 else
  (ZaT.K1 a0 s3 s5) >>= fun b => pure (LS.done b)
theorem ZaT.L1_ok (a0 : ByteArray) (b1 : Nat) (b2 : Nat) : LJ ZaT.cx (ZaT.F1 a0 b1 b2) (fun s_ => ZaT.L1 a0 s_.1 s_.2.1 s_.2.2.1 s_.2.2.2) := by
 rintro ⟨s3, s4, s5, s6⟩
 show SJ _ _ _ _ (ZaT.L1 a0 s3 s4 s5 s6) _
 unfold ZaT.L1
 refine SJ.sr 1 <| J.z 1 <| SJ.seq <| J.f ?_ ?_
 ·refine SJ.skip <| SJ.seq <| SJ.block (id := 1) <| SJ.sr 2 <| J.z 2 <| SJ.seq <| SJ.sr 2 <| J.z 2 <| J.f ?_ ?_
  ·refine SJ.seq <| SJ.sr 10 <| J.j 5 4 .bool ?_ ?_ fun y42 => ?_
   ·exact J.e 5
   ·exact J.t 2 fun hb40 hb41 => J.e 2
   refine J.z 0 <| J.f ?_ ?_
   ·exact SJ.seq <| J.R 6 ZcZ <| J.k 0 0 rfl Zgf (At.whole _) <| J.g 2 <| OJ.call (d := 29) (g := 108) (ats := #[9, 3]) (args := [.tmp 27, .tmp 28]) (owed := [⟨0, 201, (pt b2 0), ((cI .u8).arr 4).val s5⟩]) F108 (Zff a0 s3) fun r44 => OW.known (j := 0) (q := s5) Zgf rfl (At.whole _) <| OW.nil <| J.s 0 1 rfl Zgf (Upd.w s5) <| J.z 1 <| J.rc (.c 1 rfl Zgf .n)
   exact SJ.skip <| SJ.rg 3 <| J.z 3 <| J.q <| ZaT.K2_ok a0 b1 b2 s4 s5 s6 (IntKind.wrap .i64 (s3 + 1))
  exact SJ.skip <| J.q <| ZaT.K2_ok a0 b1 b2 s4 s5 s6 s3
 exact SJ.exit (id := 0) (by rfl) <| J.q <| SJ.done <| ZaT.K1_ok a0 b1 b2 s3 s5 s6
noncomputable def ZaT (a0 : ByteArray) (a1 : Int) : M ((Vec Int 4) × (Option Addr)) :=
 slot 201 >>= fun b1 =>
 slot 201 >>= fun b2 =>
 Zc7 (fun s_ : (Int × Int × (Vec Int 4) × (Vec Int 4)) => ZaT.L1 a0 s_.1 s_.2.1 s_.2.2.1 s_.2.2.2) (a1, 0, (Vec.rep 4 0), (Vec.rep 4 0))
theorem Zjc (a0 : ByteArray) (a1 : Int) : Ref Tryz.prog 104 [.string a0, .int .i64 a1] (ZaT a0 a1) ZaT.out := by
 refine J.Fn Tryz.func104 ?_
 unfold ZaT
 exact SJ.sr 2 <| J.a 0 Zgf fun b1 => J.z 1 <| SJ.sr 1 <| J.a 0 Zgf fun b2 => J.z 0 <| SJ.seq <| SJ.sr 1 <| J.z 1 <| SJ.block (id := 0) <| J.L (ZaT.L1_ok a0 b1 b2)

/-! ### strings.HasPrefix: function 124 -/
noncomputable def Zcr.out (r_ : Bool) : Value := .bool r_
noncomputable def Zcr (a0 : ByteArray) (a1 : ByteArray) : M Bool :=
 ZbG a0 a1 >>= fun r1 =>
 pure r1
theorem Zhd (a0 : ByteArray) (a1 : ByteArray) : Ref Tryz.prog 124 [.string a0, .string a1] (Zcr a0 a1) Zcr.out := by
 refine J.Fn Tryz.func124 ?_
 unfold Zcr
 exact SJ.sr 1 <| J.z 1 <| SJ.sr 4 <| J.C 2 F92 (Zec _ _) fun r1 => J.z 1 <| J.r

/-! ### (*weir/addr.six).double: function 116 -/
noncomputable def ZcB.out (r_ : (Bool × (Option Addr))) : Value := .tuple #[.bool r_.1, .pointer r_.2]
noncomputable def ZcB (a0 : (Option Addr)) : M (Bool × (Option Addr)) :=
 draw >>= fun _ =>
 nilck a0 >>= fun p1 =>
 ld cS p1 >>= fun x2 =>
 nilck a0 >>= fun p3 =>
 ld (cI .i64) (Addr.add p3 1) >>= fun x4 =>
 chk (0 ≤ (x4 : Int) ∧ (x4 : Int) ≤ (x2.size : Int) ∧ (x2.size : Int) ≤ (x2.size : Int)) >>= fun _ =>
 Zcr (ByteArray.extract x2 (Int.toNat x4) (Int.toNat (x2.size : Int))) Zo0 >>= fun r5 =>
 if ¬ (r5 = true) then
  pure (false, none)
 else
  nilck a0 >>= fun p6 =>
  ld (cI .i64) (Addr.add p6 3) >>= fun x7 =>
  (if x7 ≥ 0 then
    pure true
   else
    nilck a0 >>= fun p8 =>
    ld cL (Addr.add p8 2) >>= fun x9 =>
    pure ((x9.len : Int) == 8)) >>= fun y10 =>
  if y10 = true then
   draw >>= fun _ =>
   nilck a0 >>= fun p14 =>
   ld (cI .i64) (Addr.add p14 1) >>= fun x15 =>
   newv 191 Zbf (⟨44, x15⟩ : ZbA) >>= fun b16 =>
   pure (false, (some (pt b16 0)))
  else
   nilck a0 >>= fun p17 =>
   ld cL (Addr.add p17 2) >>= fun x18 =>
   nilck a0 >>= fun p19 =>
   st (cI .i64) (Addr.add p19 3) (x18.len : Int) >>= fun _ =>
   nilck a0 >>= fun p20 =>
   ld (cI .i64) (Addr.add p20 1) >>= fun x21 =>
   nilck a0 >>= fun p22 =>
   st (cI .i64) (Addr.add p22 1) (IntKind.wrap .i64 (x21 + 2)) >>= fun _ =>
   pure (true, none)
theorem Zfx (a0 : (Option Addr)) : Ref Tryz.prog 116 [.pointer a0] (ZcB a0) ZcB.out := by
 refine J.Fn Tryz.func116 ?_
 unfold ZcB
 refine SJ.sr 2 <| J.z 2 <| SJ.seq <| SJ.seq <| J.R 11 ZcZ <| J.n 1 fun p1 => J.l 1 Ty9 fun x2 => J.n 1 fun p3 => J.l 1 Ty3 fun x4 => J.ct 0 <| J.C 0 F124 (Zhd _ _) fun r5 => J.z 1 <| J.f ?_ ?_
 ·exact SJ.sr 2 <| J.z 2 <| J.r
 refine SJ.skip <| SJ.seq <| SJ.sr 13 <| J.n 1 fun p6 => J.l 1 Ty3 fun x7 => J.j 2 6 .bool ?_ ?_ fun y10 => ?_
 ·exact J.e 7
 ·exact J.n 1 fun p8 => J.l 1 ZiL fun x9 => J.e 3
 refine J.z 0 <| J.f ?_ ?_
 ·exact SJ.seq <| J.R 8 ZcZ <| J.n 1 fun p14 => J.l 1 Ty3 fun x15 => J.u 0 Zip (.f 0 (Zbg _ 44) (.f 1 (Zbh _ x15) .nil)) <| J.B 0 fun b16 => J.z 2 <| J.r
 exact SJ.skip <| SJ.sr 9 <| J.n 2 fun p17 => J.l 1 ZiL fun x18 => J.n 1 fun p19 => J.w 1 Ty3 <| J.z 0 <| SJ.sr 8 <| J.n 1 fun p20 => J.l 1 Ty3 fun x21 => J.n 1 fun p22 => J.w 1 Ty3 <| J.z 0 <| SJ.sr 2 <| J.z 2 <| J.r

/-! ### weir/addr.hexa: function 125 -/
noncomputable def ZeP.out (r_ : Int) : Value := .int .i64 r_
noncomputable def ZeP (a0 : Int) : M Int :=
 Zef a0 >>= fun r1 =>
 if r1 = true then
  pure (IntKind.wrap .i64 (IntKind.wrap .u8 (a0 - 48)))
 else
  (if a0 ≥ 97 then
    pure (decide (a0 ≤ 102))
   else
    pure false) >>= fun y8 =>
  if y8 = true then
   pure (IntKind.wrap .i64 ((IntKind.wrap .i64 (IntKind.wrap .u8 (a0 - 97))) + 10))
  else
   (if a0 ≥ 65 then
     pure (decide (a0 ≤ 70))
    else
     pure false) >>= fun y11 =>
   if y11 = true then
    pure (IntKind.wrap .i64 ((IntKind.wrap .i64 (IntKind.wrap .u8 (a0 - 65))) + 10))
   else
    pure (-1)
theorem Zjb (a0 : Int) : Ref Tryz.prog 125 [.int .u8 a0] (ZeP a0) ZeP.out := by
 refine J.Fn Tryz.func125 ?_
 unfold ZeP
 refine SJ.sr 1 <| J.z 1 <| SJ.seq <| SJ.block (id := 0) <| SJ.sr 3 <| J.C 1 F107 (Zik _) fun r1 => J.z 1 <| J.f ?_ ?_
 ·exact SJ.sr 4 <| J.z 4 <| J.r
 refine SJ.sr 7 <| J.j 3 2 .bool ?_ ?_ fun y8 => ?_
 ·exact J.e 3
 ·exact J.e 3
 refine J.z 1 <| J.f ?_ ?_
 ·exact SJ.sr 5 <| J.z 5 <| J.r
 refine SJ.sr 7 <| J.j 3 2 .bool ?_ ?_ fun y11 => ?_
 ·exact J.e 3
 ·exact J.e 3
 refine J.z 1 <| J.f ?_ ?_
 ·exact SJ.sr 5 <| J.z 5 <| J.r
 exact SJ.skip <| SJ.inBlock <| SJ.sr 1 <| J.z 1 <| J.r

/-! ### (*weir/addr.six).room: function 126 -/
noncomputable def Zc9.out (r_ : Int) : Value := .int .i64 r_
noncomputable def Zc9 (a0 : (Option Addr)) : M Int :=
 nilck a0 >>= fun p1 =>
 ld (cI .i64) (Addr.add p1 3) >>= fun x2 =>
 if x2 ≥ 0 then
  nilck a0 >>= fun p5 =>
  ld cL (Addr.add p5 2) >>= fun x6 =>
  pure (IntKind.wrap .i64 (7 - (x6.len : Int)))
 else
  nilck a0 >>= fun p7 =>
  ld cL (Addr.add p7 2) >>= fun x8 =>
  pure (IntKind.wrap .i64 (8 - (x8.len : Int)))
theorem Zgn (a0 : (Option Addr)) : Ref Tryz.prog 126 [.pointer a0] (Zc9 a0) Zc9.out := by
 refine J.Fn Tryz.func126 ?_
 unfold Zc9
 refine SJ.sr 1 <| J.z 1 <| SJ.seq <| SJ.sr 5 <| J.n 1 fun p1 => J.l 1 Ty3 fun x2 => J.z 1 <| J.f ?_ ?_
 ·exact SJ.sr 7 <| J.n 1 fun p5 => J.l 1 ZiL fun x6 => J.z 3 <| J.r
 exact SJ.skip <| SJ.sr 7 <| J.n 1 fun p7 => J.l 1 ZiL fun x8 => J.z 3 <| J.r

/-! ### (*weir/addr.six).group: function 117 -/
noncomputable def ZaM.B : Code := bod Tryz.f117
noncomputable def ZaM.cx : Fx := ⟨Tryz.prog, 117, Tryz.f117, none⟩
noncomputable def ZaM.out (r_ : (Bool × (Option Addr))) : Value := .tuple #[.bool r_.1, .pointer r_.2]
noncomputable def ZaM.K1 (a0 : (Option Addr)) (x2 : Int) (s3 : Int) (s4 : Int) : M (Bool × (Option Addr)) :=
 if s4 = x2 then
  nilck a0 >>= fun p22 =>
  ld cS p22 >>= fun x23 =>
  Zda x23 x2 >>= fun r24 =>
  pure (false, r24)
 else
  nilck a0 >>= fun p25 =>
  ld cS p25 >>= fun x26 =>
  (if s4 < (x26.size : Int) then
    nilck a0 >>= fun p27 =>
    ld cS p27 >>= fun x28 =>
    chk ((0 : Int) ≤ s4 ∧ s4 < (x28.size : Int)) >>= fun _ =>
    pure ((sb x28 s4) == 46)
   else
    pure false) >>= fun y31 =>
  (if y31 = true then
    nilck a0 >>= fun p32 =>
    ld cL (Addr.add p32 2) >>= fun x33 =>
    (if (x33.len : Int) > 0 then
      pure true
     else
      nilck a0 >>= fun p34 =>
      ld (cI .i64) (Addr.add p34 3) >>= fun x35 =>
      pure (decide (x35 ≥ 0))) >>= fun y36 =>
    pure y36
   else
    pure false) >>= fun y37 =>
  if y37 = true then
   Zc9 a0 >>= fun r51 =>
   if r51 < 2 then
    newv 191 Zbf (⟨44, x2⟩ : ZbA) >>= fun b53 =>
    pure (false, (some (pt b53 0)))
   else
    nilck a0 >>= fun p54 =>
    ld cS p54 >>= fun x55 =>
    ZaT x55 x2 >>= fun r56 =>
    slot 201 >>= fun b57 =>
    draw >>= fun _ =>
    nilck a0 >>= fun p58 =>
    ld cL (Addr.add p58 2) >>= fun x59 =>
    slot 3 >>= fun b60 =>
    same cL (Addr.add p58 2) x59 >>= fun _ =>
    appl (cI .i64) 3 8 0 x59 [bor .i64 (IntKind.wrap .i64 ((IntKind.wrap .i64 (Vec.g r56.1 0 0)) * 2 ^ 8)) (IntKind.wrap .i64 (Vec.g r56.1 1 0)), bor .i64 (IntKind.wrap .i64 ((IntKind.wrap .i64 (Vec.g r56.1 2 0)) * 2 ^ 8)) (IntKind.wrap .i64 (Vec.g r56.1 3 0))] >>= fun r61 =>
    nilck a0 >>= fun p62 =>
    st cL (Addr.add p62 2) r61 >>= fun _ =>
    pure (true, r56.2)
  else
   Zc9 a0 >>= fun r64 =>
   if r64 < 1 then
    newv 191 Zbf (⟨44, x2⟩ : ZbA) >>= fun b66 =>
    pure (false, (some (pt b66 0)))
   else
    if (IntKind.wrap .i64 (s4 - x2)) > 4 then
     newv 191 Zbf (⟨43, x2⟩ : ZbA) >>= fun b68 =>
     pure (false, (some (pt b68 0)))
    else
     nilck a0 >>= fun p69 =>
     ld cL (Addr.add p69 2) >>= fun x70 =>
     slot 3 >>= fun b71 =>
     appl (cI .i64) 3 8 0 x70 [s3] >>= fun r72 =>
     nilck a0 >>= fun p73 =>
     st cL (Addr.add p73 2) r72 >>= fun _ =>
     nilck a0 >>= fun p74 =>
     st (cI .i64) (Addr.add p74 1) s4 >>= fun _ =>
     pure (false, none)
theorem ZaM.K1_ok (a0 : (Option Addr)) (x2 : Int) (s3 : Int) (s4 : Int) :
  SJ ZaM.cx [.code (c2 (c2 (c2 (c2 ZaM.B))))] [(0, .pointer a0), (4, .int .i64 x2), (5, .int .i64 s3), (6, .int .i64 s4)] [] (ZaM.K1 a0 x2 s3 s4) (rt ZaM.out) := by
 unfold ZaM.K1
 refine SJ.seq <| SJ.sr 3 <| J.z 3 <| J.f ?_ ?_
 ·exact SJ.sr 8 <| J.n 1 fun p22 => J.l 1 Ty9 fun x23 => J.C 1 F108 (Zff _ _) fun r24 => J.z 2 <| J.r
 refine SJ.skip <| SJ.seq <| SJ.sr 31 <| J.n 2 fun p25 => J.l 1 Ty9 fun x26 => J.j 3 7 .bool ?_ ?_ fun y31 => ?_
 ·exact J.n 1 fun p27 => J.l 1 Ty9 fun x28 => J.t 1 fun hb29 hb30 => J.e 2
 ·exact J.e 8
 refine J.g 1 <| OJ.join (b := y31) [17, 18, 19, 20, 21, 22, 23, 24, 25, 26, 27, 28, 29, 30] [] [0, 4, 5, 6, 83] (fun y37 => [(0, .pointer a0), (4, .int .i64 x2), (5, .int .i64 s3), (6, .int .i64 s4), (83, .bool y37)]) [] [] (t := 69) Iff.rfl (fun hp_ => ?_) (fun hp_ => ?_) (fun _ _ _ _ _ _ h_ => h_) fun y37 => ?_
 ·refine J.n 1 fun p32 => J.l 1 ZiL fun x33 => J.g 3 <| OJ.join (b := decide ((x33.len : Int) > 0)) [24, 25, 26, 27, 28, 29] [30] [0, 4, 5, 6, 69, 82] (fun y36 => [(0, .pointer a0), (4, .int .i64 x2), (5, .int .i64 s3), (6, .int .i64 s4), (69, .bool true), (82, .bool y36)]) [] [] (t := 76) decide_eq_true_iff (fun hp_ => ?_) (fun hp_ => ?_) (fun _ _ _ _ _ hq_ h_ => ⟨fun e_ he_ => (hq_ e_ he_).elim (fun h => h_.1 e_ h) (fun h => nomatch h), h_.2⟩) fun y36 => ?_
  ·exact J.g 6 <| OJ.nil ⟨(Cov.mem Cov.nil), rfl, _, rfl, by kernel_rfl⟩
  ·exact J.n 1 fun p34 => J.l 1 Ty3 fun x35 => J.g 2 <| OJ.nil ⟨(Cov.mem Cov.nil), rfl, _, rfl, by kernel_rfl⟩
  exact J.g 1 <| OJ.nil ⟨(Cov.mem Cov.nil), rfl, _, rfl, by kernel_rfl⟩
 ·exact J.g 14 <| OJ.nil ⟨(Cov.mem Cov.nil), rfl, _, rfl, by kernel_rfl⟩
 refine J.z 0 <| J.f ?_ ?_
 ·refine SJ.seq <| SJ.sr 3 <| J.C 1 F126 (Zgn _) fun r51 => J.z 1 <| J.f ?_ ?_
  ·exact SJ.sr 5 <| J.u 1 Zip (.f 0 (Zbg _ 44) (.f 1 (Zbh _ x2) .nil)) <| J.B 0 fun b53 => J.z 2 <| J.r
  exact SJ.skip <| SJ.sr 12 <| J.n 1 fun p54 => J.l 1 Ty9 fun x55 => J.C 1 F104 (Zjc _ _) fun r56 => J.a 3 Zgf fun b57 => J.s 0 0 rfl Zgf (Upd.w r56.1) <| J.z 1 <| SJ.seq <| J.R 26 ZcZ <| J.n 2 fun p58 => J.l 1 ZiL fun x59 => J.k 1 0 rfl Ty5 (At.zero (At.arr (z := 0) (i := 0) (n := 4) (by decide) (by decide))) <| J.k 3 0 rfl Ty5 (At.zero (At.arr (z := 0) (i := 1) (n := 4) (by decide) (by decide))) <| J.k 3 0 rfl Ty5 (At.zero (At.arr (z := 0) (i := 2) (n := 4) (by decide) (by decide))) <| J.k 3 0 rfl Ty5 (At.zero (At.arr (z := 0) (i := 3) (n := 4) (by decide) (by decide))) <| J.g 2 <| OJ.rowSlot (d := 120) (t := 182) (parts := [(0, .tmp 111), (1, .tmp 119)]) (ps := [(0, (cI .i64).val (bor .i64 (IntKind.wrap .i64 ((IntKind.wrap .i64 (Vec.g r56.1 0 0)) * 2 ^ 8)) (IntKind.wrap .i64 (Vec.g r56.1 1 0)))), (1, (cI .i64).val (bor .i64 (IntKind.wrap .i64 ((IntKind.wrap .i64 (Vec.g r56.1 2 0)) * 2 ^ 8)) (IntKind.wrap .i64 (Vec.g r56.1 3 0))))]) (cd := (cI .i64)) (⟨[bor .i64 (IntKind.wrap .i64 ((IntKind.wrap .i64 (Vec.g r56.1 0 0)) * 2 ^ 8)) (IntKind.wrap .i64 (Vec.g r56.1 1 0)), bor .i64 (IntKind.wrap .i64 ((IntKind.wrap .i64 (Vec.g r56.1 2 0)) * 2 ^ 8)) (IntKind.wrap .i64 (Vec.g r56.1 3 0))], rfl⟩ : Vec Int 2) (owed := [⟨4, 182, (Addr.add p58 2), cL.val x59⟩]) Ty3 (ZbV.cons (cd := (cI .i64)) (q := (bor .i64 (IntKind.wrap .i64 ((IntKind.wrap .i64 (Vec.g r56.1 0 0)) * 2 ^ 8)) (IntKind.wrap .i64 (Vec.g r56.1 1 0)))) (o := 0) rfl (Upd.arr (i := 0) (by decide) (by decide)) (ZbV.cons (cd := (cI .i64)) (q := (bor .i64 (IntKind.wrap .i64 ((IntKind.wrap .i64 (Vec.g r56.1 2 0)) * 2 ^ 8)) (IntKind.wrap .i64 (Vec.g r56.1 3 0)))) (o := 1) rfl (Upd.arr (i := 1) (by decide) (by decide)) ZbV.nil)) fun b60 => OW.same ZiL <| OW.nil <| J.p 0 0 rfl Ty3 fun r61 => J.n 0 fun p62 => J.w 1 ZiL <| J.z 0 <| SJ.sr 3 <| J.z 3 <| J.r
 refine SJ.skip <| SJ.seq <| SJ.sr 3 <| J.C 1 F126 (Zgn _) fun r64 => J.z 1 <| J.f ?_ ?_
 ·exact SJ.sr 5 <| J.u 1 Zip (.f 0 (Zbg _ 44) (.f 1 (Zbh _ x2) .nil)) <| J.B 0 fun b66 => J.z 2 <| J.r
 refine SJ.skip <| SJ.seq <| SJ.sr 4 <| J.z 4 <| J.f ?_ ?_
 ·exact SJ.sr 5 <| J.u 1 Zip (.f 0 (Zbg _ 43) (.f 1 (Zbh _ x2) .nil)) <| J.B 0 fun b68 => J.z 2 <| J.r
 exact SJ.skip <| SJ.sr 11 <| J.n 2 fun p69 => J.l 1 ZiL fun x70 => J.S 1 [s3] Ty3 fun b71 => J.p 0 0 rfl Ty3 fun r72 => J.n 0 fun p73 => J.w 1 ZiL <| J.z 0 <| SJ.sr 5 <| J.n 2 fun p74 => J.w 1 Ty3 <| J.z 0 <| SJ.sr 2 <| J.z 2 <| J.r
noncomputable def ZaM.F1 (a0 : (Option Addr)) (x2 : Int) : LF (Int × Int) (Bool × (Option Addr)) := ⟨[.inBlock 0, .code (c2 (c2 (c2 (c2 ZaM.B))))], c1 (c1 (c2 (c2 (c2 ZaM.B)))), fun s_ => [(0, .pointer a0), (4, .int .i64 x2), (5, .int .i64 s_.1), (6, .int .i64 s_.2)], fun s_ => [], (rt ZaM.out)⟩
noncomputable def ZaM.L1 (a0 : (Option Addr)) (x2 : Int) (s3 : Int) (s4 : Int) : M (LS (Int × Int) (Bool × (Option Addr))) :=
 nilck a0 >>= fun p79 =>
 ld cS p79 >>= fun x80 =>
 (if s4 < (x80.size : Int) then
   nilck a0 >>= fun p81 =>
   ld cS p81 >>= fun x82 =>
   chk ((0 : Int) ≤ s4 ∧ s4 < (x82.size : Int)) >>= fun _ =>
   ZeP (sb x82 s4) >>= fun r85 =>
   pure (decide (r85 ≥ 0))
  else
   pure false) >>= fun y86 =>
 if y86 = true then
  nilck a0 >>= fun p87 =>
  ld cS p87 >>= fun x88 =>
  chk ((0 : Int) ≤ s4 ∧ s4 < (x88.size : Int)) >>= fun _ =>
  ZeP (sb x88 s4) >>= fun r91 =>
  pure (LS.next (bor .i64 (band .i64 (IntKind.wrap .i64 (s3 * 2 ^ 4)) 1048575) r91, IntKind.wrap .i64 (s4 + 1)))
 else
  (ZaM.K1 a0 x2 s3 s4) >>= fun b => pure (LS.done b)
theorem ZaM.L1_ok (a0 : (Option Addr)) (x2 : Int) : LJ ZaM.cx (ZaM.F1 a0 x2) (fun s_ => ZaM.L1 a0 x2 s_.1 s_.2) := by
 rintro ⟨s3, s4⟩
 show SJ _ _ _ _ (ZaM.L1 a0 x2 s3 s4) _
 unfold ZaM.L1
 refine SJ.seq <| SJ.sr 17 <| J.n 2 fun p79 => J.l 1 Ty9 fun x80 => J.j 3 8 .bool ?_ ?_ fun y86 => ?_
 ·exact J.n 1 fun p81 => J.l 1 Ty9 fun x82 => J.t 1 fun hb83 hb84 => J.C 0 F125 (Zjb _) fun r85 => J.e 2
 ·exact J.e 9
 refine J.z 0 <| J.f ?_ ?_
 ·exact SJ.skip <| SJ.block (id := 1) <| SJ.sr 12 <| J.n 4 fun p87 => J.l 1 Ty9 fun x88 => J.t 1 fun hb89 hb90 => J.C 0 F125 (Zjb _) fun r91 => J.z 2 <| SJ.rg 3 <| J.z 3 <| SJ.inBlock <| J.o rfl
 exact SJ.exit (id := 0) (by rfl) <| J.q <| SJ.done <| ZaM.K1_ok a0 x2 s3 s4
noncomputable def ZaM (a0 : (Option Addr)) : M (Bool × (Option Addr)) :=
 nilck a0 >>= fun p1 =>
 ld (cI .i64) (Addr.add p1 1) >>= fun x2 =>
 Zc7 (fun s_ : (Int × Int) => ZaM.L1 a0 x2 s_.1 s_.2) (0, x2)
theorem ZiH (a0 : (Option Addr)) : Ref Tryz.prog 117 [.pointer a0] (ZaM a0) ZaM.out := by
 refine J.Fn Tryz.func117 ?_
 unfold ZaM
 exact SJ.sr 2 <| J.z 2 <| SJ.sr 6 <| J.n 1 fun p1 => J.l 1 Ty3 fun x2 => J.z 2 <| SJ.sr 2 <| J.z 2 <| SJ.seq <| SJ.block (id := 0) <| J.L (ZaM.L1_ok a0 x2)

/-! ### (*weir/addr.six).read: function 105 -/
noncomputable def Zbb.B : Code := bod Tryz.f105
noncomputable def Zbb.cx : Fx := ⟨Tryz.prog, 105, Tryz.f105, none⟩
noncomputable def Zbb.out (r_ : (Option Addr)) : Value := .pointer r_
noncomputable def Zbb.F1 (a0 : (Option Addr)) : LF Bool (Option Addr) := ⟨[.inBlock 0], c1 (c2 (c2 (c2 Zbb.B))), fun s_ => [(0, .pointer a0), (5, .bool s_)], fun s_ => [], (rt Zbb.out)⟩
noncomputable def Zbb.L1 (a0 : (Option Addr)) (s4 : Bool) : M (LS Bool (Option Addr)) :=
 draw >>= fun _ =>
 nilck a0 >>= fun p5 =>
 ld (cI .i64) (Addr.add p5 1) >>= fun x6 =>
 nilck a0 >>= fun p7 =>
 ld cS p7 >>= fun x8 =>
 (if x6 = (x8.size : Int) then
   pure s4
  else
   pure false) >>= fun y9 =>
 if y9 = true then
  pure (LS.done none)
 else
  ZaM a0 >>= fun r10 =>
  if ¬ (r10.2 = none) then
   pure (LS.done r10.2)
  else
   draw >>= fun _ =>
   (if r10.1 = true then
     pure true
    else
     nilck a0 >>= fun p11 =>
     ld (cI .i64) (Addr.add p11 1) >>= fun x12 =>
     nilck a0 >>= fun p13 =>
     ld cS p13 >>= fun x14 =>
     pure (x12 == (x14.size : Int))) >>= fun y15 =>
   if y15 = true then
    nilck a0 >>= fun p28 =>
    ld (cI .i64) (Addr.add p28 3) >>= fun x29 =>
    (if x29 < 0 then
      nilck a0 >>= fun p30 =>
      ld cL (Addr.add p30 2) >>= fun x31 =>
      pure ((x31.len : Int) != 8)
     else
      pure false) >>= fun y32 =>
    if y32 = true then
     nilck a0 >>= fun p36 =>
     ld cS p36 >>= fun x37 =>
     newv 191 Zbf (⟨42, (x37.size : Int)⟩ : ZbA) >>= fun b38 =>
     pure (LS.done (some (pt b38 0)))
    else
     pure (LS.done none)
   else
    ZcB a0 >>= fun r40 =>
    if ¬ (r40.2 = none) then
     pure (LS.done r40.2)
    else
     if ¬ (r40.1 = true) then
      draw >>= fun _ =>
      nilck a0 >>= fun p57 =>
      ld cS p57 >>= fun x58 =>
      nilck a0 >>= fun p59 =>
      ld (cI .i64) (Addr.add p59 1) >>= fun x60 =>
      chk ((0 : Int) ≤ x60 ∧ x60 < (x58.size : Int)) >>= fun _ =>
      if (sb x58 x60) ≠ 58 then
       nilck a0 >>= fun p66 =>
       ld (cI .i64) (Addr.add p66 1) >>= fun x67 =>
       newv 191 Zbf (⟨41, x67⟩ : ZbA) >>= fun b68 =>
       pure (LS.done (some (pt b68 0)))
      else
       nilck a0 >>= fun p69 =>
       ld (cI .i64) (Addr.add p69 1) >>= fun x70 =>
       nilck a0 >>= fun p71 =>
       st (cI .i64) (Addr.add p71 1) (IntKind.wrap .i64 (x70 + 1)) >>= fun _ =>
       pure (LS.next r40.1)
     else
      pure (LS.next r40.1)
theorem Zbb.L1_ok (a0 : (Option Addr)) : LJ Zbb.cx (Zbb.F1 a0) (fun s_ => Zbb.L1 a0 s_) := by
 rintro s4
 show SJ _ _ _ _ (Zbb.L1 a0 s4) _
 unfold Zbb.L1
 refine SJ.block (id := 1) <| SJ.seq <| SJ.seq <| J.R 13 ZcZ <| J.n 1 fun p5 => J.l 1 Ty3 fun x6 => J.n 1 fun p7 => J.l 1 Ty9 fun x8 => J.j 3 1 .bool ?_ ?_ fun y9 => ?_
 ·exact J.e 2
 ·exact J.e 2
 refine J.z 0 <| J.f ?_ ?_
 ·exact SJ.sr 1 <| J.z 1 <| J.r
 refine SJ.skip <| SJ.sr 7 <| J.C 1 F117 (ZiH _) fun r10 => J.z 5 <| SJ.seq <| SJ.sr 2 <| J.z 2 <| J.f ?_ ?_
 ·exact SJ.sr 2 <| J.z 2 <| J.r
 refine SJ.skip <| SJ.seq <| SJ.seq <| J.R 13 ZcZ <| J.j 2 10 .bool ?_ ?_ fun y15 => ?_
 ·exact J.e 11
 ·exact J.n 1 fun p11 => J.l 1 Ty3 fun x12 => J.n 1 fun p13 => J.l 1 Ty9 fun x14 => J.e 3
 refine J.z 0 <| J.f ?_ ?_
 ·refine SJ.seq <| SJ.sr 13 <| J.n 1 fun p28 => J.l 1 Ty3 fun x29 => J.j 2 6 .bool ?_ ?_ fun y32 => ?_
  ·exact J.n 1 fun p30 => J.l 1 ZiL fun x31 => J.e 3
  ·exact J.e 7
  refine J.z 0 <| J.f ?_ ?_
  ·exact SJ.sr 8 <| J.n 1 fun p36 => J.l 1 Ty9 fun x37 => J.u 1 Zip (.f 0 (Zbg _ 42) (.f 1 (Zbh _ (x37.size : Int)) .nil)) <| J.B 0 fun b38 => J.z 1 <| J.r
  exact SJ.skip <| SJ.sr 1 <| J.z 1 <| J.r
 refine SJ.skip <| SJ.sr 7 <| J.C 1 F116 (Zfx _) fun r40 => J.z 5 <| SJ.seq <| SJ.sr 2 <| J.z 2 <| J.f ?_ ?_
 ·exact SJ.sr 2 <| J.z 2 <| J.r
 refine SJ.skip <| SJ.sr 2 <| J.z 2 <| J.f ?_ ?_
 ·refine SJ.seq <| SJ.seq <| J.R 10 ZcZ <| J.n 1 fun p57 => J.l 1 Ty9 fun x58 => J.n 1 fun p59 => J.l 1 Ty3 fun x60 => J.t 0 fun hb61 hb62 => J.z 1 <| J.f ?_ ?_
  ·exact SJ.sr 7 <| J.n 1 fun p66 => J.l 1 Ty3 fun x67 => J.u 0 Zip (.f 0 (Zbg _ 41) (.f 1 (Zbh _ x67) .nil)) <| J.B 0 fun b68 => J.z 1 <| J.r
  exact SJ.skip <| SJ.rg 8 <| J.n 1 fun p69 => J.l 1 Ty3 fun x70 => J.n 1 fun p71 => J.w 1 Ty3 <| J.z 0 <| SJ.inBlock <| J.o rfl
 exact SJ.skip <| SJ.inBlock <| J.o rfl
noncomputable def Zbb (a0 : (Option Addr)) : M (Option Addr) :=
 ZcB a0 >>= fun r1 =>
 if ¬ (r1.2 = none) then
  pure r1.2
 else
  nilck a0 >>= fun p2 =>
  ld (cI .i64) (Addr.add p2 3) >>= fun x3 =>
  Zc7 (fun s_ : Bool => Zbb.L1 a0 s_) (decide (x3 ≥ 0))
theorem Zjj (a0 : (Option Addr)) : Ref Tryz.prog 105 [.pointer a0] (Zbb a0) Zbb.out := by
 refine J.Fn Tryz.func105 ?_
 unfold Zbb
 refine SJ.sr 1 <| J.z 1 <| SJ.seq <| SJ.sr 7 <| J.C 1 F116 (Zfx _) fun r1 => J.z 5 <| SJ.sr 2 <| J.z 2 <| J.f ?_ ?_
 ·exact SJ.sr 2 <| J.z 2 <| J.r
 exact SJ.skip <| SJ.sr 6 <| J.n 1 fun p2 => J.l 1 Ty3 fun x3 => J.z 2 <| SJ.block (id := 0) <| J.L (Zbb.L1_ok a0)

/-! ### (*weir/addr.six).bytes: function 106 -/
noncomputable def ZaC.B : Code := bod Tryz.f106
noncomputable def ZaC.cx : Fx := ⟨Tryz.prog, 106, Tryz.f106, none⟩
noncomputable def ZaC.out (r_ : (Vec Int 16)) : Value := ((cI .u8).arr 16).val r_
noncomputable def ZaC.F1 (a0 : (Option Addr)) (b1 : Nat) (b2 : Nat) (x4 : Sl) : LF (Int × (Vec Int 16)) (Vec Int 16) := ⟨[.inBlock 0, .code (c2 (c2 (c2 ZaC.B)))], c1 (c2 (c1 (c2 (c2 ZaC.B)))), fun s_ => [(0, .pointer a0), (2, .pointer (some (pt b1 0))), (3, .pointer (some (pt b2 0))), (9, Sl.v x4), (10, .int .i64 (x4.len : Int)), (11, .int .i64 s_.1)], fun s_ => [(b2, ((cI .u8).arr 16).enc s_.2), (b1, ((cI .u8).arr 16).enc (Vec.rep 16 0))], (rt ZaC.out)⟩
noncomputable def ZaC.K1 (s5 : Int) (s6 : (Vec Int 16)) (x26 : Int) (j34 : Int) : M (LS (Int × (Vec Int 16)) (Vec Int 16)) :=
 chk ((0 : Int) ≤ (IntKind.wrap .i64 (2 * j34)) ∧ (IntKind.wrap .i64 (2 * j34)) < (16 : Nat)) >>= fun _ =>
 chk ((0 : Int) ≤ (IntKind.wrap .i64 ((IntKind.wrap .i64 (2 * j34)) + 1)) ∧ (IntKind.wrap .i64 ((IntKind.wrap .i64 (2 * j34)) + 1)) < (16 : Nat)) >>= fun _ =>
 pure (LS.next (IntKind.wrap .i64 (s5 + 1), (Vec.s (Vec.s s6 (IntKind.wrap .i64 (2 * j34)) (IntKind.wrap .u8 (Int.fdiv x26 (2 ^ 8)))) (IntKind.wrap .i64 ((IntKind.wrap .i64 (2 * j34)) + 1)) (IntKind.wrap .u8 x26))))
theorem ZaC.K1_ok (a0 : (Option Addr)) (b1 : Nat) (b2 : Nat) (x4 : Sl) (s5 : Int) (s6 : (Vec Int 16)) (x26 : Int) (j34 : Int) :
  SJ ZaC.cx [.code (c2 (c2 (c1 (c1 (c2 (c2 (c1 (c1 (c2 (c1 (c2 (c2 ZaC.B)))))))))))), .inBlock 1, .code (c2 (c2 (c2 (c1 (c1 (c2 (c1 (c2 (c2 ZaC.B))))))))), .inLoop (c1 (c1 (c2 (c1 (c2 (c2 ZaC.B)))))), .inBlock 0, .code (c2 (c2 (c2 ZaC.B)))] [(0, .pointer a0), (2, .pointer (some (pt b1 0))), (3, .pointer (some (pt b2 0))), (9, Sl.v x4), (10, .int .i64 (x4.len : Int)), (11, .int .i64 s5), (4, .int .i64 j34), (5, .int .i64 x26)] [(b2, ((cI .u8).arr 16).enc s6), (b1, ((cI .u8).arr 16).enc (Vec.rep 16 0))] (ZaC.K1 s5 s6 x26 j34) (ZaC.F1 a0 b1 b2 x4).f := by
 unfold ZaC.K1
 exact SJ.rg 14 <| J.y 10 fun hb35 hb36 => J.s (u := (IntKind.wrap .u8 (Int.fdiv x26 (2 ^ 8)))) 0 0 rfl Ty5 (Upd.zero (Upd.arr hb35 hb36)) <| J.y 0 fun hb37 hb38 => J.s (u := (IntKind.wrap .u8 x26)) 0 0 rfl Ty5 (Upd.zero (Upd.arr hb37 hb38)) <| J.z 0 <| SJ.inBlock <| SJ.rg 2 <| J.z 2 <| J.o rfl
noncomputable def ZaC.L1 (a0 : (Option Addr)) (x4 : Sl) (s5 : Int) (s6 : (Vec Int 16)) : M (LS (Int × (Vec Int 16)) (Vec Int 16)) :=
 if s5 < (x4.len : Int) then
  idx x4.a x4.len s5 1 >>= fun p25 =>
  ld (cI .i64) p25 >>= fun x26 =>
  nilck a0 >>= fun p27 =>
  ld (cI .i64) (Addr.add p27 3) >>= fun x28 =>
  (if x28 ≥ 0 then
    nilck a0 >>= fun p29 =>
    ld (cI .i64) (Addr.add p29 3) >>= fun x30 =>
    pure (decide (s5 ≥ x30))
   else
    pure false) >>= fun y31 =>
  if y31 = true then
   nilck a0 >>= fun p39 =>
   ld cL (Addr.add p39 2) >>= fun x40 =>
   ZaC.K1 s5 s6 x26 (IntKind.wrap .i64 (s5 + (IntKind.wrap .i64 (8 - (x40.len : Int)))))
  else
   ZaC.K1 s5 s6 x26 s5
 else
  pure (LS.done s6)
theorem ZaC.L1_ok (a0 : (Option Addr)) (b1 : Nat) (b2 : Nat) (x4 : Sl) : LJ ZaC.cx (ZaC.F1 a0 b1 b2 x4) (fun s_ => ZaC.L1 a0 x4 s_.1 s_.2) := by
 rintro ⟨s5, s6⟩
 show SJ _ _ _ _ (ZaC.L1 a0 x4 s5 s6) _
 unfold ZaC.L1
 refine SJ.sr 1 <| J.z 1 <| SJ.seq <| J.f ?_ ?_
 ·refine SJ.skip <| SJ.seq <| SJ.block (id := 1) <| SJ.sr 5 <| J.i 1 fun p25 => J.l 0 Ty3 fun x26 => J.z 2 <| SJ.seq <| SJ.sr 13 <| J.n 1 fun p27 => J.l 1 Ty3 fun x28 => J.j 2 6 .bool ?_ ?_ fun y31 => ?_
  ·exact J.n 2 fun p29 => J.l 1 Ty3 fun x30 => J.e 2
  ·exact J.e 7
  refine J.z 0 <| J.f ?_ ?_
  ·exact SJ.rg 9 <| J.n 2 fun p39 => J.l 1 ZiL fun x40 => J.z 4 <| J.q <| ZaC.K1_ok a0 b1 b2 x4 s5 s6 x26 (IntKind.wrap .i64 (s5 + (IntKind.wrap .i64 (8 - (x40.len : Int)))))
  exact SJ.skip <| J.q <| ZaC.K1_ok a0 b1 b2 x4 s5 s6 x26 s5
 exact SJ.exit (id := 0) (by rfl) <| SJ.sr 2 <| J.k 0 0 rfl Ty26 (At.whole _) <| J.s 0 1 rfl Ty26 (Upd.w s6) <| J.z 0 <| J.rc (.c 1 rfl Ty26 .n)
noncomputable def ZaC (a0 : (Option Addr)) : M (Vec Int 16) :=
 slot 26 >>= fun b1 =>
 slot 26 >>= fun b2 =>
 nilck a0 >>= fun p3 =>
 ld cL (Addr.add p3 2) >>= fun x4 =>
 Zc7 (fun s_ : (Int × (Vec Int 16)) => ZaC.L1 a0 x4 s_.1 s_.2) (0, (Vec.rep 16 0))
theorem ZiI (a0 : (Option Addr)) : Ref Tryz.prog 106 [.pointer a0] (ZaC a0) ZaC.out := by
 refine J.Fn Tryz.func106 ?_
 unfold ZaC
 exact SJ.sr 1 <| J.a 0 Ty26 fun b1 => J.z 0 <| SJ.sr 1 <| J.a 0 Ty26 fun b2 => J.z 0 <| SJ.seq <| SJ.sr 6 <| J.n 1 fun p3 => J.l 1 ZiL fun x4 => J.z 2 <| SJ.block (id := 0) <| J.L (ZaC.L1_ok a0 b1 b2 x4)

/-! ### weir/addr.parse: function 93 -/
noncomputable def Zee.out (r_ : (Zbn × (Option Addr))) : Value := .tuple #[ZaV.val r_.1, .pointer r_.2]
noncomputable def Zee (a0 : ByteArray) : M (Zbn × (Option Addr)) :=
 slot 28 >>= fun b1 =>
 if (a0.size : Int) > 45 then
  newv 191 Zbf (⟨2, 45⟩ : ZbA) >>= fun b3 =>
  pure (Zb9, (some (pt b3 0)))
 else
  ZcD a0 ZsY >>= fun r4 =>
  if ¬ (r4 = true) then
   ZaT a0 0 >>= fun r8 =>
   slot 201 >>= fun b9 =>
   if ¬ (r8.2 = none) then
    pure (Zb9, r8.2)
   else
    pure ((⟨4, (⟨[(Vec.g r8.1 0 0), (Vec.g r8.1 1 0), (Vec.g r8.1 2 0), (Vec.g r8.1 3 0), 0, 0, 0, 0, 0, 0, 0, 0, 0, 0, 0, 0], rfl⟩ : (Vec Int 16))⟩ : Zbn), none)
  else
   newv 206 Zct (⟨a0, Zg1.at_, Zg1.groups, (-1)⟩ : Zdi) >>= fun b11 =>
   Zbb (some (pt b11 0)) >>= fun r12 =>
   if ¬ (r12 = none) then
    pure (Zb9, r12)
   else
    ZaC (some (pt b11 0)) >>= fun r13 =>
    pure ((⟨6, r13⟩ : Zbn), none)
theorem Zij (a0 : ByteArray) : Ref Tryz.prog 93 [.string a0] (Zee a0) Zee.out := by
 refine J.Fn Tryz.func93 ?_
 unfold Zee
 refine SJ.sr 2 <| J.a 0 Ty28 fun b1 => J.z 1 <| SJ.seq <| SJ.sr 3 <| J.z 3 <| J.f ?_ ?_
 ·exact SJ.sr 5 <| J.u 0 Ty28 .nil <| J.u 0 Zip (.f 0 (Zbg _ 2) (.f 1 (Zbh _ 45) .nil)) <| J.B 0 fun b3 => J.s 0 0 rfl Ty28 (Upd.w Zb9) <| J.z 1 <| J.rc (.c 0 rfl Ty28 .n)
 refine SJ.skip <| SJ.seq <| SJ.sr 3 <| J.C 1 F103 (ZhA _ _) fun r4 => J.z 1 <| J.f ?_ ?_
 ·refine SJ.sr 8 <| J.C 1 F104 (Zjc _ _) fun r8 => J.a 3 Zgf fun b9 => J.s 0 0 rfl Zgf (Upd.w r8.1) <| J.z 1 <| SJ.seq <| SJ.sr 2 <| J.z 2 <| J.f ?_ ?_
  ·exact SJ.sr 4 <| J.u 0 Ty28 .nil <| J.s 1 1 rfl Ty28 (Upd.w Zb9) <| J.z 1 <| J.rc (.c 1 rfl Ty28 .n)
  exact SJ.skip <| SJ.sr 12 <| J.k 1 0 rfl Ty5 (At.zero (At.arr (z := 0) (i := 0) (n := 4) (by decide) (by decide))) <| J.k 1 0 rfl Ty5 (At.zero (At.arr (z := 0) (i := 1) (n := 4) (by decide) (by decide))) <| J.k 1 0 rfl Ty5 (At.zero (At.arr (z := 0) (i := 2) (n := 4) (by decide) (by decide))) <| J.k 1 0 rfl Ty5 (At.zero (At.arr (z := 0) (i := 3) (n := 4) (by decide) (by decide))) <| OJ.build (d := 34) (T := 26) (parts := [(0, .tmp 27), (1, .tmp 29), (2, .tmp 31), (3, .tmp 33)]) (ps := [(0, (cI .u8).val (Vec.g r8.1 0 0)), (1, (cI .u8).val (Vec.g r8.1 1 0)), (2, (cI .u8).val (Vec.g r8.1 2 0)), (3, (cI .u8).val (Vec.g r8.1 3 0))]) (cd := ((cI .u8).arr 16)) (z0 := (Vec.rep 16 0)) (⟨[(Vec.g r8.1 0 0), (Vec.g r8.1 1 0), (Vec.g r8.1 2 0), (Vec.g r8.1 3 0), 0, 0, 0, 0, 0, 0, 0, 0, 0, 0, 0, 0], rfl⟩ : (Vec Int 16)) Ty26 rfl (ZbV.cons (cd := (cI .u8)) (q := (Vec.g r8.1 0 0)) (o := 0) (by kernel_rfl) (Upd.arr (i := 0) (by decide) (by decide)) (ZbV.cons (cd := (cI .u8)) (q := (Vec.g r8.1 1 0)) (o := 1) (by kernel_rfl) (Upd.arr (i := 1) (by decide) (by decide)) (ZbV.cons (cd := (cI .u8)) (q := (Vec.g r8.1 2 0)) (o := 2) (by kernel_rfl) (Upd.arr (i := 2) (by decide) (by decide)) (ZbV.cons (cd := (cI .u8)) (q := (Vec.g r8.1 3 0)) (o := 3) (by kernel_rfl) (Upd.arr (i := 3) (by decide) (by decide)) ZbV.nil)))) <| J.u 0 Ty28 (.f 0 (ZhV _ 4) (.f 1 (ZhW _ (⟨[(Vec.g r8.1 0 0), (Vec.g r8.1 1 0), (Vec.g r8.1 2 0), (Vec.g r8.1 3 0), 0, 0, 0, 0, 0, 0, 0, 0, 0, 0, 0, 0], rfl⟩ : (Vec Int 16))) .nil)) <| J.s 0 1 rfl Ty28 (Upd.w (⟨4, (⟨[(Vec.g r8.1 0 0), (Vec.g r8.1 1 0), (Vec.g r8.1 2 0), (Vec.g r8.1 3 0), 0, 0, 0, 0, 0, 0, 0, 0, 0, 0, 0, 0], rfl⟩ : (Vec Int 16))⟩ : Zbn)) <| J.z 1 <| J.rc (.c 1 rfl Ty28 .n)
 refine SJ.skip <| SJ.sr 4 <| J.u 1 Zs6 (.f 0 (ZlG _ a0) (.f 3 (Zg0 _ (-1)) .nil)) <| J.B 0 fun b11 => J.z 1 <| SJ.seq <| SJ.sr 3 <| J.C 1 F105 (Zjj _) fun r12 => J.z 1 <| SJ.sr 2 <| J.z 2 <| J.f ?_ ?_
 ·exact SJ.sr 4 <| J.u 0 Ty28 .nil <| J.s 1 0 rfl Ty28 (Upd.w Zb9) <| J.z 1 <| J.rc (.c 0 rfl Ty28 .n)
 exact SJ.skip <| SJ.sr 5 <| J.C 1 F106 (ZiI _) fun r13 => J.u 0 Ty28 (.f 0 (ZhV _ 6) (.f 1 (ZhW _ r13) .nil)) <| J.s 0 0 rfl Ty28 (Upd.w (⟨6, r13⟩ : Zbn)) <| J.z 1 <| J.rc (.c 0 rfl Ty28 .n)

/-! ### weir/addr.size: function 77 -/
noncomputable def Zet.out (r_ : Int) : Value := .int .i64 r_
noncomputable def Zet (a0 : Zbn) : M Int :=
 newv 28 ZaV a0 >>= fun b1 =>
 ld (cI .i64) (pt b1 0) >>= fun x2 =>
 if x2 = 6 then
  pure 128
 else
  ld (cI .i64) (pt b1 0) >>= fun x3 =>
  (if x3 ≠ 4 then
    pure true
   else
    cut 1 ⟨some (Addr.add (pt b1 0) 1), 16, 16⟩ (some 4) none none >>= fun r4 =>
    (chk (12 ≤ r4.len) >>= fun _ => nilck r4.a) >>= fun p5 =>
    ld ((cI .u8).arr 12) p5 >>= fun x6 =>
    pure (!eqv x6 (⟨[0, 0, 0, 0, 0, 0, 0, 0, 0, 0, 0, 0], rfl⟩ : (Vec Int 12)))) >>= fun y7 =>
  if y7 = true then
   pure 0
  else
   pure 32
theorem ZgW (a0 : Zbn) : Ref Tryz.prog 77 [ZaV.val a0] (Zet a0) Zet.out := by
 refine J.Fn Tryz.func77 ?_
 unfold Zet
 refine SJ.sr 2 <| J.B 0 fun b1 => J.z 1 <| SJ.seq <| SJ.sr 3 <| J.l 1 Ty3 fun x2 => J.z 1 <| J.f ?_ ?_
 ·exact SJ.sr 1 <| J.z 1 <| J.r
 refine SJ.skip <| SJ.seq <| SJ.sr 11 <| J.l 1 Ty3 fun x3 => J.j 2 6 .bool ?_ ?_ fun y7 => ?_
 ·exact J.e 7
 ·exact J.ca 1 fun r4 => OJ.toArr (d := 12) (t := 177) (E := 5) (y := .tmp 11) (s := r4) fun p5 => J.l 0 ZsN fun x6 => J.u 0 ZsN .nil <| OJ.neq (d := 15) (T := 177) (yT := 177) (y := .tmp 13) (z := .tmp 14) (cd := ((cI .u8).arr 12)) (p := x6) (q := (⟨[0, 0, 0, 0, 0, 0, 0, 0, 0, 0, 0, 0], rfl⟩ : (Vec Int 12))) rfl Zte <| J.e 1
 refine J.z 0 <| J.f ?_ ?_
 ·exact SJ.sr 1 <| J.z 1 <| J.r
 exact SJ.skip <| SJ.sr 1 <| J.z 1 <| J.r

/-! ### weir/addr.masked: function 78 -/
noncomputable def Zbm.B : Code := bod Tryz.f78
noncomputable def Zbm.cx : Fx := ⟨Tryz.prog, 78, Tryz.f78, none⟩
noncomputable def Zbm.out (r_ : (Vec Int 16)) : Value := ((cI .u8).arr 16).val r_
noncomputable def Zbm.F1 (a0 : (Vec Int 16)) (a1 : Int) (b1 : Nat) (b2 : Nat) (b3 : Nat) : LF (Int × (Vec Int 16)) (Vec Int 16) := ⟨[.inBlock 0, .code (c2 (c2 (c2 Zbm.B)))], c1 (c2 (c1 (c2 (c2 Zbm.B)))), fun s_ => [(1, .int .i64 a1), (2, .pointer (some (pt b1 0))), (4, .pointer (some (pt b2 0))), (5, .pointer (some (pt b3 0))), (8, .int .i64 s_.1)], fun s_ => [(b3, ((cI .u8).arr 16).enc s_.2), (b2, ((cI .u8).arr 16).enc (Vec.rep 16 0)), (b1, ((cI .u8).arr 16).enc a0)], (rt Zbm.out)⟩
noncomputable def Zbm.L1 (a0 : (Vec Int 16)) (a1 : Int) (s4 : Int) (s5 : (Vec Int 16)) : M (LS (Int × (Vec Int 16)) (Vec Int 16)) :=
 if s4 < 16 then
  chk ((0 : Int) ≤ s4 ∧ s4 < (16 : Nat)) >>= fun _ =>
  chk (0 ≤ (IntKind.wrap .u64 (if (if 0 < (IntKind.wrap .i64 (a1 - (IntKind.wrap .i64 (8 * s4)))) then (IntKind.wrap .i64 (a1 - (IntKind.wrap .i64 (8 * s4)))) else 0) < 8 then (if 0 < (IntKind.wrap .i64 (a1 - (IntKind.wrap .i64 (8 * s4)))) then (IntKind.wrap .i64 (a1 - (IntKind.wrap .i64 (8 * s4)))) else 0) else 8))) >>= fun _ =>
  chk ((0 : Int) ≤ s4 ∧ s4 < (16 : Nat)) >>= fun _ =>
  pure (LS.next (IntKind.wrap .i64 (s4 + 1), (Vec.s s5 s4 (band .u8 (Vec.g a0 s4 0) (IntKind.wrap .u8 (Int.fdiv 65280 (2 ^ min (Int.toNat (IntKind.wrap .u64 (if (if 0 < (IntKind.wrap .i64 (a1 - (IntKind.wrap .i64 (8 * s4)))) then (IntKind.wrap .i64 (a1 - (IntKind.wrap .i64 (8 * s4)))) else 0) < 8 then (if 0 < (IntKind.wrap .i64 (a1 - (IntKind.wrap .i64 (8 * s4)))) then (IntKind.wrap .i64 (a1 - (IntKind.wrap .i64 (8 * s4)))) else 0) else 8))) 64)))))))
 else
  pure (LS.done s5)
theorem Zbm.L1_ok (a0 : (Vec Int 16)) (a1 : Int) (b1 : Nat) (b2 : Nat) (b3 : Nat) : LJ Zbm.cx (Zbm.F1 a0 a1 b1 b2 b3) (fun s_ => Zbm.L1 a0 a1 s_.1 s_.2) := by
 rintro ⟨s4, s5⟩
 show SJ _ _ _ _ (Zbm.L1 a0 a1 s4 s5) _
 unfold Zbm.L1
 refine SJ.sr 1 <| J.z 1 <| SJ.seq <| J.f ?_ ?_
 ·exact SJ.skip <| SJ.seq <| SJ.block (id := 1) <| SJ.sr 2 <| J.z 2 <| SJ.sr 7 <| J.g 4 <| OJ.max (d := 15) (t := 3) (u := 3) (so := .const (.int .i64 0)) (xo := .tmp 14) (k := .i64) (p := 0) (q := (IntKind.wrap .i64 (a1 - (IntKind.wrap .i64 (8 * s4))))) <| OJ.min (d := 16) (t := 3) (u := 3) (so := .const (.int .i64 8)) (xo := .tmp 15) (k := .i64) (p := 8) (q := (if 0 < (IntKind.wrap .i64 (a1 - (IntKind.wrap .i64 (8 * s4)))) then (IntKind.wrap .i64 (a1 - (IntKind.wrap .i64 (8 * s4)))) else 0)) <| J.z 1 <| SJ.rg 11 <| J.y 2 fun hb12 hb13 => J.k 0 2 rfl Ty5 (At.zero (At.arr (z := 0) hb12 hb13)) <| J.g 2 <| OJ.shr (d := 23) (T := 3) (yT := 132) (y := .const (.int .i64 65280)) (z := .tmp 22) (k := .i64) (yk := .u64) (p := 65280) (q := (IntKind.wrap .u64 (if (if 0 < (IntKind.wrap .i64 (a1 - (IntKind.wrap .i64 (8 * s4)))) then (IntKind.wrap .i64 (a1 - (IntKind.wrap .i64 (8 * s4)))) else 0) < 8 then (if 0 < (IntKind.wrap .i64 (a1 - (IntKind.wrap .i64 (8 * s4)))) then (IntKind.wrap .i64 (a1 - (IntKind.wrap .i64 (8 * s4)))) else 0) else 8))) fun hq16 => J.y 2 fun hb14 hb15 => J.s (u := (band .u8 (Vec.g a0 s4 0) (IntKind.wrap .u8 (Int.fdiv 65280 (2 ^ min (Int.toNat (IntKind.wrap .u64 (if (if 0 < (IntKind.wrap .i64 (a1 - (IntKind.wrap .i64 (8 * s4)))) then (IntKind.wrap .i64 (a1 - (IntKind.wrap .i64 (8 * s4)))) else 0) < 8 then (if 0 < (IntKind.wrap .i64 (a1 - (IntKind.wrap .i64 (8 * s4)))) then (IntKind.wrap .i64 (a1 - (IntKind.wrap .i64 (8 * s4)))) else 0) else 8))) 64))))) 0 0 rfl Ty5 (Upd.zero (Upd.arr hb14 hb15)) <| J.z 0 <| SJ.inBlock <| SJ.rg 2 <| J.z 2 <| J.o rfl
 exact SJ.exit (id := 0) (by rfl) <| SJ.sr 2 <| J.k 0 0 rfl Ty26 (At.whole _) <| J.s 0 1 rfl Ty26 (Upd.w s5) <| J.z 0 <| J.rc (.c 1 rfl Ty26 .n)
noncomputable def Zbm (a0 : (Vec Int 16)) (a1 : Int) : M (Vec Int 16) :=
 slot 26 >>= fun b1 =>
 slot 26 >>= fun b2 =>
 slot 26 >>= fun b3 =>
 Zc7 (fun s_ : (Int × (Vec Int 16)) => Zbm.L1 a0 a1 s_.1 s_.2) (0, (Vec.rep 16 0))
theorem Zht (a0 : (Vec Int 16)) (a1 : Int) : Ref Tryz.prog 78 [((cI .u8).arr 16).val a0, .int .i64 a1] (Zbm a0 a1) Zbm.out := by
 refine J.Fn Tryz.func78 ?_
 unfold Zbm
 exact SJ.sr 2 <| J.b 0 ((cI .u8).arr 16) a0 fun b1 => J.a 0 Ty26 fun b2 => J.z 0 <| SJ.sr 1 <| J.a 0 Ty26 fun b3 => J.z 0 <| SJ.seq <| SJ.sr 1 <| J.z 1 <| SJ.block (id := 0) <| J.L (Zbm.L1_ok a0 a1 b1 b2 b3)

/-! ### weir/addr.ValidPrefix: function 50 -/
noncomputable def ZbT.out (r_ : Int) : Value := .int .i64 r_
noncomputable def ZbT (a0 : Zac) : M Int :=
 slot 91 >>= fun b1 =>
 Zet a0.IP >>= fun r2 =>
 if r2 = 0 then
  pure 40
 else
  (if a0.Len < 0 then
    pure true
   else
    pure (decide (a0.Len > r2))) >>= fun y9 =>
  if y9 = true then
   pure 45
  else
   draw >>= fun _ =>
   Zbm a0.IP.A a0.Len >>= fun r12 =>
   if ¬ (r12 = a0.IP.A) then
    pure 46
   else
    pure 0
theorem ZdC (a0 : Zac) : Ref Tryz.prog 50 [Zay.val a0] (ZbT a0) ZbT.out := by
 refine J.Fn Tryz.func50 ?_
 unfold ZbT
 refine SJ.sr 2 <| J.b 0 Zay a0 fun b1 => J.z 1 <| SJ.seq <| SJ.sr 4 <| J.k 1 0 rfl Ty28 (ZbC _) <| J.C 0 F77 (ZgW _) fun r2 => J.z 1 <| SJ.block (id := 0) <| SJ.sr 3 <| J.z 3 <| J.f ?_ ?_
 ·exact SJ.sr 1 <| J.z 1 <| J.r
 refine SJ.sr 10 <| J.k 1 0 rfl Ty3 (Zb0 _) <| J.j 2 4 .bool ?_ ?_ fun y9 => ?_
 ·exact J.e 5
 ·exact J.k 1 0 rfl Ty3 (Zb0 _) <| J.e 3
 refine J.z 1 <| J.f ?_ ?_
 ·exact SJ.sr 1 <| J.z 1 <| J.r
 refine SJ.seq <| J.D [0, 1, 2, 3, 4, 6, 7, 8, 5, 9, 10] ZcZ <| J.k 2 0 rfl Ty26 (At.trans (ZbC _) (Zdf _)) <| J.k 1 0 rfl Ty3 (Zb0 _) <| J.k 2 0 rfl Ty26 (At.trans (ZbC _) (Zdf _)) <| OJ.call (d := 26) (g := 78) (ats := #[26, 3]) (args := [.tmp 23, .tmp 25]) (owed := [⟨8, 26, (pt b1 1), ((cI .u8).arr 16).val a0.IP.A⟩]) F78 (Zht a0.IP.A a0.Len) fun r12 => OW.known (j := 0) (q := a0.IP.A) Ty26 rfl (At.trans (ZbC a0) (Zdf a0.IP)) <| OW.nil <| OJ.neq (d := 30) (T := 26) (yT := 26) (y := .tmp 26) (z := .tmp 29) (cd := ((cI .u8).arr 16)) (p := r12) (q := a0.IP.A) rfl Eq26 <| J.z 1 <| J.f ?_ ?_
 ·exact SJ.sr 1 <| J.z 1 <| J.r
 exact SJ.skip <| SJ.inBlock <| SJ.sr 1 <| J.z 1 <| J.r

/-! ### weir/addr.ParsePrefix: function 83 -/
noncomputable def Zam.B : Code := bod Tryz.f83
noncomputable def Zam.cx : Fx := ⟨Tryz.prog, 83, Tryz.f83, none⟩
noncomputable def Zam.out (r_ : (Zac × Int × Int)) : Value := .tuple #[Zay.val r_.1, .int .i64 r_.2.1, .int .i64 r_.2.2]
noncomputable def Zam.K1 (r3 : (Zbn × (Option Addr))) (j8 : Int) (j17 : (Option Addr)) : M (Zac × Int × Int) :=
 if ¬ (j17 = none) then
  draw >>= fun _ =>
  nilck j17 >>= fun p22 =>
  ld (cI .i64) p22 >>= fun x23 =>
  nilck j17 >>= fun p24 =>
  ld (cI .i64) (Addr.add p24 1) >>= fun x25 =>
  same (cI .i64) (Addr.add p24 1) x25 >>= fun _ =>
  same (cI .i64) p22 x23 >>= fun _ =>
  pure (Zbt, x23, x25)
 else
  pure ((⟨r3.1, j8⟩ : Zac), 0, 0)
theorem Zam.K1_ok (b1 : Nat) (r3 : (Zbn × (Option Addr))) (j8 : Int) (b13 : Nat) (j17 : (Option Addr)) :
  SJ Zam.cx [.code (c2 (c2 (c2 (c2 (c2 (c2 (c2 (c2 (c2 (c2 Zam.B))))))))))] [(2, .pointer (some (pt b1 0))), (9, .pointer j17), (12, .pointer (some (pt b13 0)))] [(b13, Zay.enc (⟨r3.1, j8⟩ : Zac)), (b1, Zay.enc Zbt)] (Zam.K1 r3 j8 j17) (rt Zam.out) := by
 unfold Zam.K1
 refine SJ.seq <| SJ.sr 2 <| J.z 2 <| J.f ?_ ?_
 ·exact SJ.seq <| J.R 12 ZcZ <| J.u 0 Ty91 .nil <| J.n 1 fun p22 => J.l 1 Ty49 fun x23 => J.n 1 fun p24 => J.l 1 Ty3 fun x25 => OJ.kst (y := .tmp 2) (z := .tmp 71) (cd := Zay) (u := Zbt) (j := 1) (b := b1) (o := 0) (Zay.enc Zbt) (owed := [⟨8, 3, (Addr.add p24 1), (cI .i64).val x25⟩, ⟨4, 49, p22, (cI .i64).val x23⟩]) Ty91 rfl (Upd.whole ((Cod.len _ _).trans (Cod.len _ _).symm)) rfl <| OW.same Ty3 <| OW.same Ty49 <| OW.nil <| J.z 2 <| J.rc (.c 1 rfl Ty91 .n)
 exact SJ.skip <| SJ.sr 4 <| J.k 0 0 rfl Ty91 (At.whole _) <| J.s 0 1 rfl Ty91 (Upd.w (⟨r3.1, j8⟩ : Zac)) <| J.z 2 <| J.rc (.c 1 rfl Ty91 .n)
noncomputable def Zam.K2 (r3 : (Zbn × (Option Addr))) (j8 : Int) (j12 : (Option Addr)) : M (Zac × Int × Int) :=
 slot 91 >>= fun b13 =>
 (if j12 = none then
   ZbT (⟨r3.1, j8⟩ : Zac) >>= fun r14 =>
   pure (r14 != 0)
  else
   pure false) >>= fun y15 =>
 if y15 = true then
  newv 191 Zbf (⟨46, 0⟩ : ZbA) >>= fun b27 =>
  Zam.K1 r3 j8 (some (pt b27 0))
 else
  Zam.K1 r3 j8 j12
theorem Zam.K2_ok (b1 : Nat) (r3 : (Zbn × (Option Addr))) (b4 : Nat) (j8 : Int) (j12 : (Option Addr)) :
  SJ Zam.cx [.code (c2 (c2 (c2 (c2 (c2 (c2 (c2 (c2 Zam.B))))))))] [(2, .pointer (some (pt b1 0))), (8, .pointer (some (pt b4 0))), (9, .pointer j12), (10, .int .i64 j8)] [(b4, ZaV.enc r3.1), (b1, Zay.enc Zbt)] (Zam.K2 r3 j8 j12) (rt Zam.out) := by
 unfold Zam.K2
 refine SJ.sr 5 <| J.k 0 0 rfl Ty28 (At.whole _) <| J.u 1 Ty91 (.f 0 (ZeV _ r3.1) (.f 1 (Zd0 _ j8) .nil)) <| J.a 0 Ty91 fun b13 => J.s 0 0 rfl Ty91 (Upd.w (⟨r3.1, j8⟩ : Zac)) <| J.z 0 <| SJ.seq <| SJ.sr 7 <| J.j 3 3 .bool ?_ ?_ fun y15 => ?_
 ·exact J.k 0 0 rfl Ty91 (At.whole _) <| J.C 0 F50 (ZdC _) fun r14 => J.e 2
 ·exact J.e 4
 refine J.z 0 <| J.f ?_ ?_
 ·exact SJ.rg 3 <| J.u 0 Zip (.f 0 (Zbg _ 46) (.f 1 (Zbh _ 0) .nil)) <| J.B 0 fun b27 => J.z 1 <| SJ.forget (List.Sublist.cons_cons _ (List.Sublist.cons _ (List.Sublist.cons_cons _ List.Sublist.slnil))) <| J.q <| Zam.K1_ok b1 r3 j8 b13 (some (pt b27 0))
 exact SJ.skip <| SJ.forget (List.Sublist.cons_cons _ (List.Sublist.cons _ (List.Sublist.cons_cons _ List.Sublist.slnil))) <| J.q <| Zam.K1_ok b1 r3 j8 b13 j12
noncomputable def Zam.K3 (a0 : ByteArray) (r3 : (Zbn × (Option Addr))) (j7 : (Option Addr)) (j8 : Int) (j9 : Int) : M (Zac × Int × Int) :=
 (if j7 = none then
   pure (decide (j9 < (a0.size : Int)))
  else
   pure false) >>= fun y10 =>
 if y10 = true then
  newv 191 Zbf (⟨41, j9⟩ : ZbA) >>= fun b29 =>
  Zam.K2 r3 j8 (some (pt b29 0))
 else
  Zam.K2 r3 j8 j7
theorem Zam.K3_ok (a0 : ByteArray) (b1 : Nat) (r3 : (Zbn × (Option Addr))) (b4 : Nat) (j7 : (Option Addr)) (j8 : Int) (j9 : Int) :
  SJ Zam.cx [.code (c2 (c2 (c2 (c2 (c2 (c2 (c2 Zam.B)))))))] [(0, .string a0), (2, .pointer (some (pt b1 0))), (8, .pointer (some (pt b4 0))), (9, .pointer j7), (10, .int .i64 j8), (11, .int .i64 j9)] [(b4, ZaV.enc r3.1), (b1, Zay.enc Zbt)] (Zam.K3 a0 r3 j7 j8 j9) (rt Zam.out) := by
 unfold Zam.K3
 refine SJ.seq <| SJ.sr 8 <| J.j 3 4 .bool ?_ ?_ fun y10 => ?_
 ·exact J.e 5
 ·exact J.e 5
 refine J.z 0 <| J.f ?_ ?_
 ·exact SJ.rg 4 <| J.u 1 Zip (.f 0 (Zbg _ 41) (.f 1 (Zbh _ j9) .nil)) <| J.B 0 fun b29 => J.z 1 <| J.q <| Zam.K2_ok b1 r3 b4 j8 (some (pt b29 0))
 exact SJ.skip <| J.q <| Zam.K2_ok b1 r3 b4 j8 j7
noncomputable def Zam (a0 : ByteArray) : M (Zac × Int × Int) :=
 slot 91 >>= fun b1 =>
 if (a0.size : Int) > 49 then
  pure (Zbt, 2, 49)
 else
  ZcS a0 Zob >>= fun r2 =>
  if ¬ (r2.2.2 = true) then
   pure (Zbt, 42, (a0.size : Int))
  else
   Zee r2.1 >>= fun r3 =>
   slot 28 >>= fun b4 =>
   if r3.2 = none then
    Zet r3.1 >>= fun r31 =>
    ZaK a0 (IntKind.wrap .i64 ((r2.1.size : Int) + 1)) r31 45 >>= fun r32 =>
    Zam.K3 a0 r3 r32.2.2 r32.1 r32.2.1
   else
    Zam.K3 a0 r3 r3.2 0 0
theorem ZhS (a0 : ByteArray) : Ref Tryz.prog 83 [.string a0] (Zam a0) Zam.out := by
 refine J.Fn Tryz.func83 ?_
 unfold Zam
 refine SJ.sr 3 <| J.a 0 Ty91 fun b1 => J.z 2 <| SJ.seq <| SJ.sr 3 <| J.z 3 <| J.f ?_ ?_
 ·exact SJ.sr 4 <| J.u 0 Ty91 .nil <| J.s 0 0 rfl Ty91 (Upd.w Zbt) <| J.z 2 <| J.rc (.c 0 rfl Ty91 .n)
 refine SJ.skip <| SJ.sr 9 <| J.C 1 F85 (Zhp _ _) fun r2 => J.z 7 <| SJ.seq <| SJ.sr 2 <| J.z 2 <| J.f ?_ ?_
 ·exact SJ.sr 6 <| J.u 0 Ty91 .nil <| J.s 2 0 rfl Ty91 (Upd.w Zbt) <| J.z 2 <| J.rc (.c 0 rfl Ty91 .n)
 refine SJ.skip <| SJ.sr 8 <| J.C 1 F93 (Zij _) fun r3 => J.a 3 Ty28 fun b4 => J.s 0 0 rfl Ty28 (Upd.w r3.1) <| J.z 1 <| SJ.sr 2 <| J.z 2 <| SJ.seq <| SJ.sr 2 <| J.z 2 <| J.f ?_ ?_
 ·exact SJ.rg 14 <| J.k 4 0 rfl Ty28 (At.whole _) <| J.C 0 F77 (ZgW _) fun r31 => J.C 0 F94 (Zhs _ _ _ _) fun r32 => J.z 7 <| J.q <| Zam.K3_ok a0 b1 r3 b4 r32.2.2 r32.1 r32.2.1
 exact SJ.skip <| J.q <| Zam.K3_ok a0 b1 r3 b4 r3.2 0 0

/-! ### weir/addr.ParseIP: function 84 -/
noncomputable def Zdu.out (r_ : (Zbn × Int × Int)) : Value := .tuple #[ZaV.val r_.1, .int .i64 r_.2.1, .int .i64 r_.2.2]
noncomputable def Zdu (a0 : ByteArray) : M (Zbn × Int × Int) :=
 slot 28 >>= fun b1 =>
 Zee a0 >>= fun r2 =>
 slot 28 >>= fun b3 =>
 if ¬ (r2.2 = none) then
  draw >>= fun _ =>
  nilck r2.2 >>= fun p8 =>
  ld (cI .i64) p8 >>= fun x9 =>
  nilck r2.2 >>= fun p10 =>
  ld (cI .i64) (Addr.add p10 1) >>= fun x11 =>
  same (cI .i64) (Addr.add p10 1) x11 >>= fun _ =>
  same (cI .i64) p8 x9 >>= fun _ =>
  pure (Zb9, x9, x11)
 else
  pure (r2.1, 0, 0)
theorem Zki (a0 : ByteArray) : Ref Tryz.prog 84 [.string a0] (Zdu a0) Zdu.out := by
 refine J.Fn Tryz.func84 ?_
 unfold Zdu
 refine SJ.sr 3 <| J.a 0 Ty28 fun b1 => J.z 2 <| SJ.sr 8 <| J.C 1 F93 (Zij _) fun r2 => J.a 3 Ty28 fun b3 => J.s 0 0 rfl Ty28 (Upd.w r2.1) <| J.z 1 <| SJ.seq <| SJ.sr 2 <| J.z 2 <| J.f ?_ ?_
 ·exact SJ.seq <| J.R 12 ZcZ <| J.u 0 Ty28 .nil <| J.n 1 fun p8 => J.l 1 Ty49 fun x9 => J.n 1 fun p10 => J.l 1 Ty3 fun x11 => OJ.kst (y := .tmp 2) (z := .tmp 14) (cd := ZaV) (u := Zb9) (j := 1) (b := b1) (o := 0) (ZaV.enc Zb9) (owed := [⟨8, 3, (Addr.add p10 1), (cI .i64).val x11⟩, ⟨4, 49, p8, (cI .i64).val x9⟩]) Ty28 rfl (Upd.whole ((Cod.len _ _).trans (Cod.len _ _).symm)) rfl <| OW.same Ty3 <| OW.same Ty49 <| OW.nil <| J.z 2 <| J.rc (.c 1 rfl Ty28 .n)
 exact SJ.skip <| SJ.sr 4 <| J.k 0 0 rfl Ty28 (At.whole _) <| J.s 0 1 rfl Ty28 (Upd.w r2.1) <| J.z 2 <| J.rc (.c 1 rfl Ty28 .n)

/-! ### weir/rules.version: function 49 -/
noncomputable def ZdX.out (r_ : Int) : Value := .int .i64 r_
noncomputable def ZdX (a0 : Int) : M Int :=
 if a0 = 1 then
  if a0 = 1 then
   pure 4
  else
   if a0 = 3 then
    pure 6
   else
    pure 0
 else
  if a0 = 2 then
   pure 4
  else
   if a0 = 3 then
    pure 6
   else
    pure 0
theorem Zjf (a0 : Int) : Ref Tryz.prog 49 [.int .i64 a0] (ZdX a0) ZdX.out := by
 refine J.Fn Tryz.func49 ?_
 unfold ZdX
 refine SJ.sr 1 <| J.z 1 <| SJ.seq <| SJ.sr 1 <| J.z 1 <| SJ.block (id := 0) <| SJ.seq <| SJ.sr 2 <| J.z 2 <| J.f ?_ ?_
 ·refine SJ.skip <| J.f ?_ ?_
  ·exact SJ.sr 1 <| J.z 1 <| J.r
  refine SJ.sr 2 <| J.z 2 <| J.f ?_ ?_
  ·exact SJ.sr 1 <| J.z 1 <| J.r
  exact SJ.skip <| SJ.inBlock <| SJ.sr 1 <| J.z 1 <| J.r
 refine SJ.rg 2 <| J.z 2 <| J.f ?_ ?_
 ·exact SJ.sr 1 <| J.z 1 <| J.r
 refine SJ.sr 2 <| J.z 2 <| J.f ?_ ?_
 ·exact SJ.sr 1 <| J.z 1 <| J.r
 exact SJ.skip <| SJ.inBlock <| SJ.sr 1 <| J.z 1 <| J.r

/-! ### weir/rules.netFits: function 31 -/
noncomputable def Zc4.out (r_ : Bool) : Value := .bool r_
noncomputable def Zc4 (a0 : Zac) (a1 : Int) : M Bool :=
 slot 91 >>= fun b1 =>
 ZdX a1 >>= fun r2 =>
 ZbT a0 >>= fun r3 =>
 (if r3 = 0 then
   (if r2 = 0 then
     pure true
    else
     pure (a0.IP.V == r2)) >>= fun y4 =>
   pure y4
  else
   pure false) >>= fun y5 =>
 pure y5
theorem Zgl (a0 : Zac) (a1 : Int) : Ref Tryz.prog 31 [Zay.val a0, .int .i64 a1] (Zc4 a0 a1) Zc4.out := by
 refine J.Fn Tryz.func31 ?_
 unfold Zc4
 refine SJ.sr 2 <| J.b 0 Zay a0 fun b1 => J.z 1 <| SJ.sr 3 <| J.C 1 F49 (Zjf _) fun r2 => J.z 1 <| SJ.sr 15 <| J.k 0 0 rfl Ty91 (At.whole _) <| J.C 0 F50 (ZdC _) fun r3 => J.g 2 <| OJ.join (b := (r3 == 0)) [4, 5, 6, 7, 8, 9, 10, 11, 12, 13] [14] [21] (fun y5 => [(21, .bool y5)]) [] [] (t := 11) beq_iff_eq (fun hp_ => ?_) (fun hp_ => ?_) (fun _ _ _ _ _ _ h_ => h_) fun y5 => ?_
 ·refine J.g 3 <| OJ.join (b := (r2 == 0)) [7, 8, 9, 10, 11, 12] [13] [11, 20] (fun y4 => [(11, .bool true), (20, .bool y4)]) [] [] (t := 14) beq_iff_eq (fun hp_ => ?_) (fun hp_ => ?_) (fun _ _ _ _ _ hq_ h_ => ⟨fun e_ he_ => (hq_ e_ he_).elim (fun h => h_.1 e_ h) (fun h => nomatch h), h_.2⟩) fun y4 => ?_
  ·exact J.g 6 <| OJ.nil ⟨(Cov.mem Cov.nil), rfl, _, rfl, by kernel_rfl⟩
  ·exact J.k 2 0 rfl Ty3 (At.trans (ZbC _) (Zde _)) <| J.g 3 <| OJ.nil ⟨(Cov.mem Cov.nil), rfl, _, rfl, by kernel_rfl⟩
  exact J.g 1 <| OJ.nil ⟨(Cov.mem Cov.nil), rfl, _, rfl, by kernel_rfl⟩
 ·exact J.g 10 <| OJ.nil ⟨(Cov.mem Cov.nil), rfl, _, rfl, by kernel_rfl⟩
 exact J.z 1 <| J.r

/-! ### (*weir/rules.reader).net: function 68 -/
noncomputable def Zav.B : Code := bod Tryz.f68
noncomputable def Zav.cx : Fx := ⟨Tryz.prog, 68, Tryz.f68, none⟩
noncomputable def Zav.out (r_ : Zac) : Value := Zay.val r_
noncomputable def Zav.K1 (a0 : (Option Addr)) (a1 : Int) (r2 : ZaA) (j10 : Int) (j11 : Zac) : M Zac :=
 draw >>= fun _ =>
 nilck a0 >>= fun p12 =>
 ld (cI .i64) (Addr.add p12 19) >>= fun x13 =>
 (if x13 = 0 then
   (if j10 ≠ 0 then
     pure true
    else
     pure (a1 == 16)) >>= fun y14 =>
   (if y14 = true then
     pure true
    else
     nilck a0 >>= fun p15 =>
     ld (cI .i64) (Addr.add (Addr.add p15 3) 2) >>= fun x16 =>
     Zc4 j11 x16 >>= fun r17 =>
     pure (!r17)) >>= fun y18 =>
   pure y18
  else
   pure false) >>= fun y19 =>
 if y19 = true then
  ZaN a0 163 r2.at_ >>= fun r21 =>
  pure j11
 else
  pure j11
theorem Zav.K1_ok (a0 : (Option Addr)) (a1 : Int) (b1 : Nat) (r2 : ZaA) (b3 : Nat) (b5 : Nat) (j10 : Int) (j11 : Zac) :
  SJ Zav.cx [.code (c2 (c2 (c2 (c2 Zav.B))))] [(0, .pointer a0), (1, .int .i64 a1), (4, .pointer (some (pt b1 0))), (5, .pointer (some (pt b3 0))), (6, .pointer (some (pt b5 0))), (7, .int .i64 j10)] [(b5, Zay.enc j11), (b3, Za9.enc r2), (b1, Zay.enc Zbt)] (Zav.K1 a0 a1 r2 j10 j11) (rt Zav.out) := by
 unfold Zav.K1
 refine SJ.seq <| SJ.seq <| J.R 23 ZcZ <| J.n 1 fun p12 => J.l 1 Ty49 fun x13 => J.g 2 <| OJ.join (b := (x13 == 0)) [6, 7, 8, 9, 10, 11, 12, 13, 14, 15, 16, 17, 18, 19, 20, 21, 22] [] [0, 4, 5, 6, 59] (fun y19 => [(0, .pointer a0), (4, .pointer (some (pt b1 0))), (5, .pointer (some (pt b3 0))), (6, .pointer (some (pt b5 0))), (59, .bool y19)]) [⟨3, 49, (Addr.add p12 19), (cI .i64).val x13⟩] [13, 18] (t := 42) beq_iff_eq (fun hp_ => ?_) (fun hp_ => ?_) (fun _ _ _ _ _ _ h_ => h_) fun y19 => ?_
 ·refine J.g 3 <| OJ.join (b := (j10 != 0)) [9, 10, 11] [12, 13, 14, 15, 16, 17, 18, 19, 20, 21, 22] [0, 4, 5, 6, 42, 48] (fun y14 => [(0, .pointer a0), (4, .pointer (some (pt b1 0))), (5, .pointer (some (pt b3 0))), (6, .pointer (some (pt b5 0))), (42, .bool true), (48, .bool y14)]) [⟨3, 49, (Addr.add p12 19), (cI .i64).val x13⟩] [] (t := 45) bne_iff_ne (fun hp_ => ?_) (fun hp_ => ?_) (fun _ _ _ _ _ hq_ h_ => ⟨fun e_ he_ => (hq_ e_ he_).elim (fun h => h_.1 e_ h) (fun h => nomatch h), h_.2⟩) fun y14 => ?_
  ·exact J.g 3 <| OJ.nil ⟨(Cov.mem (Cov.keep (List.mem_of_getElem? (i := 0) rfl) Cov.nil)), rfl, _, rfl, by kernel_rfl⟩
  ·exact J.g 3 <| OJ.nil ⟨(Cov.mem (Cov.keep (List.mem_of_getElem? (i := 0) rfl) Cov.nil)), rfl, _, rfl, by kernel_rfl⟩
  refine J.g 1 <| OJ.join (b := y14) [13, 14, 15, 16, 17, 18, 19, 20, 21] [22] [0, 4, 5, 6, 42, 58] (fun y18 => [(0, .pointer a0), (4, .pointer (some (pt b1 0))), (5, .pointer (some (pt b3 0))), (6, .pointer (some (pt b5 0))), (42, .bool true), (58, .bool y18)]) [⟨3, 49, (Addr.add p12 19), (cI .i64).val x13⟩] [13, 18] (t := 49) Iff.rfl (fun hp_ => ?_) (fun hp_ => ?_) (fun _ _ _ _ _ hq_ h_ => ⟨fun e_ he_ => by rcases hq_ e_ he_ with h | h; exact h_.1 e_ h; exact .inr ((by decide : ∀ i ∈ [13, 18], i ∈ [13, 18]) _ h), h_.2⟩) fun y18 => ?_
  ·exact J.g 9 <| OJ.nil ⟨(Cov.mem (Cov.keep (List.mem_of_getElem? (i := 0) rfl) Cov.nil)), rfl, _, rfl, by kernel_rfl⟩
  ·exact J.k 0 0 rfl Ty91 (At.whole _) <| J.n 1 fun p15 => J.l 2 Ty3 fun x16 => J.C 0 F31 (Zgl _ _) fun r17 => J.g 2 <| OJ.nil ⟨(Cov.mem (Cov.drop (List.mem_of_getElem? (i := 1) rfl) (Cov.drop (List.mem_of_getElem? (i := 0) rfl) (Cov.keep (List.mem_of_getElem? (i := 0) rfl) Cov.nil)))), rfl, _, rfl, by kernel_rfl⟩
  exact J.g 1 <| OJ.nil ⟨(Cov.mem (Cov.keep (List.mem_of_getElem? (i := 0) rfl) Cov.nil)), rfl, _, rfl, by kernel_rfl⟩
 ·exact J.g 17 <| OJ.nil ⟨(Cov.mem (Cov.keep (List.mem_of_getElem? (i := 0) rfl) Cov.nil)), rfl, _, rfl, by kernel_rfl⟩
 refine J.z 0 <| J.f ?_ ?_
 ·exact SJ.rg 4 <| J.k 2 1 rfl Ty3 (Zbr _) <| J.C 0 F27 (Za3 _ _ _) fun r21 => J.z 0 <| SJ.sr 2 <| J.k 0 0 rfl Ty91 (At.whole _) <| J.s 0 2 rfl Ty91 (Upd.w j11) <| J.z 0 <| J.rc (.c 2 rfl Ty91 .n)
 exact SJ.skip <| SJ.sr 2 <| J.k 0 0 rfl Ty91 (At.whole _) <| J.s 0 2 rfl Ty91 (Upd.w j11) <| J.z 0 <| J.rc (.c 2 rfl Ty91 .n)
noncomputable def Zav.K2 (a0 : (Option Addr)) (a1 : Int) (r2 : ZaA) (r23 : (Zbn × Int × Int)) (j25 : Zac) : M Zac :=
 Zav.K1 a0 a1 r2 r23.2.1 j25
theorem Zav.K2_ok (a0 : (Option Addr)) (a1 : Int) (b1 : Nat) (r2 : ZaA) (b3 : Nat) (b5 : Nat) (r23 : (Zbn × Int × Int)) (j25 : Zac) :
  SJ Zav.cx [.code (c2 (c2 (c2 (c2 Zav.B))))] [(0, .pointer a0), (1, .int .i64 a1), (4, .pointer (some (pt b1 0))), (5, .pointer (some (pt b3 0))), (6, .pointer (some (pt b5 0))), (7, .int .i64 r23.2.1)] [(b5, Zay.enc j25), (b3, Za9.enc r2), (b1, Zay.enc Zbt)] (Zav.K2 a0 a1 r2 r23 j25) (rt Zav.out) := by
 unfold Zav.K2
 exact J.q <| Zav.K1_ok a0 a1 b1 r2 b3 b5 r23.2.1 j25
noncomputable def Zav (a0 : (Option Addr)) (a1 : Int) : M Zac :=
 slot 91 >>= fun b1 =>
 ZbF a0 >>= fun r2 =>
 slot 102 >>= fun b3 =>
 Zam r2.s >>= fun r4 =>
 slot 91 >>= fun b5 =>
 if r4.2.1 ≠ 0 then
  Zdu r2.s >>= fun r23 =>
  slot 28 >>= fun b24 =>
  if r23.1.V = 6 then
   Zav.K2 a0 a1 r2 r23 (⟨r23.1, 128⟩ : Zac)
  else
   Zav.K2 a0 a1 r2 r23 (⟨r23.1, 32⟩ : Zac)
 else
  Zav.K1 a0 a1 r2 r4.2.1 r4.1
theorem ZhD (a0 : (Option Addr)) (a1 : Int) : Ref Tryz.prog 68 [.pointer a0, .int .i64 a1] (Zav a0 a1) Zav.out := by
 refine J.Fn Tryz.func68 ?_
 unfold Zav
 refine SJ.sr 1 <| J.a 0 Ty91 fun b1 => J.z 0 <| SJ.sr 4 <| J.C 1 F64 (ZcJ _) fun r2 => J.a 0 Zds fun b3 => J.s 0 0 rfl Zds (Upd.w r2) <| J.z 0 <| SJ.sr 11 <| J.k 1 0 rfl Ty9 (Za8 _) <| J.C 0 F83 (ZhS _) fun r4 => J.a 4 Ty91 fun b5 => J.s 0 0 rfl Ty91 (Upd.w r4.1) <| J.z 2 <| SJ.seq <| SJ.sr 2 <| J.z 2 <| J.f ?_ ?_
 ·refine SJ.sr 11 <| J.k 1 1 rfl Ty9 (Za8 _) <| J.C 0 F84 (Zki _) fun r23 => J.a 4 Ty28 fun b24 => J.s 0 0 rfl Ty28 (Upd.w r23.1) <| J.z 2 <| SJ.sr 5 <| J.k 0 0 rfl Ty28 (At.whole _) <| J.u 0 Ty91 (.f 0 (ZeV _ r23.1) (.f 1 (Zd0 _ 32) .nil)) <| J.s 1 1 rfl Ty91 (Upd.w (⟨r23.1, 32⟩ : Zac)) <| J.z 1 <| SJ.sr 3 <| J.k 1 0 rfl Ty3 (Zde _) <| J.z 1 <| J.f ?_ ?_
  ·exact SJ.rg 2 <| J.s 1 1 rfl Ty3 (Zd0 _ 128) <| J.z 0 <| SJ.forget (List.Sublist.cons _ (List.Sublist.cons_cons _ (List.Sublist.cons_cons _ (List.Sublist.cons_cons _ List.Sublist.slnil)))) <| J.q <| Zav.K2_ok a0 a1 b1 r2 b3 b5 r23 (⟨r23.1, 128⟩ : Zac)
  exact SJ.skip <| SJ.forget (List.Sublist.cons _ (List.Sublist.cons_cons _ (List.Sublist.cons_cons _ (List.Sublist.cons_cons _ List.Sublist.slnil)))) <| J.q <| Zav.K2_ok a0 a1 b1 r2 b3 b5 r23 (⟨r23.1, 32⟩ : Zac)
 exact SJ.skip <| J.q <| Zav.K1_ok a0 a1 b1 r2 b3 b5 r4.2.1 r4.1

/-! ### weir/rules.ported: function 32 -/
noncomputable def Zdt.out (r_ : Bool) : Value := .bool r_
noncomputable def Zdt (a0 : Int) : M Bool :=
 (if a0 = 6 then
   pure true
  else
   pure (a0 == 17)) >>= fun y1 =>
 pure y1
theorem ZgB (a0 : Int) : Ref Tryz.prog 32 [.int .i64 a0] (Zdt a0) Zdt.out := by
 refine J.Fn Tryz.func32 ?_
 unfold Zdt
 refine SJ.sr 1 <| J.z 1 <| SJ.sr 7 <| J.j 3 2 .bool ?_ ?_ fun y1 => ?_
 ·exact J.e 3
 ·exact J.e 3
 exact J.z 1 <| J.r

/-! ### (*weir/rules.reader).ports: function 69 -/
noncomputable def ZaL.B : Code := bod Tryz.f69
noncomputable def ZaL.cx : Fx := ⟨Tryz.prog, 69, Tryz.f69, none⟩
noncomputable def ZaL.out (r_ : ZaD) : Value := ZaU.val r_
noncomputable def ZaL.K1 (a0 : (Option Addr)) (a1 : Int) (r2 : ZaA) (r4 : (ByteArray × ByteArray × Bool)) (j5 : ByteArray) : M ZaD :=
 ZaZ r4.1 0 65535 >>= fun r6 =>
 ZaZ j5 0 65535 >>= fun r7 =>
 nilck a0 >>= fun p8 =>
 ld (cI .i64) (Addr.add p8 19) >>= fun x9 =>
 (if x9 = 0 then
   (if ¬ (r6.2 = true) then
     pure true
    else
     pure (!r7.2)) >>= fun y10 =>
   (if y10 = true then
     pure true
    else
     pure (decide (r6.1 > r7.1))) >>= fun y11 =>
   (if y11 = true then
     pure true
    else
     pure (a1 == 16)) >>= fun y12 =>
   pure y12
  else
   pure false) >>= fun y13 =>
 if y13 = true then
  ZaN a0 164 r2.at_ >>= fun r15 =>
  pure (⟨r6.1, r7.1⟩ : ZaD)
 else
  pure (⟨r6.1, r7.1⟩ : ZaD)
theorem ZaL.K1_ok (a0 : (Option Addr)) (a1 : Int) (b1 : Nat) (r2 : ZaA) (b3 : Nat) (r4 : (ByteArray × ByteArray × Bool)) (j5 : ByteArray) :
  SJ ZaL.cx [.code (c2 (c2 (c2 (c2 ZaL.B))))] [(0, .pointer a0), (1, .int .i64 a1), (4, .pointer (some (pt b1 0))), (5, .pointer (some (pt b3 0))), (6, .string r4.1), (7, .string j5)] [(b3, Za9.enc r2), (b1, ZaU.enc Ze6)] (ZaL.K1 a0 a1 r2 r4 j5) (rt ZaL.out) := by
 unfold ZaL.K1
 refine SJ.sr 7 <| J.C 1 F65 (Zeo _ _ _) fun r6 => J.z 5 <| SJ.sr 7 <| J.C 1 F65 (Zeo _ _ _) fun r7 => J.z 5 <| SJ.seq <| SJ.sr 22 <| J.n 1 fun p8 => J.l 1 Ty49 fun x9 => J.g 2 <| OJ.join (b := (x9 == 0)) [6, 7, 8, 9, 10, 11, 12, 13, 14, 15, 16, 17, 18, 19, 20, 21] [] [0, 4, 5, 9, 11, 56] (fun y13 => [(0, .pointer a0), (4, .pointer (some (pt b1 0))), (5, .pointer (some (pt b3 0))), (9, .int .i64 r6.1), (11, .int .i64 r7.1), (56, .bool y13)]) [] [] (t := 40) beq_iff_eq (fun hp_ => ?_) (fun hp_ => ?_) (fun _ _ _ _ _ _ h_ => h_) fun y13 => ?_
 ·refine J.g 3 <| OJ.join (b := (!r6.2)) [9, 10, 11] [12, 13, 14, 15, 16, 17, 18, 19, 20, 21] [0, 1, 4, 5, 9, 11, 40, 46] (fun y10 => [(0, .pointer a0), (1, .int .i64 a1), (4, .pointer (some (pt b1 0))), (5, .pointer (some (pt b3 0))), (9, .int .i64 r6.1), (11, .int .i64 r7.1), (40, .bool true), (46, .bool y10)]) [] [] (t := 43) (ZlE Iff.rfl) (fun hp_ => ?_) (fun hp_ => ?_) (fun _ _ _ _ _ hq_ h_ => ⟨fun e_ he_ => (hq_ e_ he_).elim (fun h => h_.1 e_ h) (fun h => nomatch h), h_.2⟩) fun y10 => ?_
  ·exact J.g 3 <| OJ.nil ⟨(Cov.mem Cov.nil), rfl, _, rfl, by kernel_rfl⟩
  ·exact J.g 3 <| OJ.nil ⟨(Cov.mem Cov.nil), rfl, _, rfl, by kernel_rfl⟩
  refine J.g 1 <| OJ.join (b := y10) [13, 14, 15, 16] [17, 18, 19, 20, 21] [0, 1, 4, 5, 9, 11, 40, 51] (fun y11 => [(0, .pointer a0), (1, .int .i64 a1), (4, .pointer (some (pt b1 0))), (5, .pointer (some (pt b3 0))), (9, .int .i64 r6.1), (11, .int .i64 r7.1), (40, .bool true), (51, .bool y11)]) [] [] (t := 47) Iff.rfl (fun hp_ => ?_) (fun hp_ => ?_) (fun _ _ _ _ _ hq_ h_ => ⟨fun e_ he_ => (hq_ e_ he_).elim (fun h => h_.1 e_ h) (fun h => nomatch h), h_.2⟩) fun y11 => ?_
  ·exact J.g 4 <| OJ.nil ⟨(Cov.mem Cov.nil), rfl, _, rfl, by kernel_rfl⟩
  ·exact J.g 4 <| OJ.nil ⟨(Cov.mem Cov.nil), rfl, _, rfl, by kernel_rfl⟩
  refine J.g 1 <| OJ.join (b := y11) [18, 19, 20] [21] [0, 4, 5, 9, 11, 40, 55] (fun y12 => [(0, .pointer a0), (4, .pointer (some (pt b1 0))), (5, .pointer (some (pt b3 0))), (9, .int .i64 r6.1), (11, .int .i64 r7.1), (40, .bool true), (55, .bool y12)]) [] [] (t := 52) Iff.rfl (fun hp_ => ?_) (fun hp_ => ?_) (fun _ _ _ _ _ hq_ h_ => ⟨fun e_ he_ => (hq_ e_ he_).elim (fun h => h_.1 e_ h) (fun h => nomatch h), h_.2⟩) fun y12 => ?_
  ·exact J.g 3 <| OJ.nil ⟨(Cov.mem Cov.nil), rfl, _, rfl, by kernel_rfl⟩
  ·exact J.g 3 <| OJ.nil ⟨(Cov.mem Cov.nil), rfl, _, rfl, by kernel_rfl⟩
  exact J.g 1 <| OJ.nil ⟨(Cov.mem Cov.nil), rfl, _, rfl, by kernel_rfl⟩
 ·exact J.g 16 <| OJ.nil ⟨(Cov.mem Cov.nil), rfl, _, rfl, by kernel_rfl⟩
 refine J.z 0 <| J.f ?_ ?_
 ·exact SJ.rg 4 <| J.k 2 0 rfl Ty3 (Zbr _) <| J.C 0 F27 (Za3 _ _ _) fun r15 => J.z 0 <| SJ.sr 4 <| J.u 2 Ty93 (.f 0 (Zeu _ r6.1) (.f 1 (Zev _ r7.1) .nil)) <| J.s 0 1 rfl Ty93 (Upd.w (⟨r6.1, r7.1⟩ : ZaD)) <| J.z 0 <| J.rc (.c 1 rfl Ty93 .n)
 exact SJ.skip <| SJ.sr 4 <| J.u 2 Ty93 (.f 0 (Zeu _ r6.1) (.f 1 (Zev _ r7.1) .nil)) <| J.s 0 1 rfl Ty93 (Upd.w (⟨r6.1, r7.1⟩ : ZaD)) <| J.z 0 <| J.rc (.c 1 rfl Ty93 .n)
noncomputable def ZaL (a0 : (Option Addr)) (a1 : Int) : M ZaD :=
 slot 93 >>= fun b1 =>
 ZbF a0 >>= fun r2 =>
 slot 102 >>= fun b3 =>
 ZcS r2.s ZrB >>= fun r4 =>
 if ¬ (r4.2.2 = true) then
  ZaL.K1 a0 a1 r2 r4 r4.1
 else
  ZaL.K1 a0 a1 r2 r4 r4.2.1
theorem Zgz (a0 : (Option Addr)) (a1 : Int) : Ref Tryz.prog 69 [.pointer a0, .int .i64 a1] (ZaL a0 a1) ZaL.out := by
 refine J.Fn Tryz.func69 ?_
 unfold ZaL
 refine SJ.sr 1 <| J.a 0 Ty93 fun b1 => J.z 0 <| SJ.sr 4 <| J.C 1 F64 (ZcJ _) fun r2 => J.a 0 Zds fun b3 => J.s 0 0 rfl Zds (Upd.w r2) <| J.z 0 <| SJ.sr 10 <| J.k 1 0 rfl Ty9 (Za8 _) <| J.C 0 F85 (Zhp _ _) fun r4 => J.z 7 <| SJ.seq <| SJ.sr 2 <| J.z 2 <| J.f ?_ ?_
 ·exact SJ.rg 2 <| J.z 2 <| J.q <| ZaL.K1_ok a0 a1 b1 r2 b3 r4 r4.1
 exact SJ.skip <| J.q <| ZaL.K1_ok a0 a1 b1 r2 b3 r4 r4.2.1

/-! ### (*weir/rules.reader).side: function 43 -/
noncomputable def Zab.B : Code := bod Tryz.f43
noncomputable def Zab.cx : Fx := ⟨Tryz.prog, 43, Tryz.f43, none⟩
noncomputable def Zab.out (r_ : Zae) : Value := ZaE.val r_
noncomputable def Zab.F1 (a0 : (Option Addr)) (b1 : Nat) (b2 : Nat) : LF (Bool × Zae) Zae := ⟨[.inBlock 2, .code (c2 (c2 (c2 (c2 (c2 (c2 Zab.B))))))], c1 (c2 (c1 (c2 (c2 (c2 (c2 (c2 Zab.B))))))), fun s_ => [(0, .pointer a0), (2, .pointer (some (pt b1 0))), (3, .pointer (some (pt b2 0))), (5, .bool s_.1)], fun s_ => [(b2, ZaE.enc s_.2), (b1, ZaE.enc Zaw)], (rt Zab.out)⟩
noncomputable def Zab.L1 (a0 : (Option Addr)) (s35 : Bool) (s36 : Zae) : M (LS (Bool × Zae) Zae) :=
 (if s35 = true then
   nilck a0 >>= fun p45 =>
   ld (cI .i64) (Addr.add p45 19) >>= fun x46 =>
   pure (x46 == 0)
  else
   pure false) >>= fun y47 =>
 if y47 = true then
  draw >>= fun _ =>
  ZaL a0 (s36.Ports.len : Int) >>= fun r48 =>
  slot 93 >>= fun b49 =>
  appl ZaU 93 16 Ze6 s36.Ports [r48] >>= fun r50 =>
  Za6 a0 str1 >>= fun r51 =>
  pure (LS.next (r51, (⟨s36.Not, s36.Nets, r50⟩ : Zae)))
 else
  pure (LS.done s36)
theorem Zab.L1_ok (a0 : (Option Addr)) (b1 : Nat) (b2 : Nat) : LJ Zab.cx (Zab.F1 a0 b1 b2) (fun s_ => Zab.L1 a0 s_.1 s_.2) := by
 rintro ⟨s35, s36⟩
 show SJ _ _ _ _ (Zab.L1 a0 s35 s36) _
 unfold Zab.L1
 refine SJ.seq <| SJ.sr 8 <| J.j 2 5 .bool ?_ ?_ fun y47 => ?_
 ·exact J.n 1 fun p45 => J.l 1 Ty49 fun x46 => J.e 2
 ·exact J.e 6
 refine J.z 0 <| J.f ?_ ?_
 ·exact SJ.skip <| SJ.seq <| SJ.block (id := 3) <| J.R 11 ZcZ <| J.k 1 0 rfl Ty59 (ZaR _) <| J.k 2 0 rfl Ty59 (ZaR _) <| J.g 1 <| OJ.call (d := 73) (g := 69) (ats := #[97, 3]) (args := [.tmp 69, .tmp 72]) (owed := [⟨1, 59, (pt b2 2), cL.val s36.Ports⟩]) F69 (Zgz a0 (s36.Ports.len : Int)) fun r48 => OW.known (j := 0) (q := s36.Ports) Ty59 rfl (ZaR s36) <| OW.nil <| OJ.rowSlot (d := 74) (t := 59) (parts := [(0, .tmp 73)]) (ps := [(0, ZaU.val r48)]) (cd := ZaU) (⟨[r48], rfl⟩ : Vec ZaD 1) (owed := [⟨1, 59, (pt b2 2), cL.val s36.Ports⟩]) Ty93 (ZbV.cons (cd := ZaU) (q := r48) (o := 0) rfl (Upd.arr (i := 0) (by decide) (by decide)) ZbV.nil) fun b49 => OW.known (j := 1) (q := s36.Ports) Ty59 rfl (ZaR s36) <| OW.nil <| J.p 0 0 rfl Ty93 fun r50 => J.s 1 1 rfl Ty59 (ZdY _ r50) <| J.z 0 <| SJ.inBlock <| SJ.rg 3 <| J.C 1 F38 (Zb3 _ _) fun r51 => J.z 1 <| SJ.forget (List.Sublist.cons _ (List.Sublist.cons_cons _ (List.Sublist.cons_cons _ List.Sublist.slnil))) <| J.o rfl
 exact SJ.exit (id := 2) (by rfl) <| SJ.sr 2 <| J.k 0 0 rfl Ty61 (At.whole _) <| J.s 0 1 rfl Ty61 (Upd.w s36) <| J.z 0 <| J.rc (.c 1 rfl Ty61 .n)
noncomputable def Zab.K1 (a0 : (Option Addr)) (j23 : Zae) : M Zae :=
 Zc7 (fun s_ : (Bool × Zae) => Zab.L1 a0 s_.1 s_.2) (true, j23)
theorem Zab.K1_ok (a0 : (Option Addr)) (b1 : Nat) (b2 : Nat) (j23 : Zae) :
  SJ Zab.cx [.code (c2 (c2 (c2 (c2 (c2 Zab.B)))))] [(0, .pointer a0), (2, .pointer (some (pt b1 0))), (3, .pointer (some (pt b2 0)))] [(b2, ZaE.enc j23), (b1, ZaE.enc Zaw)] (Zab.K1 a0 j23) (rt Zab.out) := by
 unfold Zab.K1
 exact SJ.seq <| SJ.sr 1 <| J.z 1 <| SJ.block (id := 2) <| J.L (Zab.L1_ok a0 b1 b2)
noncomputable def Zab.K2 (a0 : (Option Addr)) (j23 : Zae) : M Zae :=
 Za6 a0 Zsi >>= fun r24 =>
 if ¬ (r24 = true) then
  pure j23
 else
  nilck a0 >>= fun p25 =>
  ld (cI .i64) (Addr.add (Addr.add p25 3) 3) >>= fun x26 =>
  Zdt x26 >>= fun r27 =>
  if ¬ (r27 = true) then
   draw >>= fun _ =>
   nilck a0 >>= fun p53 =>
   ld cL p53 >>= fun x54 =>
   nilck a0 >>= fun p55 =>
   ld (cI .i64) (Addr.add p55 1) >>= fun x56 =>
   idx x54.a x54.len (IntKind.wrap .i64 (x56 - 1)) 2 >>= fun p57 =>
   ld (cI .i64) (Addr.add p57 1) >>= fun x58 =>
   ZaN a0 165 x58 >>= fun r59 =>
   Zab.K1 a0 j23
  else
   Zab.K1 a0 j23
theorem Zab.K2_ok (a0 : (Option Addr)) (b1 : Nat) (b2 : Nat) (j23 : Zae) :
  SJ Zab.cx [.code (c2 (c2 (c2 Zab.B)))] [(0, .pointer a0), (2, .pointer (some (pt b1 0))), (3, .pointer (some (pt b2 0)))] [(b2, ZaE.enc j23), (b1, ZaE.enc Zaw)] (Zab.K2 a0 j23) (rt Zab.out) := by
 unfold Zab.K2
 refine SJ.seq <| SJ.sr 3 <| J.C 1 F38 (Zb3 _ _) fun r24 => J.z 1 <| J.f ?_ ?_
 ·exact SJ.sr 2 <| J.k 0 0 rfl Ty61 (At.whole _) <| J.s 0 1 rfl Ty61 (Upd.w j23) <| J.z 0 <| J.rc (.c 1 rfl Ty61 .n)
 refine SJ.skip <| SJ.seq <| SJ.sr 7 <| J.n 1 fun p25 => J.l 2 Ty3 fun x26 => J.C 0 F32 (ZgB _) fun r27 => J.z 1 <| J.f ?_ ?_
 ·exact J.R 14 ZcZ <| J.n 2 fun p53 => J.l 1 Ty94 fun x54 => J.n 1 fun p55 => J.l 1 Ty3 fun x56 => J.i 1 fun p57 => J.l 1 Ty3 fun x58 => J.C 0 F27 (Za3 _ _ _) fun r59 => J.z 0 <| J.q <| Zab.K1_ok a0 b1 b2 j23
 exact SJ.skip <| J.q <| Zab.K1_ok a0 b1 b2 j23
noncomputable def Zab.K3 (a0 : (Option Addr)) (s64 : Zae) : M Zae :=
 Zab.K2 a0 s64
theorem Zab.K3_ok (a0 : (Option Addr)) (b1 : Nat) (b2 : Nat) (s64 : Zae) :
  SJ Zab.cx [.code (c2 (c2 (c2 Zab.B)))] [(0, .pointer a0), (2, .pointer (some (pt b1 0))), (3, .pointer (some (pt b2 0)))] [(b2, ZaE.enc s64), (b1, ZaE.enc Zaw)] (Zab.K3 a0 s64) (rt Zab.out) := by
 unfold Zab.K3
 exact J.q <| Zab.K2_ok a0 b1 b2 s64
noncomputable def Zab.F2 (a0 : (Option Addr)) (b1 : Nat) (b2 : Nat) : LF (Bool × Zae) Zae := ⟨[.inBlock 0, .code (c2 (c2 (c2 Zab.B)))], c1 (c2 (c2 (c1 (c2 (c1 (c2 (c2 Zab.B))))))), fun s_ => [(0, .pointer a0), (2, .pointer (some (pt b1 0))), (3, .pointer (some (pt b2 0))), (4, .bool s_.1)], fun s_ => [(b2, ZaE.enc s_.2), (b1, ZaE.enc Zaw)], (rt Zab.out)⟩
noncomputable def Zab.L2 (a0 : (Option Addr)) (s63 : Bool) (s64 : Zae) : M (LS (Bool × Zae) Zae) :=
 (if s63 = true then
   nilck a0 >>= fun p73 =>
   ld (cI .i64) (Addr.add p73 19) >>= fun x74 =>
   pure (x74 == 0)
  else
   pure false) >>= fun y75 =>
 if y75 = true then
  draw >>= fun _ =>
  Zav a0 (s64.Nets.len : Int) >>= fun r76 =>
  slot 91 >>= fun b77 =>
  appl Zay 91 32 Zbt s64.Nets [r76] >>= fun r78 =>
  Za6 a0 str1 >>= fun r79 =>
  pure (LS.next (r79, (⟨s64.Not, r78, s64.Ports⟩ : Zae)))
 else
  (Zab.K3 a0 s64) >>= fun b => pure (LS.done b)
theorem Zab.L2_ok (a0 : (Option Addr)) (b1 : Nat) (b2 : Nat) : LJ Zab.cx (Zab.F2 a0 b1 b2) (fun s_ => Zab.L2 a0 s_.1 s_.2) := by
 rintro ⟨s63, s64⟩
 show SJ _ _ _ _ (Zab.L2 a0 s63 s64) _
 unfold Zab.L2
 refine SJ.seq <| SJ.sr 8 <| J.j 2 5 .bool ?_ ?_ fun y75 => ?_
 ·exact J.n 1 fun p73 => J.l 1 Ty49 fun x74 => J.e 2
 ·exact J.e 6
 refine J.z 0 <| J.f ?_ ?_
 ·exact SJ.skip <| SJ.seq <| SJ.block (id := 1) <| J.R 11 ZcZ <| J.k 1 0 rfl Ty58 (Zax _) <| J.k 2 0 rfl Ty58 (Zax _) <| J.g 1 <| OJ.call (d := 28) (g := 68) (ats := #[97, 3]) (args := [.tmp 24, .tmp 27]) (owed := [⟨1, 58, (pt b2 1), cL.val s64.Nets⟩]) F68 (ZhD a0 (s64.Nets.len : Int)) fun r76 => OW.known (j := 0) (q := s64.Nets) Ty58 rfl (Zax s64) <| OW.nil <| OJ.rowSlot (d := 29) (t := 58) (parts := [(0, .tmp 28)]) (ps := [(0, Zay.val r76)]) (cd := Zay) (⟨[r76], rfl⟩ : Vec Zac 1) (owed := [⟨1, 58, (pt b2 1), cL.val s64.Nets⟩]) Ty91 (ZbV.cons (cd := Zay) (q := r76) (o := 0) rfl (Upd.arr (i := 0) (by decide) (by decide)) ZbV.nil) fun b77 => OW.known (j := 1) (q := s64.Nets) Ty58 rfl (Zax s64) <| OW.nil <| J.p 0 0 rfl Ty91 fun r78 => J.s 1 1 rfl Ty58 (Zcq _ r78) <| J.z 0 <| SJ.inBlock <| SJ.rg 3 <| J.C 1 F38 (Zb3 _ _) fun r79 => J.z 1 <| SJ.forget (List.Sublist.cons _ (List.Sublist.cons_cons _ (List.Sublist.cons_cons _ List.Sublist.slnil))) <| J.o rfl
 exact SJ.exit (id := 0) (by rfl) <| J.q <| SJ.done <| Zab.K3_ok a0 b1 b2 s64
noncomputable def Zab (a0 : (Option Addr)) : M Zae :=
 slot 61 >>= fun b1 =>
 slot 61 >>= fun b2 =>
 Za6 a0 str8 >>= fun r3 =>
 if ¬ (r3 = true) then
  Za6 a0 Zsj >>= fun r62 =>
  Zc7 (fun s_ : (Bool × Zae) => Zab.L2 a0 s_.1 s_.2) (true, (⟨r62, Zaw.Nets, Zaw.Ports⟩ : Zae))
 else
  Zab.K2 a0 Zaw
theorem ZeZ (a0 : (Option Addr)) : Ref Tryz.prog 43 [.pointer a0] (Zab a0) Zab.out := by
 refine J.Fn Tryz.func43 ?_
 unfold Zab
 refine SJ.sr 1 <| J.a 0 Ty61 fun b1 => J.z 0 <| SJ.sr 1 <| J.a 0 Ty61 fun b2 => J.z 0 <| SJ.seq <| SJ.sr 3 <| J.C 1 F38 (Zb3 _ _) fun r3 => J.z 1 <| J.f ?_ ?_
 ·exact SJ.sr 4 <| J.C 1 F38 (Zb3 _ _) fun r62 => J.s 1 0 rfl Ty4 (Zfh _ r62) <| J.z 0 <| SJ.sr 1 <| J.z 1 <| SJ.block (id := 0) <| J.L (Zab.L2_ok a0 b1 b2)
 exact SJ.skip <| J.q <| Zab.K2_ok a0 b1 b2 Zaw

/-! ### (*weir/rules.reader).flags: function 44 -/
noncomputable def Zak.B : Code := bod Tryz.f44
noncomputable def Zak.cx : Fx := ⟨Tryz.prog, 44, Tryz.f44, none⟩
noncomputable def Zak.out (r_ : Unit) : Value := .tuple #[]
noncomputable def Zak.F1 (a0 : (Option Addr)) : LF Bool Unit := ⟨[.inBlock 0], c1 (c2 Zak.B), fun s_ => [(0, .pointer a0), (2, .bool s_)], fun s_ => [], (rt Zak.out)⟩
noncomputable def Zak.K1 (a0 : (Option Addr)) : M (LS Bool Unit) :=
 Za6 a0 str1 >>= fun r99 =>
 pure (LS.next r99)
theorem Zak.K1_ok (a0 : (Option Addr)) :
  SJ Zak.cx [.inBlock 2, .inBlock 1, .code (c2 (c2 (c1 (c1 (c2 Zak.B))))), .inLoop (c1 (c1 (c2 Zak.B))), .inBlock 0] [(0, .pointer a0)] [] (Zak.K1 a0) (Zak.F1 a0).f := by
 unfold Zak.K1
 exact SJ.inBlock <| SJ.inBlock <| SJ.rg 3 <| J.C 1 F38 (Zb3 _ _) fun r99 => J.z 1 <| J.o rfl
noncomputable def Zak.L1 (a0 : (Option Addr)) (s1 : Bool) : M (LS Bool Unit) :=
 (if s1 = true then
   nilck a0 >>= fun p2 =>
   ld (cI .i64) (Addr.add p2 19) >>= fun x3 =>
   pure (x3 == 0)
  else
   pure false) >>= fun y4 =>
 if y4 = true then
  ZbF a0 >>= fun r5 =>
  slot 102 >>= fun b6 =>
  ZbW r5.s Zsh >>= fun r7 =>
  ld cL ⟨2, 0, none⟩ >>= fun x8 =>
  Zao x8 r7.1 >>= fun r9 =>
  nilck a0 >>= fun p10 =>
  ld (cI .i64) (Addr.add p10 19) >>= fun x11 =>
  if x11 ≠ 0 then
   Zak.K1 a0
  else
   if r9 < 0 then
    ZaN a0 160 r5.at_ >>= fun r143 =>
    Zak.K1 a0
   else
    draw >>= fun _ =>
    nilck a0 >>= fun p144 =>
    ld (cI .i64) (Addr.add (Addr.add p144 3) 12) >>= fun x145 =>
    nilck a0 >>= fun p146 =>
    ld (cI .i64) (Addr.add (Addr.add p146 3) 13) >>= fun x147 =>
    chk (0 ≤ (IntKind.wrap .u64 r9)) >>= fun _ =>
    if (band .i64 (Int.fdiv (bor .i64 x145 x147) (2 ^ min (Int.toNat (IntKind.wrap .u64 r9)) 64)) 1) = 1 then
     ZaN a0 165 r5.at_ >>= fun r166 =>
     Zak.K1 a0
    else
     if r7.2 = true then
      nilck a0 >>= fun p175 =>
      ld (cI .i64) (Addr.add (Addr.add p175 3) 13) >>= fun x176 =>
      chk (0 ≤ (IntKind.wrap .u64 r9)) >>= fun _ =>
      nilck a0 >>= fun p177 =>
      st (cI .i64) (Addr.add (Addr.add p177 3) 13) (bor .i64 x176 (IntKind.wrap .i64 (1 * 2 ^ min (Int.toNat (IntKind.wrap .u64 r9)) 64))) >>= fun _ =>
      Zak.K1 a0
     else
      nilck a0 >>= fun p179 =>
      ld (cI .i64) (Addr.add (Addr.add p179 3) 12) >>= fun x180 =>
      chk (0 ≤ (IntKind.wrap .u64 r9)) >>= fun _ =>
      nilck a0 >>= fun p181 =>
      st (cI .i64) (Addr.add (Addr.add p181 3) 12) (bor .i64 x180 (IntKind.wrap .i64 (1 * 2 ^ min (Int.toNat (IntKind.wrap .u64 r9)) 64))) >>= fun _ =>
      Zak.K1 a0
 else
  pure (LS.done ())
theorem Zak.L1_ok (a0 : (Option Addr)) : LJ Zak.cx (Zak.F1 a0) (fun s_ => Zak.L1 a0 s_) := by
 rintro s1
 show SJ _ _ _ _ (Zak.L1 a0 s1) _
 unfold Zak.L1
 refine SJ.seq <| SJ.sr 8 <| J.j 2 5 .bool ?_ ?_ fun y4 => ?_
 ·exact J.n 1 fun p2 => J.l 1 Ty49 fun x3 => J.e 2
 ·exact J.e 6
 refine J.z 0 <| J.f ?_ ?_
 ·refine SJ.skip <| SJ.seq <| SJ.block (id := 1) <| SJ.sr 4 <| J.C 1 F64 (ZcJ _) fun r5 => J.a 0 Zds fun b6 => J.s 0 0 rfl Zds (Upd.w r5) <| J.z 0 <| SJ.sr 8 <| J.k 1 0 rfl Ty9 (Za8 _) <| J.C 0 F67 (ZeY _ _) fun r7 => J.z 5 <| SJ.sr 4 <| J.l 0 Zqd fun x8 => J.C 1 F37 (ZcE _ _) fun r9 => J.z 1 <| SJ.block (id := 2) <| SJ.sr 6 <| J.n 1 fun p10 => J.l 1 Ty49 fun x11 => J.z 2 <| J.f ?_ ?_
  ·exact SJ.skip <| SJ.forget (List.Sublist.cons _ List.Sublist.slnil) <| J.q <| Zak.K1_ok a0
  refine SJ.sr 3 <| J.z 3 <| J.f ?_ ?_
  ·exact SJ.rg 4 <| J.k 2 0 rfl Ty3 (Zbr _) <| J.C 0 F27 (Za3 _ _ _) fun r143 => J.z 0 <| SJ.forget (List.Sublist.cons _ List.Sublist.slnil) <| J.q <| Zak.K1_ok a0
  refine SJ.seq <| J.R 17 ZcZ <| J.n 1 fun p144 => J.l 2 Ty3 fun x145 => J.n 1 fun p146 => J.l 2 Ty3 fun x147 => J.g 3 <| OJ.shr (d := 67) (T := 3) (yT := 132) (y := .tmp 64) (z := .tmp 66) (k := .i64) (yk := .u64) (p := (bor .i64 x145 x147)) (q := (IntKind.wrap .u64 r9)) fun hq185 => J.z 3 <| J.f ?_ ?_
  ·exact SJ.rg 4 <| J.k 2 0 rfl Ty3 (Zbr _) <| J.C 0 F27 (Za3 _ _ _) fun r166 => J.z 0 <| SJ.forget (List.Sublist.cons _ List.Sublist.slnil) <| J.q <| Zak.K1_ok a0
  refine SJ.sr 2 <| J.z 2 <| J.f ?_ ?_
  ·exact SJ.rg 13 <| J.n 1 fun p175 => J.l 2 Ty3 fun x176 => J.g 2 <| OJ.shl (d := 83) (T := 3) (yT := 132) (y := .const (.int .i64 1)) (z := .tmp 82) (k := .i64) (yk := .u64) (p := 1) (q := (IntKind.wrap .u64 r9)) fun hq178 => J.n 1 fun p177 => J.w 2 Ty3 <| J.z 0 <| SJ.forget (List.Sublist.cons _ List.Sublist.slnil) <| J.q <| Zak.K1_ok a0
  exact SJ.rg 13 <| J.n 1 fun p179 => J.l 2 Ty3 fun x180 => J.g 2 <| OJ.shl (d := 35) (T := 3) (yT := 132) (y := .const (.int .i64 1)) (z := .tmp 34) (k := .i64) (yk := .u64) (p := 1) (q := (IntKind.wrap .u64 r9)) fun hq182 => J.n 1 fun p181 => J.w 2 Ty3 <| J.z 0 <| SJ.forget (List.Sublist.cons _ List.Sublist.slnil) <| J.q <| Zak.K1_ok a0
 exact SJ.exit (id := 0) (by rfl) <| SJ.end_ rfl (Res.run (ys := []) .nil rfl)
noncomputable def Zak (a0 : (Option Addr)) : M Unit :=
 Zc7 (fun s_ : Bool => Zak.L1 a0 s_) true
theorem ZgA (a0 : (Option Addr)) : Ref Tryz.prog 44 [.pointer a0] (Zak a0) Zak.out := by
 refine J.Fn Tryz.func44 ?_
 unfold Zak
 exact SJ.sr 1 <| J.z 1 <| SJ.block (id := 0) <| J.L (Zak.L1_ok a0)

/-! ### (*weir/rules.reader).clause: function 28 -/
noncomputable def Zau.B : Code := bod Tryz.f28
noncomputable def Zau.cx : Fx := ⟨Tryz.prog, 28, Tryz.f28, none⟩
noncomputable def Zau.out (r_ : Bool) : Value := .bool r_
noncomputable def Zau.K1  : M Bool :=
 pure true
theorem Zau.K1_ok  :
  SJ Zau.cx [.inBlock 0, .code (c2 (c2 Zau.B))] [] [] (Zau.K1) (rt Zau.out) := by
 unfold Zau.K1
 exact SJ.inBlock <| SJ.sr 1 <| J.z 1 <| J.r
noncomputable def Zau (a0 : (Option Addr)) (a1 : ByteArray) : M Bool :=
 if a1.toList = ZrA.toList then
  Zcs a0 >>= fun r238 =>
  nilck a0 >>= fun p239 =>
  st (cI .i64) (Addr.add (Addr.add p239 3) 4) (IntKind.wrap .i64 (r238 + 1)) >>= fun _ =>
  pure true
 else
  if a1.toList = Zrz.toList then
   Zbx a0 1 4094 >>= fun r357 =>
   nilck a0 >>= fun p358 =>
   st (cI .i64) (Addr.add (Addr.add p358 3) 5) r357 >>= fun _ =>
   pure true
  else
   if a1.toList = ZmL.toList then
    Zab a0 >>= fun r416 =>
    nilck a0 >>= fun p417 =>
    st ZaE (Addr.add (Addr.add p417 3) 6) r416 >>= fun _ =>
    Zau.K1
   else
    if a1.toList = ZoZ.toList then
     Zab a0 >>= fun r445 =>
     nilck a0 >>= fun p446 =>
     st ZaE (Addr.add (Addr.add p446 3) 9) r445 >>= fun _ =>
     Zau.K1
    else
     if a1.toList = ZmK.toList then
      Zak a0 >>= fun r459 =>
      Zau.K1
     else
      if a1.toList = ZmJ.toList then
       Zbx a0 0 255 >>= fun r465 =>
       nilck a0 >>= fun p466 =>
       st (cI .i64) (Addr.add (Addr.add p466 3) 14) (IntKind.wrap .i64 (r465 + 1)) >>= fun _ =>
       Zau.K1
      else
       if a1.toList = Zry.toList then
        nilck a0 >>= fun p468 =>
        st cB (Addr.add (Addr.add p468 3) 15) true >>= fun _ =>
        Zau.K1
       else
        pure false
theorem Zgs (a0 : (Option Addr)) (a1 : ByteArray) : Ref Tryz.prog 28 [.pointer a0, .string a1] (Zau a0 a1) Zau.out := by
 refine J.Fn Tryz.func28 ?_
 unfold Zau
 refine SJ.sr 1 <| J.z 1 <| SJ.seq <| SJ.sr 1 <| J.z 1 <| SJ.block (id := 0) <| SJ.sr 2 <| J.z 2 <| J.f ?_ ?_
 ·exact SJ.rg 8 <| J.C 2 F42 (Zhf _) fun r238 => J.n 1 fun p239 => J.w 2 Ty3 <| J.z 0 <| SJ.inBlock <| SJ.sr 1 <| J.z 1 <| J.r
 refine SJ.sr 2 <| J.z 2 <| J.f ?_ ?_
 ·exact SJ.rg 7 <| J.C 2 F39 (ZcX _ _ _) fun r357 => J.n 0 fun p358 => J.w 2 Ty3 <| J.z 0 <| SJ.inBlock <| SJ.sr 1 <| J.z 1 <| J.r
 refine SJ.sr 2 <| J.z 2 <| J.f ?_ ?_
 ·exact SJ.rg 7 <| J.C 2 F43 (ZeZ _) fun r416 => J.n 0 fun p417 => J.w 2 Ty61 <| J.z 0 <| J.q <| Zau.K1_ok 
 refine SJ.sr 2 <| J.z 2 <| J.f ?_ ?_
 ·exact SJ.rg 7 <| J.C 2 F43 (ZeZ _) fun r445 => J.n 0 fun p446 => J.w 2 Ty61 <| J.z 0 <| J.q <| Zau.K1_ok 
 refine SJ.sr 2 <| J.z 2 <| J.f ?_ ?_
 ·exact SJ.rg 2 <| J.C 1 F44 (ZgA _) fun r459 => J.z 0 <| J.q <| Zau.K1_ok 
 refine SJ.sr 2 <| J.z 2 <| J.f ?_ ?_
 ·exact SJ.rg 8 <| J.C 2 F39 (ZcX _ _ _) fun r465 => J.n 1 fun p466 => J.w 2 Ty3 <| J.z 0 <| J.q <| Zau.K1_ok 
 refine SJ.sr 2 <| J.z 2 <| J.f ?_ ?_
 ·exact SJ.rg 5 <| J.n 1 fun p468 => J.w 2 Ty4 <| J.z 0 <| J.q <| Zau.K1_ok 
 exact SJ.sr 1 <| J.z 1 <| J.r
end Go.Proofs.YtjceipelgkdoaaaGreatDoor.Lx
