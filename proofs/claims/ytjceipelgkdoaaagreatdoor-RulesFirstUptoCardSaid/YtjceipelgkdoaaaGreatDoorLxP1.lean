/- Programs of the M-world for Go functions, each with the proof that the Go text does what it says. Printed by lxgen.py. -/
import Derived.Test.YtjceipelgkdoaaaGreatDoorLxT
import Derived.Test.YtjceipelgkdoaaaGreatDoorLxP0
set_option linter.unusedVariables false
set_option linter.unusedSimpArgs false
set_option linter.unusedSectionVars false
namespace Go.Proofs.YtjceipelgkdoaaaGreatDoor.Lx
open Go Go.Proofs
variable [Zdg]
/-! ### internal/stringslite.IndexByte: function 118 -/
noncomputable def Zce.out (r_ : Int) : Value := .int .i64 r_
noncomputable def Zce (a0 : ByteArray) (a1 : Int) : M Int :=
 idxB a0 a1 >>= fun r1 =>
 pure r1
theorem ZfL (a0 : ByteArray) (a1 : Int) : Ref Tryz.prog 118 [.string a0, .int .u8 a1] (Zce a0 a1) Zce.out := by
 refine J.Fn Tryz.func118 ?_
 unfold Zce
 exact SJ.sr 1 <| J.z 1 <| SJ.sr 4 <| J.g 2 <| OJ.ext (d := 7) (g := 127) (ats := #[9, 5]) (args := [.tmp 5, .tmp 6]) (out := fun r => .int .i64 r) (owed := []) Tryz.func127 Zq9 fun r1 => OW.nil <| J.z 1 <| J.r

/-! ### internal/stringslite.Index: function 109 -/
noncomputable def Zcf.out (r_ : Int) : Value := .int .i64 r_
noncomputable def Zcf (a0 : ByteArray) (a1 : ByteArray) : M Int :=
 (if (a1.size : Int) = 0 then
   pure true
  else
   pure (a1.toList == a0.toList)) >>= fun y1 =>
 if y1 = true then
  pure 0
 else
  if (a1.size : Int) = 1 then
   chk ((0 : Int) ≤ 0 ∧ 0 < (a1.size : Int)) >>= fun _ =>
   Zce a0 (sb a1 0) >>= fun r14 =>
   pure r14
  else
   fail
theorem Ze1 (a0 : ByteArray) (a1 : ByteArray) : Ref Tryz.prog 109 [.string a0, .string a1] (Zcf a0 a1) Zcf.out := by
 refine J.Fn Tryz.func109 ?_
 unfold Zcf
 refine SJ.sr 1 <| J.z 1 <| SJ.sr 3 <| J.z 3 <| SJ.seq <| SJ.block (id := 0) <| SJ.sr 8 <| J.j 3 3 .bool ?_ ?_ fun y1 => ?_
 ·exact J.e 4
 ·exact J.e 4
 refine J.z 1 <| J.f ?_ ?_
 ·exact SJ.sr 1 <| J.z 1 <| J.r
 refine SJ.sr 3 <| J.z 3 <| J.f ?_ ?_
 ·exact SJ.sr 5 <| J.t 2 fun hb12 hb13 => J.C 0 F118 (ZfL _ _) fun r14 => J.z 1 <| J.r
 exact SJ.fail

/-! ### internal/stringslite.Cut: function 95 -/
noncomputable def ZcS.out (r_ : (ByteArray × ByteArray × Bool)) : Value := .tuple #[.string r_.1, .string r_.2.1, .bool r_.2.2]
noncomputable def ZcS (a0 : ByteArray) (a1 : ByteArray) : M (ByteArray × ByteArray × Bool) :=
 Zcf a0 a1 >>= fun r1 =>
 if r1 ≥ 0 then
  draw >>= fun _ =>
  chk (0 ≤ (0 : Int) ∧ (0 : Int) ≤ r1 ∧ r1 ≤ (a0.size : Int)) >>= fun _ =>
  chk (0 ≤ ((IntKind.wrap .i64 (r1 + (a1.size : Int))) : Int) ∧ ((IntKind.wrap .i64 (r1 + (a1.size : Int))) : Int) ≤ (a0.size : Int) ∧ (a0.size : Int) ≤ (a0.size : Int)) >>= fun _ =>
  pure ((ByteArray.extract a0 (Int.toNat 0) (Int.toNat r1)), (ByteArray.extract a0 (Int.toNat (IntKind.wrap .i64 (r1 + (a1.size : Int)))) (Int.toNat (a0.size : Int))), true)
 else
  pure (a0, ByteArray.empty, false)
theorem Zh1 (a0 : ByteArray) (a1 : ByteArray) : Ref Tryz.prog 95 [.string a0, .string a1] (ZcS a0 a1) ZcS.out := by
 refine J.Fn Tryz.func95 ?_
 unfold ZcS
 refine SJ.sr 3 <| J.z 3 <| SJ.seq <| SJ.sr 4 <| J.C 2 F109 (Ze1 _ _) fun r1 => J.z 1 <| SJ.sr 2 <| J.z 2 <| J.f ?_ ?_
 ·exact SJ.seq <| J.R 12 Zc0 <| J.ct 2 <| J.ct 5 <| J.z 3 <| J.r
 exact SJ.skip <| SJ.sr 4 <| J.z 4 <| J.r

/-! ### strings.Cut: function 85 -/
noncomputable def ZcT.out (r_ : (ByteArray × ByteArray × Bool)) : Value := .tuple #[.string r_.1, .string r_.2.1, .bool r_.2.2]
noncomputable def ZcT (a0 : ByteArray) (a1 : ByteArray) : M (ByteArray × ByteArray × Bool) :=
 ZcS a0 a1 >>= fun r1 =>
 pure (r1.1, r1.2.1, r1.2.2)
theorem Zhq (a0 : ByteArray) (a1 : ByteArray) : Ref Tryz.prog 85 [.string a0, .string a1] (ZcT a0 a1) ZcT.out := by
 refine J.Fn Tryz.func85 ?_
 unfold ZcT
 exact SJ.sr 3 <| J.z 3 <| SJ.sr 9 <| J.C 2 F95 (Zh1 _ _) fun r1 => J.z 6 <| J.r

/-! ### strings.Index: function 115 -/
noncomputable def ZdZ.out (r_ : Int) : Value := .int .i64 r_
noncomputable def ZdZ (a0 : ByteArray) (a1 : ByteArray) : M Int :=
 Zcf a0 a1 >>= fun r1 =>
 pure r1
theorem Zjh (a0 : ByteArray) (a1 : ByteArray) : Ref Tryz.prog 115 [.string a0, .string a1] (ZdZ a0 a1) ZdZ.out := by
 refine J.Fn Tryz.func115 ?_
 unfold ZdZ
 exact SJ.sr 1 <| J.z 1 <| SJ.sr 4 <| J.C 2 F109 (Ze1 _ _) fun r1 => J.z 1 <| J.r

/-! ### strings.Contains: function 103 -/
noncomputable def ZcD.out (r_ : Bool) : Value := .bool r_
noncomputable def ZcD (a0 : ByteArray) (a1 : ByteArray) : M Bool :=
 ZdZ a0 a1 >>= fun r1 =>
 pure (decide (r1 ≥ 0))
theorem ZhB (a0 : ByteArray) (a1 : ByteArray) : Ref Tryz.prog 103 [.string a0, .string a1] (ZcD a0 a1) ZcD.out := by
 refine J.Fn Tryz.func103 ?_
 unfold ZcD
 exact SJ.sr 1 <| J.z 1 <| SJ.sr 5 <| J.C 2 F115 (Zjh _ _) fun r1 => J.z 2 <| J.r

/-! ### weir/addr.missing: function 108 -/
noncomputable def Zda.out (r_ : (Option Addr)) : Value := .pointer r_
noncomputable def Zda (a0 : ByteArray) (a1 : Int) : M (Option Addr) :=
 if a1 = (a0.size : Int) then
  newv 191 Zbg (⟨42, a1⟩ : ZbB) >>= fun b2 =>
  pure (some (pt b2 0))
 else
  newv 191 Zbg (⟨41, a1⟩ : ZbB) >>= fun b3 =>
  pure (some (pt b3 0))
theorem Zfl (a0 : ByteArray) (a1 : Int) : Ref Tryz.prog 108 [.string a0, .int .i64 a1] (Zda a0 a1) Zda.out := by
 refine J.Fn Tryz.func108 ?_
 unfold Zda
 refine SJ.sr 1 <| J.z 1 <| SJ.seq <| SJ.sr 4 <| J.z 4 <| J.f ?_ ?_
 ·exact SJ.sr 4 <| J.u 1 Zis (.f 0 (Zbi _ 42) (.f 1 (Zbj _ a1) .nil)) <| J.B 0 fun b2 => J.z 1 <| J.r
 exact SJ.skip <| SJ.sr 4 <| J.u 1 Zis (.f 0 (Zbi _ 41) (.f 1 (Zbj _ a1) .nil)) <| J.B 0 fun b3 => J.z 1 <| J.r

/-! ### weir/addr.digit: function 107 -/
noncomputable def Zek.out (r_ : Bool) : Value := .bool r_
noncomputable def Zek (a0 : Int) : M Bool :=
 (if a0 ≥ 48 then
   pure (decide (a0 ≤ 57))
  else
   pure false) >>= fun y1 =>
 pure y1
theorem Zin (a0 : Int) : Ref Tryz.prog 107 [.int .u8 a0] (Zek a0) Zek.out := by
 refine J.Fn Tryz.func107 ?_
 unfold Zek
 refine SJ.sr 1 <| J.z 1 <| SJ.sr 7 <| J.j 3 2 .bool ?_ ?_ fun y1 => ?_
 ·exact J.e 3
 ·exact J.e 3
 exact J.z 1 <| J.r

/-! ### weir/addr.number: function 94 -/
noncomputable def ZaJ.B : Code := bod Tryz.f94
noncomputable def ZaJ.cx : Fx := ⟨Tryz.prog, 94, Tryz.f94, none⟩
noncomputable def ZaJ.out (r_ : (Int × Int × (Option Addr))) : Value := .tuple #[.int .i64 r_.1, .int .i64 r_.2.1, .pointer r_.2.2]
noncomputable def ZaJ.F1 (a0 : ByteArray) (a1 : Int) (a2 : Int) (a3 : Int) (s1 : Int) : LF (Int × Int) (Int × Int × (Option Addr)) := ⟨[.inBlock 2, .code (c2 (c2 (c2 (c2 (c2 (c2 (c2 ZaJ.B)))))))], c1 (c2 (c1 (c2 (c2 (c2 (c2 (c2 (c2 ZaJ.B)))))))), fun s_ => [(0, .string a0), (1, .int .i64 a1), (2, .int .i64 a2), (3, .int .i64 a3), (11, .int .i64 s1), (12, .int .i64 s_.1), (13, .int .i64 s_.2)], fun s_ => [], (rt ZaJ.out)⟩
noncomputable def ZaJ.L1 (a0 : ByteArray) (a1 : Int) (a2 : Int) (a3 : Int) (s1 : Int) (s15 : Int) (s16 : Int) : M (LS (Int × Int) (Int × Int × (Option Addr))) :=
 if s16 < s1 then
  chk ((0 : Int) ≤ s16 ∧ s16 < (a0.size : Int)) >>= fun _ =>
  pure (LS.next (IntKind.wrap .i64 ((IntKind.wrap .i64 (10 * s15)) + (IntKind.wrap .i64 (IntKind.wrap .u8 ((sb a0 s16) - 48)))), IntKind.wrap .i64 (s16 + 1)))
 else
  if s15 > a2 then
   newv 191 Zbg (⟨a3, a1⟩ : ZbB) >>= fun b26 =>
   pure (LS.done (0, 0, (some (pt b26 0))))
  else
   pure (LS.done (s15, s1, none))
theorem ZaJ.L1_ok (a0 : ByteArray) (a1 : Int) (a2 : Int) (a3 : Int) (s1 : Int) : LJ ZaJ.cx (ZaJ.F1 a0 a1 a2 a3 s1) (fun s_ => ZaJ.L1 a0 a1 a2 a3 s1 s_.1 s_.2) := by
 rintro ⟨s15, s16⟩
 show SJ _ _ _ _ (ZaJ.L1 a0 a1 a2 a3 s1 s15 s16) _
 unfold ZaJ.L1
 refine SJ.seq <| SJ.sr 3 <| J.z 3 <| J.f ?_ ?_
 ·exact SJ.skip <| SJ.seq <| SJ.block (id := 3) <| SJ.rg 9 <| J.t 4 fun hb23 hb24 => J.z 4 <| SJ.inBlock <| SJ.rg 3 <| J.z 3 <| J.o rfl
 refine SJ.exit (id := 2) (by rfl) <| SJ.seq <| SJ.sr 3 <| J.z 3 <| J.f ?_ ?_
 ·exact SJ.sr 7 <| J.u 2 Zis (.f 0 (Zbi _ a3) (.f 1 (Zbj _ a1) .nil)) <| J.B 0 fun b26 => J.z 3 <| J.r
 exact SJ.skip <| SJ.sr 5 <| J.z 5 <| J.r
noncomputable def ZaJ.K1 (a0 : ByteArray) (a1 : Int) (a2 : Int) (a3 : Int) (s1 : Int) : M (Int × Int × (Option Addr)) :=
 if s1 = a1 then
  Zda a0 a1 >>= fun r8 =>
  pure (0, 0, r8)
 else
  (if (IntKind.wrap .i64 (s1 - a1)) > 3 then
    pure true
   else
    (if (IntKind.wrap .i64 (s1 - a1)) > 1 then
      chk ((0 : Int) ≤ a1 ∧ a1 < (a0.size : Int)) >>= fun _ =>
      pure ((sb a0 a1) == 48)
     else
      pure false) >>= fun y11 =>
    pure y11) >>= fun y12 =>
  if y12 = true then
   newv 191 Zbg (⟨a3, a1⟩ : ZbB) >>= fun b14 =>
   pure (0, 0, (some (pt b14 0)))
  else
   Zc7 (fun s_ : (Int × Int) => ZaJ.L1 a0 a1 a2 a3 s1 s_.1 s_.2) (0, a1)
theorem ZaJ.K1_ok (a0 : ByteArray) (a1 : Int) (a2 : Int) (a3 : Int) (s1 : Int) :
  SJ ZaJ.cx [.code (c2 (c2 (c2 ZaJ.B)))] [(0, .string a0), (1, .int .i64 a1), (2, .int .i64 a2), (3, .int .i64 a3), (11, .int .i64 s1)] [] (ZaJ.K1 a0 a1 a2 a3 s1) (rt ZaJ.out) := by
 unfold ZaJ.K1
 refine SJ.seq <| SJ.sr 3 <| J.z 3 <| J.f ?_ ?_
 ·exact SJ.sr 6 <| J.C 2 F108 (Zfl _ _) fun r8 => J.z 3 <| J.r
 refine SJ.skip <| SJ.seq <| SJ.sr 16 <| J.g 5 <| OJ.join (b := decide ((IntKind.wrap .i64 (s1 - a1)) > 3)) [5, 6, 7, 8, 9, 10, 11, 12, 13, 14, 15] [] [0, 1, 2, 3, 11, 48] (fun y12 => [(0, .string a0), (1, .int .i64 a1), (2, .int .i64 a2), (3, .int .i64 a3), (11, .int .i64 s1), (48, .bool y12)]) [] [] (t := 37) decide_eq_true_iff (fun hp_ => ?_) (fun hp_ => ?_) (fun _ _ _ _ _ _ h_ => h_) fun y12 => ?_
 ·exact J.g 11 <| OJ.nil ⟨(Cov.mem Cov.nil), rfl, _, rfl, by kernel_rfl⟩
 ·refine J.g 5 <| OJ.join (b := decide ((IntKind.wrap .i64 (s1 - a1)) > 1)) [10, 11, 12, 13, 14] [15] [0, 1, 2, 3, 11, 37, 47] (fun y11 => [(0, .string a0), (1, .int .i64 a1), (2, .int .i64 a2), (3, .int .i64 a3), (11, .int .i64 s1), (37, .bool false), (47, .bool y11)]) [] [] (t := 42) decide_eq_true_iff (fun hp_ => ?_) (fun hp_ => ?_) (fun _ _ _ _ _ hq_ h_ => ⟨fun e_ he_ => (hq_ e_ he_).elim (fun h => h_.1 e_ h) (fun h => nomatch h), h_.2⟩) fun y11 => ?_
  ·exact J.t 2 fun hb9 hb10 => J.g 2 <| OJ.nil ⟨(Cov.mem Cov.nil), rfl, _, rfl, by kernel_rfl⟩
  ·exact J.g 5 <| OJ.nil ⟨(Cov.mem Cov.nil), rfl, _, rfl, by kernel_rfl⟩
  exact J.g 1 <| OJ.nil ⟨(Cov.mem Cov.nil), rfl, _, rfl, by kernel_rfl⟩
 refine J.z 0 <| J.f ?_ ?_
 ·exact SJ.sr 7 <| J.u 2 Zis (.f 0 (Zbi _ a3) (.f 1 (Zbj _ a1) .nil)) <| J.B 0 fun b14 => J.z 3 <| J.r
 exact SJ.skip <| SJ.sr 1 <| J.z 1 <| SJ.seq <| SJ.sr 2 <| J.z 2 <| SJ.block (id := 2) <| J.L (ZaJ.L1_ok a0 a1 a2 a3 s1)
noncomputable def ZaJ.F2 (a0 : ByteArray) (a1 : Int) (a2 : Int) (a3 : Int) : LF Int (Int × Int × (Option Addr)) := ⟨[.inBlock 0, .code (c2 (c2 (c2 ZaJ.B)))], c1 (c1 (c2 (c2 ZaJ.B))), fun s_ => [(0, .string a0), (1, .int .i64 a1), (2, .int .i64 a2), (3, .int .i64 a3), (11, .int .i64 s_)], fun s_ => [], (rt ZaJ.out)⟩
noncomputable def ZaJ.L2 (a0 : ByteArray) (a1 : Int) (a2 : Int) (a3 : Int) (s1 : Int) : M (LS Int (Int × Int × (Option Addr))) :=
 (if s1 < (a0.size : Int) then
   chk ((0 : Int) ≤ s1 ∧ s1 < (a0.size : Int)) >>= fun _ =>
   Zek (sb a0 s1) >>= fun r33 =>
   pure r33
  else
   pure false) >>= fun y34 =>
 if y34 = true then
  pure (LS.next (IntKind.wrap .i64 (s1 + 1)))
 else
  (ZaJ.K1 a0 a1 a2 a3 s1) >>= fun b => pure (LS.done b)
theorem ZaJ.L2_ok (a0 : ByteArray) (a1 : Int) (a2 : Int) (a3 : Int) : LJ ZaJ.cx (ZaJ.F2 a0 a1 a2 a3) (fun s_ => ZaJ.L2 a0 a1 a2 a3 s_) := by
 rintro s1
 show SJ _ _ _ _ (ZaJ.L2 a0 a1 a2 a3 s1) _
 unfold ZaJ.L2
 refine SJ.seq <| SJ.sr 10 <| J.j 5 4 .bool ?_ ?_ fun y34 => ?_
 ·exact J.t 2 fun hb31 hb32 => J.C 0 F107 (Zin _) fun r33 => J.e 1
 ·exact J.e 5
 refine J.z 0 <| J.f ?_ ?_
 ·exact SJ.skip <| SJ.block (id := 1) <| SJ.rg 3 <| J.z 3 <| SJ.inBlock <| J.o rfl
 exact SJ.exit (id := 0) (by rfl) <| J.q <| SJ.done <| ZaJ.K1_ok a0 a1 a2 a3 s1
noncomputable def ZaJ (a0 : ByteArray) (a1 : Int) (a2 : Int) (a3 : Int) : M (Int × Int × (Option Addr)) :=
 Zc7 (fun s_ : Int => ZaJ.L2 a0 a1 a2 a3 s_) a1
theorem Zht (a0 : ByteArray) (a1 : Int) (a2 : Int) (a3 : Int) : Ref Tryz.prog 94 [.string a0, .int .i64 a1, .int .i64 a2, .int .i64 a3] (ZaJ a0 a1 a2 a3) ZaJ.out := by
 refine J.Fn Tryz.func94 ?_
 unfold ZaJ
 exact SJ.sr 3 <| J.z 3 <| SJ.sr 2 <| J.z 2 <| SJ.seq <| SJ.block (id := 0) <| J.L (ZaJ.L2_ok a0 a1 a2 a3)

/-! ### weir/addr.four: function 104 -/
noncomputable def ZaW.B : Code := bod Tryz.f104
noncomputable def ZaW.cx : Fx := ⟨Tryz.prog, 104, Tryz.f104, none⟩
noncomputable def ZaW.out (r_ : ((Vec Int 4) × (Option Addr))) : Value := .tuple #[((cI .u8).arr 4).val r_.1, .pointer r_.2]
noncomputable def ZaW.K1 (a0 : ByteArray) (s3 : Int) (s5 : (Vec Int 4)) : M ((Vec Int 4) × (Option Addr)) :=
 if s3 < (a0.size : Int) then
  newv 191 Zbg (⟨41, s3⟩ : ZbB) >>= fun b27 =>
  pure (s5, (some (pt b27 0)))
 else
  pure (s5, none)
theorem ZaW.K1_ok (a0 : ByteArray) (b1 : Nat) (b2 : Nat) (s3 : Int) (s5 : (Vec Int 4)) (s6 : (Vec Int 4)) :
  SJ ZaW.cx [.code (c2 (c2 (c2 ZaW.B)))] [(0, .string a0), (1, .int .i64 s3), (4, .pointer (some (pt b1 0))), (6, .pointer (some (pt b2 0)))] [(b2, ((cI .u8).arr 4).enc s5), (b1, ((cI .u8).arr 4).enc s6)] (ZaW.K1 a0 s3 s5) (rt ZaW.out) := by
 unfold ZaW.K1
 refine SJ.seq <| SJ.sr 4 <| J.z 4 <| J.f ?_ ?_
 ·exact SJ.sr 6 <| J.k 0 0 rfl Zgh (At.whole _) <| J.u 1 Zis (.f 0 (Zbi _ 41) (.f 1 (Zbj _ s3) .nil)) <| J.B 0 fun b27 => J.s 0 1 rfl Zgh (Upd.w s5) <| J.z 1 <| J.rc (.c 1 rfl Zgh .n)
 exact SJ.skip <| SJ.sr 3 <| J.k 0 0 rfl Zgh (At.whole _) <| J.s 0 1 rfl Zgh (Upd.w s5) <| J.z 1 <| J.rc (.c 1 rfl Zgh .n)
noncomputable def ZaW.F1 (a0 : ByteArray) (b1 : Nat) (b2 : Nat) : LF (Int × Int × (Vec Int 4) × (Vec Int 4)) ((Vec Int 4) × (Option Addr)) := ⟨[.inBlock 0, .code (c2 (c2 (c2 ZaW.B)))], c1 (c2 (c1 (c2 (c2 ZaW.B)))), fun s_ => [(0, .string a0), (1, .int .i64 s_.1), (4, .pointer (some (pt b1 0))), (6, .pointer (some (pt b2 0))), (11, .int .i64 s_.2.1)], fun s_ => [(b2, ((cI .u8).arr 4).enc s_.2.2.1), (b1, ((cI .u8).arr 4).enc s_.2.2.2)], (rt ZaW.out)⟩
noncomputable def ZaW.K2 (a0 : ByteArray) (s4 : Int) (s5 : (Vec Int 4)) (s6 : (Vec Int 4)) (j35 : Int) : M (LS (Int × Int × (Vec Int 4) × (Vec Int 4)) ((Vec Int 4) × (Option Addr))) :=
 ZaJ a0 j35 255 43 >>= fun r36 =>
 if ¬ (r36.2.2 = none) then
  pure (LS.done (s5, r36.2.2))
 else
  chk ((0 : Int) ≤ s4 ∧ s4 < (4 : Nat)) >>= fun _ =>
  pure (LS.next (r36.2.1, IntKind.wrap .i64 (s4 + 1), (Vec.s s5 s4 (IntKind.wrap .u8 r36.1)), s6))
theorem ZaW.K2_ok (a0 : ByteArray) (b1 : Nat) (b2 : Nat) (s4 : Int) (s5 : (Vec Int 4)) (s6 : (Vec Int 4)) (j35 : Int) :
  SJ ZaW.cx [.code (c2 (c2 (c1 (c1 (c2 (c2 (c1 (c1 (c2 (c1 (c2 (c2 ZaW.B)))))))))))), .inBlock 1, .code (c2 (c2 (c2 (c1 (c1 (c2 (c1 (c2 (c2 ZaW.B))))))))), .inLoop (c1 (c1 (c2 (c1 (c2 (c2 ZaW.B)))))), .inBlock 0, .code (c2 (c2 (c2 ZaW.B)))] [(0, .string a0), (1, .int .i64 j35), (4, .pointer (some (pt b1 0))), (6, .pointer (some (pt b2 0))), (11, .int .i64 s4), (7, .int .i64 s4)] [(b2, ((cI .u8).arr 4).enc s5), (b1, ((cI .u8).arr 4).enc s6)] (ZaW.K2 a0 s4 s5 s6 j35) (ZaW.F1 a0 b1 b2).f := by
 unfold ZaW.K2
 refine SJ.sr 10 <| J.C 2 F94 (Zht _ _ _ _) fun r36 => J.z 7 <| SJ.seq <| SJ.sr 2 <| J.z 2 <| J.f ?_ ?_
 ·exact SJ.sr 4 <| J.k 0 0 rfl Zgh (At.whole _) <| J.s 1 1 rfl Zgh (Upd.w s5) <| J.z 1 <| J.rc (.c 1 rfl Zgh .n)
 exact SJ.skip <| SJ.sr 5 <| J.y 3 fun hb37 hb38 => J.s (u := (IntKind.wrap .u8 r36.1)) 0 0 rfl Ty5 (Upd.zero (Upd.arr hb37 hb38)) <| J.z 0 <| SJ.rg 2 <| J.z 2 <| SJ.inBlock <| SJ.rg 2 <| J.z 2 <| J.o rfl
noncomputable def ZaW.L1 (a0 : ByteArray) (s3 : Int) (s4 : Int) (s5 : (Vec Int 4)) (s6 : (Vec Int 4)) : M (LS (Int × Int × (Vec Int 4) × (Vec Int 4)) ((Vec Int 4) × (Option Addr))) :=
 if s4 < 4 then
  if s4 > 0 then
   (if s3 = (a0.size : Int) then
     pure true
    else
     chk ((0 : Int) ≤ s3 ∧ s3 < (a0.size : Int)) >>= fun _ =>
     pure ((sb a0 s3) != 46)) >>= fun y42 =>
   if y42 = true then
    draw >>= fun _ =>
    Zda a0 s3 >>= fun r44 =>
    pure (LS.done (s5, r44))
   else
    ZaW.K2 a0 s4 s5 s6 (IntKind.wrap .i64 (s3 + 1))
  else
   ZaW.K2 a0 s4 s5 s6 s3
 else
  (ZaW.K1 a0 s3 s5) >>= fun b => pure (LS.done b)
theorem ZaW.L1_ok (a0 : ByteArray) (b1 : Nat) (b2 : Nat) : LJ ZaW.cx (ZaW.F1 a0 b1 b2) (fun s_ => ZaW.L1 a0 s_.1 s_.2.1 s_.2.2.1 s_.2.2.2) := by
 rintro ⟨s3, s4, s5, s6⟩
 show SJ _ _ _ _ (ZaW.L1 a0 s3 s4 s5 s6) _
 unfold ZaW.L1
 refine SJ.sr 1 <| J.z 1 <| SJ.seq <| J.f ?_ ?_
 ·refine SJ.skip <| SJ.seq <| SJ.block (id := 1) <| SJ.sr 2 <| J.z 2 <| SJ.seq <| SJ.sr 2 <| J.z 2 <| J.f ?_ ?_
  ·refine SJ.seq <| SJ.sr 10 <| J.j 5 4 .bool ?_ ?_ fun y42 => ?_
   ·exact J.e 5
   ·exact J.t 2 fun hb40 hb41 => J.e 2
   refine J.z 0 <| J.f ?_ ?_
   ·exact SJ.seq <| J.R 6 Zc0 <| J.k 0 0 rfl Zgh (At.whole _) <| J.g 2 <| OJ.call (d := 29) (g := 108) (ats := #[9, 3]) (args := [.tmp 27, .tmp 28]) (owed := [⟨0, 201, (pt b2 0), ((cI .u8).arr 4).val s5⟩]) F108 (Zfl a0 s3) fun r44 => OW.known (j := 0) (q := s5) Zgh rfl (At.whole _) <| OW.nil <| J.s 0 1 rfl Zgh (Upd.w s5) <| J.z 1 <| J.rc (.c 1 rfl Zgh .n)
   exact SJ.skip <| SJ.rg 3 <| J.z 3 <| J.q <| ZaW.K2_ok a0 b1 b2 s4 s5 s6 (IntKind.wrap .i64 (s3 + 1))
  exact SJ.skip <| J.q <| ZaW.K2_ok a0 b1 b2 s4 s5 s6 s3
 exact SJ.exit (id := 0) (by rfl) <| J.q <| SJ.done <| ZaW.K1_ok a0 b1 b2 s3 s5 s6
noncomputable def ZaW (a0 : ByteArray) (a1 : Int) : M ((Vec Int 4) × (Option Addr)) :=
 slot 201 >>= fun b1 =>
 slot 201 >>= fun b2 =>
 Zc7 (fun s_ : (Int × Int × (Vec Int 4) × (Vec Int 4)) => ZaW.L1 a0 s_.1 s_.2.1 s_.2.2.1 s_.2.2.2) (a1, 0, (Vec.rep 4 0), (Vec.rep 4 0))
theorem Zjg (a0 : ByteArray) (a1 : Int) : Ref Tryz.prog 104 [.string a0, .int .i64 a1] (ZaW a0 a1) ZaW.out := by
 refine J.Fn Tryz.func104 ?_
 unfold ZaW
 exact SJ.sr 2 <| J.a 0 Zgh fun b1 => J.z 1 <| SJ.sr 1 <| J.a 0 Zgh fun b2 => J.z 0 <| SJ.seq <| SJ.sr 1 <| J.z 1 <| SJ.block (id := 0) <| J.L (ZaW.L1_ok a0 b1 b2)

/-! ### strings.HasPrefix: function 124 -/
noncomputable def Zco.out (r_ : Bool) : Value := .bool r_
noncomputable def Zco (a0 : ByteArray) (a1 : ByteArray) : M Bool :=
 ZbH a0 a1 >>= fun r1 =>
 pure r1
theorem Zhf (a0 : ByteArray) (a1 : ByteArray) : Ref Tryz.prog 124 [.string a0, .string a1] (Zco a0 a1) Zco.out := by
 refine J.Fn Tryz.func124 ?_
 unfold Zco
 exact SJ.sr 1 <| J.z 1 <| SJ.sr 4 <| J.C 2 F92 (Zeh _ _) fun r1 => J.z 1 <| J.r

/-! ### (*weir/addr.six).double: function 116 -/
noncomputable def Zcz.out (r_ : (Bool × (Option Addr))) : Value := .tuple #[.bool r_.1, .pointer r_.2]
noncomputable def Zcz (a0 : (Option Addr)) : M (Bool × (Option Addr)) :=
 draw >>= fun _ =>
 nilck a0 >>= fun p1 =>
 ld cS p1 >>= fun x2 =>
 nilck a0 >>= fun p3 =>
 ld (cI .i64) (Addr.add p3 1) >>= fun x4 =>
 chk (0 ≤ (x4 : Int) ∧ (x4 : Int) ≤ (x2.size : Int) ∧ (x2.size : Int) ≤ (x2.size : Int)) >>= fun _ =>
 Zco (ByteArray.extract x2 (Int.toNat x4) (Int.toNat (x2.size : Int))) Zpa >>= fun r5 =>
 if ¬ (r5 = true) then
  pure (false, none)
 else
  nilck a0 >>= fun p6 =>
  ld (cI .i64) (Addr.add p6 3) >>= fun x7 =>
  (if x7 ≥ 0 then
    pure true
   else
    nilck a0 >>= fun p8 =>
    ld cL (Addr.add p8 2) >>= fun x9 =>
    pure ((x9.len : Int) == 8)) >>= fun y10 =>
  if y10 = true then
   draw >>= fun _ =>
   nilck a0 >>= fun p14 =>
   ld (cI .i64) (Addr.add p14 1) >>= fun x15 =>
   newv 191 Zbg (⟨44, x15⟩ : ZbB) >>= fun b16 =>
   pure (false, (some (pt b16 0)))
  else
   nilck a0 >>= fun p17 =>
   ld cL (Addr.add p17 2) >>= fun x18 =>
   nilck a0 >>= fun p19 =>
   st (cI .i64) (Addr.add p19 3) (x18.len : Int) >>= fun _ =>
   nilck a0 >>= fun p20 =>
   ld (cI .i64) (Addr.add p20 1) >>= fun x21 =>
   nilck a0 >>= fun p22 =>
   st (cI .i64) (Addr.add p22 1) (IntKind.wrap .i64 (x21 + 2)) >>= fun _ =>
   pure (true, none)
theorem ZfA (a0 : (Option Addr)) : Ref Tryz.prog 116 [.pointer a0] (Zcz a0) Zcz.out := by
 refine J.Fn Tryz.func116 ?_
 unfold Zcz
 refine SJ.sr 2 <| J.z 2 <| SJ.seq <| SJ.seq <| J.R 11 Zc0 <| J.n 1 fun p1 => J.l 1 Ty9 fun x2 => J.n 1 fun p3 => J.l 1 Ty3 fun x4 => J.ct 0 <| J.C 0 F124 (Zhf _ _) fun r5 => J.z 1 <| J.f ?_ ?_
 ·exact SJ.sr 2 <| J.z 2 <| J.r
 refine SJ.skip <| SJ.seq <| SJ.sr 13 <| J.n 1 fun p6 => J.l 1 Ty3 fun x7 => J.j 2 6 .bool ?_ ?_ fun y10 => ?_
 ·exact J.e 7
 ·exact J.n 1 fun p8 => J.l 1 ZiP fun x9 => J.e 3
 refine J.z 0 <| J.f ?_ ?_
 ·exact SJ.seq <| J.R 8 Zc0 <| J.n 1 fun p14 => J.l 1 Ty3 fun x15 => J.u 0 Zis (.f 0 (Zbi _ 44) (.f 1 (Zbj _ x15) .nil)) <| J.B 0 fun b16 => J.z 2 <| J.r
 exact SJ.skip <| SJ.sr 9 <| J.n 2 fun p17 => J.l 1 ZiP fun x18 => J.n 1 fun p19 => J.w 1 Ty3 <| J.z 0 <| SJ.sr 8 <| J.n 1 fun p20 => J.l 1 Ty3 fun x21 => J.n 1 fun p22 => J.w 1 Ty3 <| J.z 0 <| SJ.sr 2 <| J.z 2 <| J.r

/-! ### weir/addr.hexa: function 125 -/
noncomputable def ZeS.out (r_ : Int) : Value := .int .i64 r_
noncomputable def ZeS (a0 : Int) : M Int :=
 Zek a0 >>= fun r1 =>
 if r1 = true then
  pure (IntKind.wrap .i64 (IntKind.wrap .u8 (a0 - 48)))
 else
  (if a0 ≥ 97 then
    pure (decide (a0 ≤ 102))
   else
    pure false) >>= fun y8 =>
  if y8 = true then
   pure (IntKind.wrap .i64 ((IntKind.wrap .i64 (IntKind.wrap .u8 (a0 - 97))) + 10))
  else
   (if a0 ≥ 65 then
     pure (decide (a0 ≤ 70))
    else
     pure false) >>= fun y11 =>
   if y11 = true then
    pure (IntKind.wrap .i64 ((IntKind.wrap .i64 (IntKind.wrap .u8 (a0 - 65))) + 10))
   else
    pure (-1)
theorem Zjf (a0 : Int) : Ref Tryz.prog 125 [.int .u8 a0] (ZeS a0) ZeS.out := by
 refine J.Fn Tryz.func125 ?_
 unfold ZeS
 refine SJ.sr 1 <| J.z 1 <| SJ.seq <| SJ.block (id := 0) <| SJ.sr 3 <| J.C 1 F107 (Zin _) fun r1 => J.z 1 <| J.f ?_ ?_
 ·exact SJ.sr 4 <| J.z 4 <| J.r
 refine SJ.sr 7 <| J.j 3 2 .bool ?_ ?_ fun y8 => ?_
 ·exact J.e 3
 ·exact J.e 3
 refine J.z 1 <| J.f ?_ ?_
 ·exact SJ.sr 5 <| J.z 5 <| J.r
 refine SJ.sr 7 <| J.j 3 2 .bool ?_ ?_ fun y11 => ?_
 ·exact J.e 3
 ·exact J.e 3
 refine J.z 1 <| J.f ?_ ?_
 ·exact SJ.sr 5 <| J.z 5 <| J.r
 exact SJ.skip <| SJ.inBlock <| SJ.sr 1 <| J.z 1 <| J.r

/-! ### (*weir/addr.six).room: function 126 -/
noncomputable def Zc9.out (r_ : Int) : Value := .int .i64 r_
noncomputable def Zc9 (a0 : (Option Addr)) : M Int :=
 nilck a0 >>= fun p1 =>
 ld (cI .i64) (Addr.add p1 3) >>= fun x2 =>
 if x2 ≥ 0 then
  nilck a0 >>= fun p5 =>
  ld cL (Addr.add p5 2) >>= fun x6 =>
  pure (IntKind.wrap .i64 (7 - (x6.len : Int)))
 else
  nilck a0 >>= fun p7 =>
  ld cL (Addr.add p7 2) >>= fun x8 =>
  pure (IntKind.wrap .i64 (8 - (x8.len : Int)))
theorem Zgq (a0 : (Option Addr)) : Ref Tryz.prog 126 [.pointer a0] (Zc9 a0) Zc9.out := by
 refine J.Fn Tryz.func126 ?_
 unfold Zc9
 refine SJ.sr 1 <| J.z 1 <| SJ.seq <| SJ.sr 5 <| J.n 1 fun p1 => J.l 1 Ty3 fun x2 => J.z 1 <| J.f ?_ ?_
 ·exact SJ.sr 7 <| J.n 1 fun p5 => J.l 1 ZiP fun x6 => J.z 3 <| J.r
 exact SJ.skip <| SJ.sr 7 <| J.n 1 fun p7 => J.l 1 ZiP fun x8 => J.z 3 <| J.r

/-! ### (*weir/addr.six).group: function 117 -/
noncomputable def ZaM.B : Code := bod Tryz.f117
noncomputable def ZaM.cx : Fx := ⟨Tryz.prog, 117, Tryz.f117, none⟩
noncomputable def ZaM.out (r_ : (Bool × (Option Addr))) : Value := .tuple #[.bool r_.1, .pointer r_.2]
noncomputable def ZaM.K1 (a0 : (Option Addr)) (x2 : Int) (s3 : Int) (s4 : Int) : M (Bool × (Option Addr)) :=
 if s4 = x2 then
  nilck a0 >>= fun p22 =>
  ld cS p22 >>= fun x23 =>
  Zda x23 x2 >>= fun r24 =>
  pure (false, r24)
 else
  nilck a0 >>= fun p25 =>
  ld cS p25 >>= fun x26 =>
  (if s4 < (x26.size : Int) then
    nilck a0 >>= fun p27 =>
    ld cS p27 >>= fun x28 =>
    chk ((0 : Int) ≤ s4 ∧ s4 < (x28.size : Int)) >>= fun _ =>
    pure ((sb x28 s4) == 46)
   else
    pure false) >>= fun y31 =>
  (if y31 = true then
    nilck a0 >>= fun p32 =>
    ld cL (Addr.add p32 2) >>= fun x33 =>
    (if (x33.len : Int) > 0 then
      pure true
     else
      nilck a0 >>= fun p34 =>
      ld (cI .i64) (Addr.add p34 3) >>= fun x35 =>
      pure (decide (x35 ≥ 0))) >>= fun y36 =>
    pure y36
   else
    pure false) >>= fun y37 =>
  if y37 = true then
   Zc9 a0 >>= fun r51 =>
   if r51 < 2 then
    newv 191 Zbg (⟨44, x2⟩ : ZbB) >>= fun b53 =>
    pure (false, (some (pt b53 0)))
   else
    nilck a0 >>= fun p54 =>
    ld cS p54 >>= fun x55 =>
    ZaW x55 x2 >>= fun r56 =>
    slot 201 >>= fun b57 =>
    draw >>= fun _ =>
    nilck a0 >>= fun p58 =>
    ld cL (Addr.add p58 2) >>= fun x59 =>
    slot 3 >>= fun b60 =>
    same cL (Addr.add p58 2) x59 >>= fun _ =>
    appl (cI .i64) 3 8 0 x59 [bor .i64 (IntKind.wrap .i64 ((IntKind.wrap .i64 (Vec.g r56.1 0 0)) * 2 ^ 8)) (IntKind.wrap .i64 (Vec.g r56.1 1 0)), bor .i64 (IntKind.wrap .i64 ((IntKind.wrap .i64 (Vec.g r56.1 2 0)) * 2 ^ 8)) (IntKind.wrap .i64 (Vec.g r56.1 3 0))] >>= fun r61 =>
    nilck a0 >>= fun p62 =>
    st cL (Addr.add p62 2) r61 >>= fun _ =>
    pure (true, r56.2)
  else
   Zc9 a0 >>= fun r64 =>
   if r64 < 1 then
    newv 191 Zbg (⟨44, x2⟩ : ZbB) >>= fun b66 =>
    pure (false, (some (pt b66 0)))
   else
    if (IntKind.wrap .i64 (s4 - x2)) > 4 then
     newv 191 Zbg (⟨43, x2⟩ : ZbB) >>= fun b68 =>
     pure (false, (some (pt b68 0)))
    else
     nilck a0 >>= fun p69 =>
     ld cL (Addr.add p69 2) >>= fun x70 =>
     slot 3 >>= fun b71 =>
     appl (cI .i64) 3 8 0 x70 [s3] >>= fun r72 =>
     nilck a0 >>= fun p73 =>
     st cL (Addr.add p73 2) r72 >>= fun _ =>
     nilck a0 >>= fun p74 =>
     st (cI .i64) (Addr.add p74 1) s4 >>= fun _ =>
     pure (false, none)
theorem ZaM.K1_ok (a0 : (Option Addr)) (x2 : Int) (s3 : Int) (s4 : Int) :
  SJ ZaM.cx [.code (c2 (c2 (c2 (c2 ZaM.B))))] [(0, .pointer a0), (4, .int .i64 x2), (5, .int .i64 s3), (6, .int .i64 s4)] [] (ZaM.K1 a0 x2 s3 s4) (rt ZaM.out) := by
 unfold ZaM.K1
 refine SJ.seq <| SJ.sr 3 <| J.z 3 <| J.f ?_ ?_
 ·exact SJ.sr 8 <| J.n 1 fun p22 => J.l 1 Ty9 fun x23 => J.C 1 F108 (Zfl _ _) fun r24 => J.z 2 <| J.r
 refine SJ.skip <| SJ.seq <| SJ.sr 31 <| J.n 2 fun p25 => J.l 1 Ty9 fun x26 => J.j 3 7 .bool ?_ ?_ fun y31 => ?_
 ·exact J.n 1 fun p27 => J.l 1 Ty9 fun x28 => J.t 1 fun hb29 hb30 => J.e 2
 ·exact J.e 8
 refine J.g 1 <| OJ.join (b := y31) [17, 18, 19, 20, 21, 22, 23, 24, 25, 26, 27, 28, 29, 30] [] [0, 4, 5, 6, 83] (fun y37 => [(0, .pointer a0), (4, .int .i64 x2), (5, .int .i64 s3), (6, .int .i64 s4), (83, .bool y37)]) [] [] (t := 69) Iff.rfl (fun hp_ => ?_) (fun hp_ => ?_) (fun _ _ _ _ _ _ h_ => h_) fun y37 => ?_
 ·refine J.n 1 fun p32 => J.l 1 ZiP fun x33 => J.g 3 <| OJ.join (b := decide ((x33.len : Int) > 0)) [24, 25, 26, 27, 28, 29] [30] [0, 4, 5, 6, 69, 82] (fun y36 => [(0, .pointer a0), (4, .int .i64 x2), (5, .int .i64 s3), (6, .int .i64 s4), (69, .bool true), (82, .bool y36)]) [] [] (t := 76) decide_eq_true_iff (fun hp_ => ?_) (fun hp_ => ?_) (fun _ _ _ _ _ hq_ h_ => ⟨fun e_ he_ => (hq_ e_ he_).elim (fun h => h_.1 e_ h) (fun h => nomatch h), h_.2⟩) fun y36 => ?_
  ·exact J.g 6 <| OJ.nil ⟨(Cov.mem Cov.nil), rfl, _, rfl, by kernel_rfl⟩
  ·exact J.n 1 fun p34 => J.l 1 Ty3 fun x35 => J.g 2 <| OJ.nil ⟨(Cov.mem Cov.nil), rfl, _, rfl, by kernel_rfl⟩
  exact J.g 1 <| OJ.nil ⟨(Cov.mem Cov.nil), rfl, _, rfl, by kernel_rfl⟩
 ·exact J.g 14 <| OJ.nil ⟨(Cov.mem Cov.nil), rfl, _, rfl, by kernel_rfl⟩
 refine J.z 0 <| J.f ?_ ?_
 ·refine SJ.seq <| SJ.sr 3 <| J.C 1 F126 (Zgq _) fun r51 => J.z 1 <| J.f ?_ ?_
  ·exact SJ.sr 5 <| J.u 1 Zis (.f 0 (Zbi _ 44) (.f 1 (Zbj _ x2) .nil)) <| J.B 0 fun b53 => J.z 2 <| J.r
  exact SJ.skip <| SJ.sr 12 <| J.n 1 fun p54 => J.l 1 Ty9 fun x55 => J.C 1 F104 (Zjg _ _) fun r56 => J.a 3 Zgh fun b57 => J.s 0 0 rfl Zgh (Upd.w r56.1) <| J.z 1 <| SJ.seq <| J.R 26 Zc0 <| J.n 2 fun p58 => J.l 1 ZiP fun x59 => J.k 1 0 rfl Ty5 (At.zero (At.arr (z := 0) (i := 0) (n := 4) (by decide) (by decide))) <| J.k 3 0 rfl Ty5 (At.zero (At.arr (z := 0) (i := 1) (n := 4) (by decide) (by decide))) <| J.k 3 0 rfl Ty5 (At.zero (At.arr (z := 0) (i := 2) (n := 4) (by decide) (by decide))) <| J.k 3 0 rfl Ty5 (At.zero (At.arr (z := 0) (i := 3) (n := 4) (by decide) (by decide))) <| J.g 2 <| OJ.rowSlot (d := 120) (t := 182) (parts := [(0, .tmp 111), (1, .tmp 119)]) (ps := [(0, (cI .i64).val (bor .i64 (IntKind.wrap .i64 ((IntKind.wrap .i64 (Vec.g r56.1 0 0)) * 2 ^ 8)) (IntKind.wrap .i64 (Vec.g r56.1 1 0)))), (1, (cI .i64).val (bor .i64 (IntKind.wrap .i64 ((IntKind.wrap .i64 (Vec.g r56.1 2 0)) * 2 ^ 8)) (IntKind.wrap .i64 (Vec.g r56.1 3 0))))]) (cd := (cI .i64)) (⟨[bor .i64 (IntKind.wrap .i64 ((IntKind.wrap .i64 (Vec.g r56.1 0 0)) * 2 ^ 8)) (IntKind.wrap .i64 (Vec.g r56.1 1 0)), bor .i64 (IntKind.wrap .i64 ((IntKind.wrap .i64 (Vec.g r56.1 2 0)) * 2 ^ 8)) (IntKind.wrap .i64 (Vec.g r56.1 3 0))], rfl⟩ : Vec Int 2) (owed := [⟨4, 182, (Addr.add p58 2), cL.val x59⟩]) Ty3 (ZbW.cons (cd := (cI .i64)) (q := (bor .i64 (IntKind.wrap .i64 ((IntKind.wrap .i64 (Vec.g r56.1 0 0)) * 2 ^ 8)) (IntKind.wrap .i64 (Vec.g r56.1 1 0)))) (o := 0) rfl (Upd.arr (i := 0) (by decide) (by decide)) (ZbW.cons (cd := (cI .i64)) (q := (bor .i64 (IntKind.wrap .i64 ((IntKind.wrap .i64 (Vec.g r56.1 2 0)) * 2 ^ 8)) (IntKind.wrap .i64 (Vec.g r56.1 3 0)))) (o := 1) rfl (Upd.arr (i := 1) (by decide) (by decide)) ZbW.nil)) fun b60 => OW.same ZiP <| OW.nil <| J.p 0 0 rfl Ty3 fun r61 => J.n 0 fun p62 => J.w 1 ZiP <| J.z 0 <| SJ.sr 3 <| J.z 3 <| J.r
 refine SJ.skip <| SJ.seq <| SJ.sr 3 <| J.C 1 F126 (Zgq _) fun r64 => J.z 1 <| J.f ?_ ?_
 ·exact SJ.sr 5 <| J.u 1 Zis (.f 0 (Zbi _ 44) (.f 1 (Zbj _ x2) .nil)) <| J.B 0 fun b66 => J.z 2 <| J.r
 refine SJ.skip <| SJ.seq <| SJ.sr 4 <| J.z 4 <| J.f ?_ ?_
 ·exact SJ.sr 5 <| J.u 1 Zis (.f 0 (Zbi _ 43) (.f 1 (Zbj _ x2) .nil)) <| J.B 0 fun b68 => J.z 2 <| J.r
 exact SJ.skip <| SJ.sr 11 <| J.n 2 fun p69 => J.l 1 ZiP fun x70 => J.S 1 [s3] Ty3 fun b71 => J.p 0 0 rfl Ty3 fun r72 => J.n 0 fun p73 => J.w 1 ZiP <| J.z 0 <| SJ.sr 5 <| J.n 2 fun p74 => J.w 1 Ty3 <| J.z 0 <| SJ.sr 2 <| J.z 2 <| J.r
noncomputable def ZaM.F1 (a0 : (Option Addr)) (x2 : Int) : LF (Int × Int) (Bool × (Option Addr)) := ⟨[.inBlock 0, .code (c2 (c2 (c2 (c2 ZaM.B))))], c1 (c1 (c2 (c2 (c2 ZaM.B)))), fun s_ => [(0, .pointer a0), (4, .int .i64 x2), (5, .int .i64 s_.1), (6, .int .i64 s_.2)], fun s_ => [], (rt ZaM.out)⟩
noncomputable def ZaM.L1 (a0 : (Option Addr)) (x2 : Int) (s3 : Int) (s4 : Int) : M (LS (Int × Int) (Bool × (Option Addr))) :=
 nilck a0 >>= fun p79 =>
 ld cS p79 >>= fun x80 =>
 (if s4 < (x80.size : Int) then
   nilck a0 >>= fun p81 =>
   ld cS p81 >>= fun x82 =>
   chk ((0 : Int) ≤ s4 ∧ s4 < (x82.size : Int)) >>= fun _ =>
   ZeS (sb x82 s4) >>= fun r85 =>
   pure (decide (r85 ≥ 0))
  else
   pure false) >>= fun y86 =>
 if y86 = true then
  nilck a0 >>= fun p87 =>
  ld cS p87 >>= fun x88 =>
  chk ((0 : Int) ≤ s4 ∧ s4 < (x88.size : Int)) >>= fun _ =>
  ZeS (sb x88 s4) >>= fun r91 =>
  pure (LS.next (bor .i64 (band .i64 (IntKind.wrap .i64 (s3 * 2 ^ 4)) 1048575) r91, IntKind.wrap .i64 (s4 + 1)))
 else
  (ZaM.K1 a0 x2 s3 s4) >>= fun b => pure (LS.done b)
theorem ZaM.L1_ok (a0 : (Option Addr)) (x2 : Int) : LJ ZaM.cx (ZaM.F1 a0 x2) (fun s_ => ZaM.L1 a0 x2 s_.1 s_.2) := by
 rintro ⟨s3, s4⟩
 show SJ _ _ _ _ (ZaM.L1 a0 x2 s3 s4) _
 unfold ZaM.L1
 refine SJ.seq <| SJ.sr 17 <| J.n 2 fun p79 => J.l 1 Ty9 fun x80 => J.j 3 8 .bool ?_ ?_ fun y86 => ?_
 ·exact J.n 1 fun p81 => J.l 1 Ty9 fun x82 => J.t 1 fun hb83 hb84 => J.C 0 F125 (Zjf _) fun r85 => J.e 2
 ·exact J.e 9
 refine J.z 0 <| J.f ?_ ?_
 ·exact SJ.skip <| SJ.block (id := 1) <| SJ.sr 12 <| J.n 4 fun p87 => J.l 1 Ty9 fun x88 => J.t 1 fun hb89 hb90 => J.C 0 F125 (Zjf _) fun r91 => J.z 2 <| SJ.rg 3 <| J.z 3 <| SJ.inBlock <| J.o rfl
 exact SJ.exit (id := 0) (by rfl) <| J.q <| SJ.done <| ZaM.K1_ok a0 x2 s3 s4
noncomputable def ZaM (a0 : (Option Addr)) : M (Bool × (Option Addr)) :=
 nilck a0 >>= fun p1 =>
 ld (cI .i64) (Addr.add p1 1) >>= fun x2 =>
 Zc7 (fun s_ : (Int × Int) => ZaM.L1 a0 x2 s_.1 s_.2) (0, x2)
theorem ZiK (a0 : (Option Addr)) : Ref Tryz.prog 117 [.pointer a0] (ZaM a0) ZaM.out := by
 refine J.Fn Tryz.func117 ?_
 unfold ZaM
 exact SJ.sr 2 <| J.z 2 <| SJ.sr 6 <| J.n 1 fun p1 => J.l 1 Ty3 fun x2 => J.z 2 <| SJ.sr 2 <| J.z 2 <| SJ.seq <| SJ.block (id := 0) <| J.L (ZaM.L1_ok a0 x2)

/-! ### (*weir/addr.six).read: function 105 -/
noncomputable def Zbe.B : Code := bod Tryz.f105
noncomputable def Zbe.cx : Fx := ⟨Tryz.prog, 105, Tryz.f105, none⟩
noncomputable def Zbe.out (r_ : (Option Addr)) : Value := .pointer r_
noncomputable def Zbe.F1 (a0 : (Option Addr)) : LF Bool (Option Addr) := ⟨[.inBlock 0], c1 (c2 (c2 (c2 Zbe.B))), fun s_ => [(0, .pointer a0), (5, .bool s_)], fun s_ => [], (rt Zbe.out)⟩
noncomputable def Zbe.L1 (a0 : (Option Addr)) (s4 : Bool) : M (LS Bool (Option Addr)) :=
 draw >>= fun _ =>
 nilck a0 >>= fun p5 =>
 ld (cI .i64) (Addr.add p5 1) >>= fun x6 =>
 nilck a0 >>= fun p7 =>
 ld cS p7 >>= fun x8 =>
 (if x6 = (x8.size : Int) then
   pure s4
  else
   pure false) >>= fun y9 =>
 if y9 = true then
  pure (LS.done none)
 else
  ZaM a0 >>= fun r10 =>
  if ¬ (r10.2 = none) then
   pure (LS.done r10.2)
  else
   draw >>= fun _ =>
   (if r10.1 = true then
     pure true
    else
     nilck a0 >>= fun p11 =>
     ld (cI .i64) (Addr.add p11 1) >>= fun x12 =>
     nilck a0 >>= fun p13 =>
     ld cS p13 >>= fun x14 =>
     pure (x12 == (x14.size : Int))) >>= fun y15 =>
   if y15 = true then
    nilck a0 >>= fun p28 =>
    ld (cI .i64) (Addr.add p28 3) >>= fun x29 =>
    (if x29 < 0 then
      nilck a0 >>= fun p30 =>
      ld cL (Addr.add p30 2) >>= fun x31 =>
      pure ((x31.len : Int) != 8)
     else
      pure false) >>= fun y32 =>
    if y32 = true then
     nilck a0 >>= fun p36 =>
     ld cS p36 >>= fun x37 =>
     newv 191 Zbg (⟨42, (x37.size : Int)⟩ : ZbB) >>= fun b38 =>
     pure (LS.done (some (pt b38 0)))
    else
     pure (LS.done none)
   else
    Zcz a0 >>= fun r40 =>
    if ¬ (r40.2 = none) then
     pure (LS.done r40.2)
    else
     if ¬ (r40.1 = true) then
      draw >>= fun _ =>
      nilck a0 >>= fun p57 =>
      ld cS p57 >>= fun x58 =>
      nilck a0 >>= fun p59 =>
      ld (cI .i64) (Addr.add p59 1) >>= fun x60 =>
      chk ((0 : Int) ≤ x60 ∧ x60 < (x58.size : Int)) >>= fun _ =>
      if (sb x58 x60) ≠ 58 then
       nilck a0 >>= fun p66 =>
       ld (cI .i64) (Addr.add p66 1) >>= fun x67 =>
       newv 191 Zbg (⟨41, x67⟩ : ZbB) >>= fun b68 =>
       pure (LS.done (some (pt b68 0)))
      else
       nilck a0 >>= fun p69 =>
       ld (cI .i64) (Addr.add p69 1) >>= fun x70 =>
       nilck a0 >>= fun p71 =>
       st (cI .i64) (Addr.add p71 1) (IntKind.wrap .i64 (x70 + 1)) >>= fun _ =>
       pure (LS.next r40.1)
     else
      pure (LS.next r40.1)
theorem Zbe.L1_ok (a0 : (Option Addr)) : LJ Zbe.cx (Zbe.F1 a0) (fun s_ => Zbe.L1 a0 s_) := by
 rintro s4
 show SJ _ _ _ _ (Zbe.L1 a0 s4) _
 unfold Zbe.L1
 refine SJ.block (id := 1) <| SJ.seq <| SJ.seq <| J.R 13 Zc0 <| J.n 1 fun p5 => J.l 1 Ty3 fun x6 => J.n 1 fun p7 => J.l 1 Ty9 fun x8 => J.j 3 1 .bool ?_ ?_ fun y9 => ?_
 ·exact J.e 2
 ·exact J.e 2
 refine J.z 0 <| J.f ?_ ?_
 ·exact SJ.sr 1 <| J.z 1 <| J.r
 refine SJ.skip <| SJ.sr 7 <| J.C 1 F117 (ZiK _) fun r10 => J.z 5 <| SJ.seq <| SJ.sr 2 <| J.z 2 <| J.f ?_ ?_
 ·exact SJ.sr 2 <| J.z 2 <| J.r
 refine SJ.skip <| SJ.seq <| SJ.seq <| J.R 13 Zc0 <| J.j 2 10 .bool ?_ ?_ fun y15 => ?_
 ·exact J.e 11
 ·exact J.n 1 fun p11 => J.l 1 Ty3 fun x12 => J.n 1 fun p13 => J.l 1 Ty9 fun x14 => J.e 3
 refine J.z 0 <| J.f ?_ ?_
 ·refine SJ.seq <| SJ.sr 13 <| J.n 1 fun p28 => J.l 1 Ty3 fun x29 => J.j 2 6 .bool ?_ ?_ fun y32 => ?_
  ·exact J.n 1 fun p30 => J.l 1 ZiP fun x31 => J.e 3
  ·exact J.e 7
  refine J.z 0 <| J.f ?_ ?_
  ·exact SJ.sr 8 <| J.n 1 fun p36 => J.l 1 Ty9 fun x37 => J.u 1 Zis (.f 0 (Zbi _ 42) (.f 1 (Zbj _ (x37.size : Int)) .nil)) <| J.B 0 fun b38 => J.z 1 <| J.r
  exact SJ.skip <| SJ.sr 1 <| J.z 1 <| J.r
 refine SJ.skip <| SJ.sr 7 <| J.C 1 F116 (ZfA _) fun r40 => J.z 5 <| SJ.seq <| SJ.sr 2 <| J.z 2 <| J.f ?_ ?_
 ·exact SJ.sr 2 <| J.z 2 <| J.r
 refine SJ.skip <| SJ.sr 2 <| J.z 2 <| J.f ?_ ?_
 ·refine SJ.seq <| SJ.seq <| J.R 10 Zc0 <| J.n 1 fun p57 => J.l 1 Ty9 fun x58 => J.n 1 fun p59 => J.l 1 Ty3 fun x60 => J.t 0 fun hb61 hb62 => J.z 1 <| J.f ?_ ?_
  ·exact SJ.sr 7 <| J.n 1 fun p66 => J.l 1 Ty3 fun x67 => J.u 0 Zis (.f 0 (Zbi _ 41) (.f 1 (Zbj _ x67) .nil)) <| J.B 0 fun b68 => J.z 1 <| J.r
  exact SJ.skip <| SJ.rg 8 <| J.n 1 fun p69 => J.l 1 Ty3 fun x70 => J.n 1 fun p71 => J.w 1 Ty3 <| J.z 0 <| SJ.inBlock <| J.o rfl
 exact SJ.skip <| SJ.inBlock <| J.o rfl
noncomputable def Zbe (a0 : (Option Addr)) : M (Option Addr) :=
 Zcz a0 >>= fun r1 =>
 if ¬ (r1.2 = none) then
  pure r1.2
 else
  nilck a0 >>= fun p2 =>
  ld (cI .i64) (Addr.add p2 3) >>= fun x3 =>
  Zc7 (fun s_ : Bool => Zbe.L1 a0 s_) (decide (x3 ≥ 0))
theorem Zjn (a0 : (Option Addr)) : Ref Tryz.prog 105 [.pointer a0] (Zbe a0) Zbe.out := by
 refine J.Fn Tryz.func105 ?_
 unfold Zbe
 refine SJ.sr 1 <| J.z 1 <| SJ.seq <| SJ.sr 7 <| J.C 1 F116 (ZfA _) fun r1 => J.z 5 <| SJ.sr 2 <| J.z 2 <| J.f ?_ ?_
 ·exact SJ.sr 2 <| J.z 2 <| J.r
 exact SJ.skip <| SJ.sr 6 <| J.n 1 fun p2 => J.l 1 Ty3 fun x3 => J.z 2 <| SJ.block (id := 0) <| J.L (Zbe.L1_ok a0)

/-! ### (*weir/addr.six).bytes: function 106 -/
noncomputable def ZaA.B : Code := bod Tryz.f106
noncomputable def ZaA.cx : Fx := ⟨Tryz.prog, 106, Tryz.f106, none⟩
noncomputable def ZaA.out (r_ : (Vec Int 16)) : Value := ((cI .u8).arr 16).val r_
noncomputable def ZaA.F1 (a0 : (Option Addr)) (b1 : Nat) (b2 : Nat) (x4 : Sl) : LF (Int × (Vec Int 16)) (Vec Int 16) := ⟨[.inBlock 0, .code (c2 (c2 (c2 ZaA.B)))], c1 (c2 (c1 (c2 (c2 ZaA.B)))), fun s_ => [(0, .pointer a0), (2, .pointer (some (pt b1 0))), (3, .pointer (some (pt b2 0))), (9, Sl.v x4), (10, .int .i64 (x4.len : Int)), (11, .int .i64 s_.1)], fun s_ => [(b2, ((cI .u8).arr 16).enc s_.2), (b1, ((cI .u8).arr 16).enc (Vec.rep 16 0))], (rt ZaA.out)⟩
noncomputable def ZaA.K1 (s5 : Int) (s6 : (Vec Int 16)) (x26 : Int) (j34 : Int) : M (LS (Int × (Vec Int 16)) (Vec Int 16)) :=
 chk ((0 : Int) ≤ (IntKind.wrap .i64 (2 * j34)) ∧ (IntKind.wrap .i64 (2 * j34)) < (16 : Nat)) >>= fun _ =>
 chk ((0 : Int) ≤ (IntKind.wrap .i64 ((IntKind.wrap .i64 (2 * j34)) + 1)) ∧ (IntKind.wrap .i64 ((IntKind.wrap .i64 (2 * j34)) + 1)) < (16 : Nat)) >>= fun _ =>
 pure (LS.next (IntKind.wrap .i64 (s5 + 1), (Vec.s (Vec.s s6 (IntKind.wrap .i64 (2 * j34)) (IntKind.wrap .u8 (Int.fdiv x26 (2 ^ 8)))) (IntKind.wrap .i64 ((IntKind.wrap .i64 (2 * j34)) + 1)) (IntKind.wrap .u8 x26))))
theorem ZaA.K1_ok (a0 : (Option Addr)) (b1 : Nat) (b2 : Nat) (x4 : Sl) (s5 : Int) (s6 : (Vec Int 16)) (x26 : Int) (j34 : Int) :
  SJ ZaA.cx [.code (c2 (c2 (c1 (c1 (c2 (c2 (c1 (c1 (c2 (c1 (c2 (c2 ZaA.B)))))))))))), .inBlock 1, .code (c2 (c2 (c2 (c1 (c1 (c2 (c1 (c2 (c2 ZaA.B))))))))), .inLoop (c1 (c1 (c2 (c1 (c2 (c2 ZaA.B)))))), .inBlock 0, .code (c2 (c2 (c2 ZaA.B)))] [(0, .pointer a0), (2, .pointer (some (pt b1 0))), (3, .pointer (some (pt b2 0))), (9, Sl.v x4), (10, .int .i64 (x4.len : Int)), (11, .int .i64 s5), (4, .int .i64 j34), (5, .int .i64 x26)] [(b2, ((cI .u8).arr 16).enc s6), (b1, ((cI .u8).arr 16).enc (Vec.rep 16 0))] (ZaA.K1 s5 s6 x26 j34) (ZaA.F1 a0 b1 b2 x4).f := by
 unfold ZaA.K1
 exact SJ.rg 14 <| J.y 10 fun hb35 hb36 => J.s (u := (IntKind.wrap .u8 (Int.fdiv x26 (2 ^ 8)))) 0 0 rfl Ty5 (Upd.zero (Upd.arr hb35 hb36)) <| J.y 0 fun hb37 hb38 => J.s (u := (IntKind.wrap .u8 x26)) 0 0 rfl Ty5 (Upd.zero (Upd.arr hb37 hb38)) <| J.z 0 <| SJ.inBlock <| SJ.rg 2 <| J.z 2 <| J.o rfl
noncomputable def ZaA.L1 (a0 : (Option Addr)) (x4 : Sl) (s5 : Int) (s6 : (Vec Int 16)) : M (LS (Int × (Vec Int 16)) (Vec Int 16)) :=
 if s5 < (x4.len : Int) then
  idx x4.a x4.len s5 1 >>= fun p25 =>
  ld (cI .i64) p25 >>= fun x26 =>
  nilck a0 >>= fun p27 =>
  ld (cI .i64) (Addr.add p27 3) >>= fun x28 =>
  (if x28 ≥ 0 then
    nilck a0 >>= fun p29 =>
    ld (cI .i64) (Addr.add p29 3) >>= fun x30 =>
    pure (decide (s5 ≥ x30))
   else
    pure false) >>= fun y31 =>
  if y31 = true then
   nilck a0 >>= fun p39 =>
   ld cL (Addr.add p39 2) >>= fun x40 =>
   ZaA.K1 s5 s6 x26 (IntKind.wrap .i64 (s5 + (IntKind.wrap .i64 (8 - (x40.len : Int)))))
  else
   ZaA.K1 s5 s6 x26 s5
 else
  pure (LS.done s6)
theorem ZaA.L1_ok (a0 : (Option Addr)) (b1 : Nat) (b2 : Nat) (x4 : Sl) : LJ ZaA.cx (ZaA.F1 a0 b1 b2 x4) (fun s_ => ZaA.L1 a0 x4 s_.1 s_.2) := by
 rintro ⟨s5, s6⟩
 show SJ _ _ _ _ (ZaA.L1 a0 x4 s5 s6) _
 unfold ZaA.L1
 refine SJ.sr 1 <| J.z 1 <| SJ.seq <| J.f ?_ ?_
 ·refine SJ.skip <| SJ.seq <| SJ.block (id := 1) <| SJ.sr 5 <| J.i 1 fun p25 => J.l 0 Ty3 fun x26 => J.z 2 <| SJ.seq <| SJ.sr 13 <| J.n 1 fun p27 => J.l 1 Ty3 fun x28 => J.j 2 6 .bool ?_ ?_ fun y31 => ?_
  ·exact J.n 2 fun p29 => J.l 1 Ty3 fun x30 => J.e 2
  ·exact J.e 7
  refine J.z 0 <| J.f ?_ ?_
  ·exact SJ.rg 9 <| J.n 2 fun p39 => J.l 1 ZiP fun x40 => J.z 4 <| J.q <| ZaA.K1_ok a0 b1 b2 x4 s5 s6 x26 (IntKind.wrap .i64 (s5 + (IntKind.wrap .i64 (8 - (x40.len : Int)))))
  exact SJ.skip <| J.q <| ZaA.K1_ok a0 b1 b2 x4 s5 s6 x26 s5
 exact SJ.exit (id := 0) (by rfl) <| SJ.sr 2 <| J.k 0 0 rfl Ty26 (At.whole _) <| J.s 0 1 rfl Ty26 (Upd.w s6) <| J.z 0 <| J.rc (.c 1 rfl Ty26 .n)
noncomputable def ZaA (a0 : (Option Addr)) : M (Vec Int 16) :=
 slot 26 >>= fun b1 =>
 slot 26 >>= fun b2 =>
 nilck a0 >>= fun p3 =>
 ld cL (Addr.add p3 2) >>= fun x4 =>
 Zc7 (fun s_ : (Int × (Vec Int 16)) => ZaA.L1 a0 x4 s_.1 s_.2) (0, (Vec.rep 16 0))
theorem ZiL (a0 : (Option Addr)) : Ref Tryz.prog 106 [.pointer a0] (ZaA a0) ZaA.out := by
 refine J.Fn Tryz.func106 ?_
 unfold ZaA
 exact SJ.sr 1 <| J.a 0 Ty26 fun b1 => J.z 0 <| SJ.sr 1 <| J.a 0 Ty26 fun b2 => J.z 0 <| SJ.seq <| SJ.sr 6 <| J.n 1 fun p3 => J.l 1 ZiP fun x4 => J.z 2 <| SJ.block (id := 0) <| J.L (ZaA.L1_ok a0 b1 b2 x4)

/-! ### weir/addr.parse: function 93 -/
noncomputable def Zej.out (r_ : (Zbo × (Option Addr))) : Value := .tuple #[ZaX.val r_.1, .pointer r_.2]
noncomputable def Zej (a0 : ByteArray) : M (Zbo × (Option Addr)) :=
 slot 28 >>= fun b1 =>
 if (a0.size : Int) > 45 then
  newv 191 Zbg (⟨2, 45⟩ : ZbB) >>= fun b3 =>
  pure (Zca, (some (pt b3 0)))
 else
  ZcD a0 Zs7 >>= fun r4 =>
  if ¬ (r4 = true) then
   ZaW a0 0 >>= fun r8 =>
   slot 201 >>= fun b9 =>
   if ¬ (r8.2 = none) then
    pure (Zca, r8.2)
   else
    pure ((⟨4, (⟨[(Vec.g r8.1 0 0), (Vec.g r8.1 1 0), (Vec.g r8.1 2 0), (Vec.g r8.1 3 0), 0, 0, 0, 0, 0, 0, 0, 0, 0, 0, 0, 0], rfl⟩ : (Vec Int 16))⟩ : Zbo), none)
  else
   newv 206 Zcq (⟨a0, Zg3.at_, Zg3.groups, (-1)⟩ : Zdh) >>= fun b11 =>
   Zbe (some (pt b11 0)) >>= fun r12 =>
   if ¬ (r12 = none) then
    pure (Zca, r12)
   else
    ZaA (some (pt b11 0)) >>= fun r13 =>
    pure ((⟨6, r13⟩ : Zbo), none)
theorem Zim (a0 : ByteArray) : Ref Tryz.prog 93 [.string a0] (Zej a0) Zej.out := by
 refine J.Fn Tryz.func93 ?_
 unfold Zej
 refine SJ.sr 2 <| J.a 0 Ty28 fun b1 => J.z 1 <| SJ.seq <| SJ.sr 3 <| J.z 3 <| J.f ?_ ?_
 ·exact SJ.sr 5 <| J.u 0 Ty28 .nil <| J.u 0 Zis (.f 0 (Zbi _ 2) (.f 1 (Zbj _ 45) .nil)) <| J.B 0 fun b3 => J.s 0 0 rfl Ty28 (Upd.w Zca) <| J.z 1 <| J.rc (.c 0 rfl Ty28 .n)
 refine SJ.skip <| SJ.seq <| SJ.sr 3 <| J.C 1 F103 (ZhB _ _) fun r4 => J.z 1 <| J.f ?_ ?_
 ·refine SJ.sr 8 <| J.C 1 F104 (Zjg _ _) fun r8 => J.a 3 Zgh fun b9 => J.s 0 0 rfl Zgh (Upd.w r8.1) <| J.z 1 <| SJ.seq <| SJ.sr 2 <| J.z 2 <| J.f ?_ ?_
  ·exact SJ.sr 4 <| J.u 0 Ty28 .nil <| J.s 1 1 rfl Ty28 (Upd.w Zca) <| J.z 1 <| J.rc (.c 1 rfl Ty28 .n)
  exact SJ.skip <| SJ.sr 12 <| J.k 1 0 rfl Ty5 (At.zero (At.arr (z := 0) (i := 0) (n := 4) (by decide) (by decide))) <| J.k 1 0 rfl Ty5 (At.zero (At.arr (z := 0) (i := 1) (n := 4) (by decide) (by decide))) <| J.k 1 0 rfl Ty5 (At.zero (At.arr (z := 0) (i := 2) (n := 4) (by decide) (by decide))) <| J.k 1 0 rfl Ty5 (At.zero (At.arr (z := 0) (i := 3) (n := 4) (by decide) (by decide))) <| OJ.build (d := 34) (T := 26) (parts := [(0, .tmp 27), (1, .tmp 29), (2, .tmp 31), (3, .tmp 33)]) (ps := [(0, (cI .u8).val (Vec.g r8.1 0 0)), (1, (cI .u8).val (Vec.g r8.1 1 0)), (2, (cI .u8).val (Vec.g r8.1 2 0)), (3, (cI .u8).val (Vec.g r8.1 3 0))]) (cd := ((cI .u8).arr 16)) (z0 := (Vec.rep 16 0)) (⟨[(Vec.g r8.1 0 0), (Vec.g r8.1 1 0), (Vec.g r8.1 2 0), (Vec.g r8.1 3 0), 0, 0, 0, 0, 0, 0, 0, 0, 0, 0, 0, 0], rfl⟩ : (Vec Int 16)) Ty26 rfl (ZbW.cons (cd := (cI .u8)) (q := (Vec.g r8.1 0 0)) (o := 0) (by kernel_rfl) (Upd.arr (i := 0) (by decide) (by decide)) (ZbW.cons (cd := (cI .u8)) (q := (Vec.g r8.1 1 0)) (o := 1) (by kernel_rfl) (Upd.arr (i := 1) (by decide) (by decide)) (ZbW.cons (cd := (cI .u8)) (q := (Vec.g r8.1 2 0)) (o := 2) (by kernel_rfl) (Upd.arr (i := 2) (by decide) (by decide)) (ZbW.cons (cd := (cI .u8)) (q := (Vec.g r8.1 3 0)) (o := 3) (by kernel_rfl) (Upd.arr (i := 3) (by decide) (by decide)) ZbW.nil)))) <| J.u 0 Ty28 (.f 0 (ZhX _ 4) (.f 1 (ZhY _ (⟨[(Vec.g r8.1 0 0), (Vec.g r8.1 1 0), (Vec.g r8.1 2 0), (Vec.g r8.1 3 0), 0, 0, 0, 0, 0, 0, 0, 0, 0, 0, 0, 0], rfl⟩ : (Vec Int 16))) .nil)) <| J.s 0 1 rfl Ty28 (Upd.w (⟨4, (⟨[(Vec.g r8.1 0 0), (Vec.g r8.1 1 0), (Vec.g r8.1 2 0), (Vec.g r8.1 3 0), 0, 0, 0, 0, 0, 0, 0, 0, 0, 0, 0, 0], rfl⟩ : (Vec Int 16))⟩ : Zbo)) <| J.z 1 <| J.rc (.c 1 rfl Ty28 .n)
 refine SJ.skip <| SJ.sr 4 <| J.u 1 Ztf (.f 0 (ZlP _ a0) (.f 3 (Zg2 _ (-1)) .nil)) <| J.B 0 fun b11 => J.z 1 <| SJ.seq <| SJ.sr 3 <| J.C 1 F105 (Zjn _) fun r12 => J.z 1 <| SJ.sr 2 <| J.z 2 <| J.f ?_ ?_
 ·exact SJ.sr 4 <| J.u 0 Ty28 .nil <| J.s 1 0 rfl Ty28 (Upd.w Zca) <| J.z 1 <| J.rc (.c 0 rfl Ty28 .n)
 exact SJ.skip <| SJ.sr 5 <| J.C 1 F106 (ZiL _) fun r13 => J.u 0 Ty28 (.f 0 (ZhX _ 6) (.f 1 (ZhY _ r13) .nil)) <| J.s 0 0 rfl Ty28 (Upd.w (⟨6, r13⟩ : Zbo)) <| J.z 1 <| J.rc (.c 0 rfl Ty28 .n)

/-! ### weir/addr.ParsePrefix: function 83 -/
noncomputable def Zam.B : Code := bod Tryz.f83
noncomputable def Zam.cx : Fx := ⟨Tryz.prog, 83, Tryz.f83, none⟩
noncomputable def Zam.out (r_ : (Zab × Int × Int)) : Value := .tuple #[Zaw.val r_.1, .int .i64 r_.2.1, .int .i64 r_.2.2]
noncomputable def Zam.K1 (r3 : (Zbo × (Option Addr))) (j8 : Int) (j17 : (Option Addr)) : M (Zab × Int × Int) :=
 if ¬ (j17 = none) then
  draw >>= fun _ =>
  nilck j17 >>= fun p22 =>
  ld (cI .i64) p22 >>= fun x23 =>
  nilck j17 >>= fun p24 =>
  ld (cI .i64) (Addr.add p24 1) >>= fun x25 =>
  same (cI .i64) (Addr.add p24 1) x25 >>= fun _ =>
  same (cI .i64) p22 x23 >>= fun _ =>
  pure (Zbq, x23, x25)
 else
  pure ((⟨r3.1, j8⟩ : Zab), 0, 0)
theorem Zam.K1_ok (b1 : Nat) (r3 : (Zbo × (Option Addr))) (j8 : Int) (b13 : Nat) (j17 : (Option Addr)) :
  SJ Zam.cx [.code (c2 (c2 (c2 (c2 (c2 (c2 (c2 (c2 (c2 (c2 Zam.B))))))))))] [(2, .pointer (some (pt b1 0))), (9, .pointer j17), (12, .pointer (some (pt b13 0)))] [(b13, Zaw.enc (⟨r3.1, j8⟩ : Zab)), (b1, Zaw.enc Zbq)] (Zam.K1 r3 j8 j17) (rt Zam.out) := by
 unfold Zam.K1
 refine SJ.seq <| SJ.sr 2 <| J.z 2 <| J.f ?_ ?_
 ·exact SJ.seq <| J.R 12 Zc0 <| J.u 0 Ty91 .nil <| J.n 1 fun p22 => J.l 1 Ty49 fun x23 => J.n 1 fun p24 => J.l 1 Ty3 fun x25 => OJ.kst (y := .tmp 2) (z := .tmp 71) (cd := Zaw) (u := Zbq) (j := 1) (b := b1) (o := 0) (Zaw.enc Zbq) (owed := [⟨8, 3, (Addr.add p24 1), (cI .i64).val x25⟩, ⟨4, 49, p22, (cI .i64).val x23⟩]) Ty91 rfl (Upd.whole ((Cod.len _ _).trans (Cod.len _ _).symm)) rfl <| OW.same Ty3 <| OW.same Ty49 <| OW.nil <| J.z 2 <| J.rc (.c 1 rfl Ty91 .n)
 exact SJ.skip <| SJ.sr 4 <| J.k 0 0 rfl Ty91 (At.whole _) <| J.s 0 1 rfl Ty91 (Upd.w (⟨r3.1, j8⟩ : Zab)) <| J.z 2 <| J.rc (.c 1 rfl Ty91 .n)
noncomputable def Zam.K2 (r3 : (Zbo × (Option Addr))) (j8 : Int) (j12 : (Option Addr)) : M (Zab × Int × Int) :=
 slot 91 >>= fun b13 =>
 (if j12 = none then
   ZbU (⟨r3.1, j8⟩ : Zab) >>= fun r14 =>
   pure (r14 != 0)
  else
   pure false) >>= fun y15 =>
 if y15 = true then
  newv 191 Zbg (⟨46, 0⟩ : ZbB) >>= fun b27 =>
  Zam.K1 r3 j8 (some (pt b27 0))
 else
  Zam.K1 r3 j8 j12
theorem Zam.K2_ok (b1 : Nat) (r3 : (Zbo × (Option Addr))) (b4 : Nat) (j8 : Int) (j12 : (Option Addr)) :
  SJ Zam.cx [.code (c2 (c2 (c2 (c2 (c2 (c2 (c2 (c2 Zam.B))))))))] [(2, .pointer (some (pt b1 0))), (8, .pointer (some (pt b4 0))), (9, .pointer j12), (10, .int .i64 j8)] [(b4, ZaX.enc r3.1), (b1, Zaw.enc Zbq)] (Zam.K2 r3 j8 j12) (rt Zam.out) := by
 unfold Zam.K2
 refine SJ.sr 5 <| J.k 0 0 rfl Ty28 (At.whole _) <| J.u 1 Ty91 (.f 0 (ZeY _ r3.1) (.f 1 (Zd3 _ j8) .nil)) <| J.a 0 Ty91 fun b13 => J.s 0 0 rfl Ty91 (Upd.w (⟨r3.1, j8⟩ : Zab)) <| J.z 0 <| SJ.seq <| SJ.sr 7 <| J.j 3 3 .bool ?_ ?_ fun y15 => ?_
 ·exact J.k 0 0 rfl Ty91 (At.whole _) <| J.C 0 F50 (ZdB _) fun r14 => J.e 2
 ·exact J.e 4
 refine J.z 0 <| J.f ?_ ?_
 ·exact SJ.rg 3 <| J.u 0 Zis (.f 0 (Zbi _ 46) (.f 1 (Zbj _ 0) .nil)) <| J.B 0 fun b27 => J.z 1 <| SJ.forget (List.Sublist.cons_cons _ (List.Sublist.cons _ (List.Sublist.cons_cons _ List.Sublist.slnil))) <| J.q <| Zam.K1_ok b1 r3 j8 b13 (some (pt b27 0))
 exact SJ.skip <| SJ.forget (List.Sublist.cons_cons _ (List.Sublist.cons _ (List.Sublist.cons_cons _ List.Sublist.slnil))) <| J.q <| Zam.K1_ok b1 r3 j8 b13 j12
noncomputable def Zam.K3 (a0 : ByteArray) (r3 : (Zbo × (Option Addr))) (j7 : (Option Addr)) (j8 : Int) (j9 : Int) : M (Zab × Int × Int) :=
 (if j7 = none then
   pure (decide (j9 < (a0.size : Int)))
  else
   pure false) >>= fun y10 =>
 if y10 = true then
  newv 191 Zbg (⟨41, j9⟩ : ZbB) >>= fun b29 =>
  Zam.K2 r3 j8 (some (pt b29 0))
 else
  Zam.K2 r3 j8 j7
theorem Zam.K3_ok (a0 : ByteArray) (b1 : Nat) (r3 : (Zbo × (Option Addr))) (b4 : Nat) (j7 : (Option Addr)) (j8 : Int) (j9 : Int) :
  SJ Zam.cx [.code (c2 (c2 (c2 (c2 (c2 (c2 (c2 Zam.B)))))))] [(0, .string a0), (2, .pointer (some (pt b1 0))), (8, .pointer (some (pt b4 0))), (9, .pointer j7), (10, .int .i64 j8), (11, .int .i64 j9)] [(b4, ZaX.enc r3.1), (b1, Zaw.enc Zbq)] (Zam.K3 a0 r3 j7 j8 j9) (rt Zam.out) := by
 unfold Zam.K3
 refine SJ.seq <| SJ.sr 8 <| J.j 3 4 .bool ?_ ?_ fun y10 => ?_
 ·exact J.e 5
 ·exact J.e 5
 refine J.z 0 <| J.f ?_ ?_
 ·exact SJ.rg 4 <| J.u 1 Zis (.f 0 (Zbi _ 41) (.f 1 (Zbj _ j9) .nil)) <| J.B 0 fun b29 => J.z 1 <| J.q <| Zam.K2_ok b1 r3 b4 j8 (some (pt b29 0))
 exact SJ.skip <| J.q <| Zam.K2_ok b1 r3 b4 j8 j7
noncomputable def Zam (a0 : ByteArray) : M (Zab × Int × Int) :=
 slot 91 >>= fun b1 =>
 if (a0.size : Int) > 49 then
  pure (Zbq, 2, 49)
 else
  ZcT a0 Zok >>= fun r2 =>
  if ¬ (r2.2.2 = true) then
   pure (Zbq, 42, (a0.size : Int))
  else
   Zej r2.1 >>= fun r3 =>
   slot 28 >>= fun b4 =>
   if r3.2 = none then
    Zew r3.1 >>= fun r31 =>
    ZaJ a0 (IntKind.wrap .i64 ((r2.1.size : Int) + 1)) r31 45 >>= fun r32 =>
    Zam.K3 a0 r3 r32.2.2 r32.1 r32.2.1
   else
    Zam.K3 a0 r3 r3.2 0 0
theorem ZhU (a0 : ByteArray) : Ref Tryz.prog 83 [.string a0] (Zam a0) Zam.out := by
 refine J.Fn Tryz.func83 ?_
 unfold Zam
 refine SJ.sr 3 <| J.a 0 Ty91 fun b1 => J.z 2 <| SJ.seq <| SJ.sr 3 <| J.z 3 <| J.f ?_ ?_
 ·exact SJ.sr 4 <| J.u 0 Ty91 .nil <| J.s 0 0 rfl Ty91 (Upd.w Zbq) <| J.z 2 <| J.rc (.c 0 rfl Ty91 .n)
 refine SJ.skip <| SJ.sr 9 <| J.C 1 F85 (Zhq _ _) fun r2 => J.z 7 <| SJ.seq <| SJ.sr 2 <| J.z 2 <| J.f ?_ ?_
 ·exact SJ.sr 6 <| J.u 0 Ty91 .nil <| J.s 2 0 rfl Ty91 (Upd.w Zbq) <| J.z 2 <| J.rc (.c 0 rfl Ty91 .n)
 refine SJ.skip <| SJ.sr 8 <| J.C 1 F93 (Zim _) fun r3 => J.a 3 Ty28 fun b4 => J.s 0 0 rfl Ty28 (Upd.w r3.1) <| J.z 1 <| SJ.sr 2 <| J.z 2 <| SJ.seq <| SJ.sr 2 <| J.z 2 <| J.f ?_ ?_
 ·exact SJ.rg 14 <| J.k 4 0 rfl Ty28 (At.whole _) <| J.C 0 F77 (ZgY _) fun r31 => J.C 0 F94 (Zht _ _ _ _) fun r32 => J.z 7 <| J.q <| Zam.K3_ok a0 b1 r3 b4 r32.2.2 r32.1 r32.2.1
 exact SJ.skip <| J.q <| Zam.K3_ok a0 b1 r3 b4 r3.2 0 0

/-! ### weir/addr.ParseIP: function 84 -/
noncomputable def Zdt.out (r_ : (Zbo × Int × Int)) : Value := .tuple #[ZaX.val r_.1, .int .i64 r_.2.1, .int .i64 r_.2.2]
noncomputable def Zdt (a0 : ByteArray) : M (Zbo × Int × Int) :=
 slot 28 >>= fun b1 =>
 Zej a0 >>= fun r2 =>
 slot 28 >>= fun b3 =>
 if ¬ (r2.2 = none) then
  draw >>= fun _ =>
  nilck r2.2 >>= fun p8 =>
  ld (cI .i64) p8 >>= fun x9 =>
  nilck r2.2 >>= fun p10 =>
  ld (cI .i64) (Addr.add p10 1) >>= fun x11 =>
  same (cI .i64) (Addr.add p10 1) x11 >>= fun _ =>
  same (cI .i64) p8 x9 >>= fun _ =>
  pure (Zca, x9, x11)
 else
  pure (r2.1, 0, 0)
theorem Zko (a0 : ByteArray) : Ref Tryz.prog 84 [.string a0] (Zdt a0) Zdt.out := by
 refine J.Fn Tryz.func84 ?_
 unfold Zdt
 refine SJ.sr 3 <| J.a 0 Ty28 fun b1 => J.z 2 <| SJ.sr 8 <| J.C 1 F93 (Zim _) fun r2 => J.a 3 Ty28 fun b3 => J.s 0 0 rfl Ty28 (Upd.w r2.1) <| J.z 1 <| SJ.seq <| SJ.sr 2 <| J.z 2 <| J.f ?_ ?_
 ·exact SJ.seq <| J.R 12 Zc0 <| J.u 0 Ty28 .nil <| J.n 1 fun p8 => J.l 1 Ty49 fun x9 => J.n 1 fun p10 => J.l 1 Ty3 fun x11 => OJ.kst (y := .tmp 2) (z := .tmp 14) (cd := ZaX) (u := Zca) (j := 1) (b := b1) (o := 0) (ZaX.enc Zca) (owed := [⟨8, 3, (Addr.add p10 1), (cI .i64).val x11⟩, ⟨4, 49, p8, (cI .i64).val x9⟩]) Ty28 rfl (Upd.whole ((Cod.len _ _).trans (Cod.len _ _).symm)) rfl <| OW.same Ty3 <| OW.same Ty49 <| OW.nil <| J.z 2 <| J.rc (.c 1 rfl Ty28 .n)
 exact SJ.skip <| SJ.sr 4 <| J.k 0 0 rfl Ty28 (At.whole _) <| J.s 0 1 rfl Ty28 (Upd.w r2.1) <| J.z 2 <| J.rc (.c 1 rfl Ty28 .n)

/-! ### (*weir/rules.reader).net: function 68 -/
noncomputable def Zat.B : Code := bod Tryz.f68
noncomputable def Zat.cx : Fx := ⟨Tryz.prog, 68, Tryz.f68, none⟩
noncomputable def Zat.out (r_ : Zab) : Value := Zaw.val r_
noncomputable def Zat.K1 (a0 : (Option Addr)) (a1 : Int) (r2 : Zay) (j10 : Int) (j11 : Zab) : M Zab :=
 draw >>= fun _ =>
 nilck a0 >>= fun p12 =>
 ld (cI .i64) (Addr.add p12 19) >>= fun x13 =>
 (if x13 = 0 then
   (if j10 ≠ 0 then
     pure true
    else
     pure (a1 == 16)) >>= fun y14 =>
   (if y14 = true then
     pure true
    else
     nilck a0 >>= fun p15 =>
     ld (cI .i64) (Addr.add (Addr.add p15 3) 2) >>= fun x16 =>
     Zc4 j11 x16 >>= fun r17 =>
     pure (!r17)) >>= fun y18 =>
   pure y18
  else
   pure false) >>= fun y19 =>
 if y19 = true then
  ZaN a0 163 r2.at_ >>= fun r21 =>
  pure j11
 else
  pure j11
theorem Zat.K1_ok (a0 : (Option Addr)) (a1 : Int) (b1 : Nat) (r2 : Zay) (b3 : Nat) (b5 : Nat) (j10 : Int) (j11 : Zab) :
  SJ Zat.cx [.code (c2 (c2 (c2 (c2 Zat.B))))] [(0, .pointer a0), (1, .int .i64 a1), (4, .pointer (some (pt b1 0))), (5, .pointer (some (pt b3 0))), (6, .pointer (some (pt b5 0))), (7, .int .i64 j10)] [(b5, Zaw.enc j11), (b3, Zbc.enc r2), (b1, Zaw.enc Zbq)] (Zat.K1 a0 a1 r2 j10 j11) (rt Zat.out) := by
 unfold Zat.K1
 refine SJ.seq <| SJ.seq <| J.R 23 Zc0 <| J.n 1 fun p12 => J.l 1 Ty49 fun x13 => J.g 2 <| OJ.join (b := (x13 == 0)) [6, 7, 8, 9, 10, 11, 12, 13, 14, 15, 16, 17, 18, 19, 20, 21, 22] [] [0, 4, 5, 6, 59] (fun y19 => [(0, .pointer a0), (4, .pointer (some (pt b1 0))), (5, .pointer (some (pt b3 0))), (6, .pointer (some (pt b5 0))), (59, .bool y19)]) [⟨3, 49, (Addr.add p12 19), (cI .i64).val x13⟩] [13, 18] (t := 42) beq_iff_eq (fun hp_ => ?_) (fun hp_ => ?_) (fun _ _ _ _ _ _ h_ => h_) fun y19 => ?_
 ·refine J.g 3 <| OJ.join (b := (j10 != 0)) [9, 10, 11] [12, 13, 14, 15, 16, 17, 18, 19, 20, 21, 22] [0, 4, 5, 6, 42, 48] (fun y14 => [(0, .pointer a0), (4, .pointer (some (pt b1 0))), (5, .pointer (some (pt b3 0))), (6, .pointer (some (pt b5 0))), (42, .bool true), (48, .bool y14)]) [⟨3, 49, (Addr.add p12 19), (cI .i64).val x13⟩] [] (t := 45) bne_iff_ne (fun hp_ => ?_) (fun hp_ => ?_) (fun _ _ _ _ _ hq_ h_ => ⟨fun e_ he_ => (hq_ e_ he_).elim (fun h => h_.1 e_ h) (fun h => nomatch h), h_.2⟩) fun y14 => ?_
  ·exact J.g 3 <| OJ.nil ⟨(Cov.mem (Cov.keep (List.mem_of_getElem? (i := 0) rfl) Cov.nil)), rfl, _, rfl, by kernel_rfl⟩
  ·exact J.g 3 <| OJ.nil ⟨(Cov.mem (Cov.keep (List.mem_of_getElem? (i := 0) rfl) Cov.nil)), rfl, _, rfl, by kernel_rfl⟩
  refine J.g 1 <| OJ.join (b := y14) [13, 14, 15, 16, 17, 18, 19, 20, 21] [22] [0, 4, 5, 6, 42, 58] (fun y18 => [(0, .pointer a0), (4, .pointer (some (pt b1 0))), (5, .pointer (some (pt b3 0))), (6, .pointer (some (pt b5 0))), (42, .bool true), (58, .bool y18)]) [⟨3, 49, (Addr.add p12 19), (cI .i64).val x13⟩] [13, 18] (t := 49) Iff.rfl (fun hp_ => ?_) (fun hp_ => ?_) (fun _ _ _ _ _ hq_ h_ => ⟨fun e_ he_ => by rcases hq_ e_ he_ with h | h; exact h_.1 e_ h; exact .inr ((by decide : ∀ i ∈ [13, 18], i ∈ [13, 18]) _ h), h_.2⟩) fun y18 => ?_
  ·exact J.g 9 <| OJ.nil ⟨(Cov.mem (Cov.keep (List.mem_of_getElem? (i := 0) rfl) Cov.nil)), rfl, _, rfl, by kernel_rfl⟩
  ·exact J.k 0 0 rfl Ty91 (At.whole _) <| J.n 1 fun p15 => J.l 2 Ty3 fun x16 => J.C 0 F31 (Zgn _ _) fun r17 => J.g 2 <| OJ.nil ⟨(Cov.mem (Cov.drop (List.mem_of_getElem? (i := 1) rfl) (Cov.drop (List.mem_of_getElem? (i := 0) rfl) (Cov.keep (List.mem_of_getElem? (i := 0) rfl) Cov.nil)))), rfl, _, rfl, by kernel_rfl⟩
  exact J.g 1 <| OJ.nil ⟨(Cov.mem (Cov.keep (List.mem_of_getElem? (i := 0) rfl) Cov.nil)), rfl, _, rfl, by kernel_rfl⟩
 ·exact J.g 17 <| OJ.nil ⟨(Cov.mem (Cov.keep (List.mem_of_getElem? (i := 0) rfl) Cov.nil)), rfl, _, rfl, by kernel_rfl⟩
 refine J.z 0 <| J.f ?_ ?_
 ·exact SJ.rg 4 <| J.k 2 1 rfl Ty3 (Zbt _) <| J.C 0 F27 (Za6 _ _ _) fun r21 => J.z 0 <| SJ.sr 2 <| J.k 0 0 rfl Ty91 (At.whole _) <| J.s 0 2 rfl Ty91 (Upd.w j11) <| J.z 0 <| J.rc (.c 2 rfl Ty91 .n)
 exact SJ.skip <| SJ.sr 2 <| J.k 0 0 rfl Ty91 (At.whole _) <| J.s 0 2 rfl Ty91 (Upd.w j11) <| J.z 0 <| J.rc (.c 2 rfl Ty91 .n)
noncomputable def Zat.K2 (a0 : (Option Addr)) (a1 : Int) (r2 : Zay) (r23 : (Zbo × Int × Int)) (j25 : Zab) : M Zab :=
 Zat.K1 a0 a1 r2 r23.2.1 j25
theorem Zat.K2_ok (a0 : (Option Addr)) (a1 : Int) (b1 : Nat) (r2 : Zay) (b3 : Nat) (b5 : Nat) (r23 : (Zbo × Int × Int)) (j25 : Zab) :
  SJ Zat.cx [.code (c2 (c2 (c2 (c2 Zat.B))))] [(0, .pointer a0), (1, .int .i64 a1), (4, .pointer (some (pt b1 0))), (5, .pointer (some (pt b3 0))), (6, .pointer (some (pt b5 0))), (7, .int .i64 r23.2.1)] [(b5, Zaw.enc j25), (b3, Zbc.enc r2), (b1, Zaw.enc Zbq)] (Zat.K2 a0 a1 r2 r23 j25) (rt Zat.out) := by
 unfold Zat.K2
 exact J.q <| Zat.K1_ok a0 a1 b1 r2 b3 b5 r23.2.1 j25
noncomputable def Zat (a0 : (Option Addr)) (a1 : Int) : M Zab :=
 slot 91 >>= fun b1 =>
 ZbG a0 >>= fun r2 =>
 slot 102 >>= fun b3 =>
 Zam r2.s >>= fun r4 =>
 slot 91 >>= fun b5 =>
 if r4.2.1 ≠ 0 then
  Zdt r2.s >>= fun r23 =>
  slot 28 >>= fun b24 =>
  if r23.1.V = 6 then
   Zat.K2 a0 a1 r2 r23 (⟨r23.1, 128⟩ : Zab)
  else
   Zat.K2 a0 a1 r2 r23 (⟨r23.1, 32⟩ : Zab)
 else
  Zat.K1 a0 a1 r2 r4.2.1 r4.1
theorem ZhE (a0 : (Option Addr)) (a1 : Int) : Ref Tryz.prog 68 [.pointer a0, .int .i64 a1] (Zat a0 a1) Zat.out := by
 refine J.Fn Tryz.func68 ?_
 unfold Zat
 refine SJ.sr 1 <| J.a 0 Ty91 fun b1 => J.z 0 <| SJ.sr 4 <| J.C 1 F64 (ZcI _) fun r2 => J.a 0 Zdr fun b3 => J.s 0 0 rfl Zdr (Upd.w r2) <| J.z 0 <| SJ.sr 11 <| J.k 1 0 rfl Ty9 (Zbb _) <| J.C 0 F83 (ZhU _) fun r4 => J.a 4 Ty91 fun b5 => J.s 0 0 rfl Ty91 (Upd.w r4.1) <| J.z 2 <| SJ.seq <| SJ.sr 2 <| J.z 2 <| J.f ?_ ?_
 ·refine SJ.sr 11 <| J.k 1 1 rfl Ty9 (Zbb _) <| J.C 0 F84 (Zko _) fun r23 => J.a 4 Ty28 fun b24 => J.s 0 0 rfl Ty28 (Upd.w r23.1) <| J.z 2 <| SJ.sr 5 <| J.k 0 0 rfl Ty28 (At.whole _) <| J.u 0 Ty91 (.f 0 (ZeY _ r23.1) (.f 1 (Zd3 _ 32) .nil)) <| J.s 1 1 rfl Ty91 (Upd.w (⟨r23.1, 32⟩ : Zab)) <| J.z 1 <| SJ.sr 3 <| J.k 1 0 rfl Ty3 (Zde _) <| J.z 1 <| J.f ?_ ?_
  ·exact SJ.rg 2 <| J.s 1 1 rfl Ty3 (Zd3 _ 128) <| J.z 0 <| SJ.forget (List.Sublist.cons _ (List.Sublist.cons_cons _ (List.Sublist.cons_cons _ (List.Sublist.cons_cons _ List.Sublist.slnil)))) <| J.q <| Zat.K2_ok a0 a1 b1 r2 b3 b5 r23 (⟨r23.1, 128⟩ : Zab)
  exact SJ.skip <| SJ.forget (List.Sublist.cons _ (List.Sublist.cons_cons _ (List.Sublist.cons_cons _ (List.Sublist.cons_cons _ List.Sublist.slnil)))) <| J.q <| Zat.K2_ok a0 a1 b1 r2 b3 b5 r23 (⟨r23.1, 32⟩ : Zab)
 exact SJ.skip <| J.q <| Zat.K1_ok a0 a1 b1 r2 b3 b5 r4.2.1 r4.1

/-! ### (*weir/rules.reader).ports: function 69 -/
noncomputable def ZaK.B : Code := bod Tryz.f69
noncomputable def ZaK.cx : Fx := ⟨Tryz.prog, 69, Tryz.f69, none⟩
noncomputable def ZaK.out (r_ : Zaz) : Value := ZaV.val r_
noncomputable def ZaK.K1 (a0 : (Option Addr)) (a1 : Int) (r2 : Zay) (r4 : (ByteArray × ByteArray × Bool)) (j5 : ByteArray) : M Zaz :=
 Za1 r4.1 0 65535 >>= fun r6 =>
 Za1 j5 0 65535 >>= fun r7 =>
 nilck a0 >>= fun p8 =>
 ld (cI .i64) (Addr.add p8 19) >>= fun x9 =>
 (if x9 = 0 then
   (if ¬ (r6.2 = true) then
     pure true
    else
     pure (!r7.2)) >>= fun y10 =>
   (if y10 = true then
     pure true
    else
     pure (decide (r6.1 > r7.1))) >>= fun y11 =>
   (if y11 = true then
     pure true
    else
     pure (a1 == 16)) >>= fun y12 =>
   pure y12
  else
   pure false) >>= fun y13 =>
 if y13 = true then
  ZaN a0 164 r2.at_ >>= fun r15 =>
  pure (⟨r6.1, r7.1⟩ : Zaz)
 else
  pure (⟨r6.1, r7.1⟩ : Zaz)
theorem ZaK.K1_ok (a0 : (Option Addr)) (a1 : Int) (b1 : Nat) (r2 : Zay) (b3 : Nat) (r4 : (ByteArray × ByteArray × Bool)) (j5 : ByteArray) :
  SJ ZaK.cx [.code (c2 (c2 (c2 (c2 ZaK.B))))] [(0, .pointer a0), (1, .int .i64 a1), (4, .pointer (some (pt b1 0))), (5, .pointer (some (pt b3 0))), (6, .string r4.1), (7, .string j5)] [(b3, Zbc.enc r2), (b1, ZaV.enc Zfc)] (ZaK.K1 a0 a1 r2 r4 j5) (rt ZaK.out) := by
 unfold ZaK.K1
 refine SJ.sr 7 <| J.C 1 F65 (Zer _ _ _) fun r6 => J.z 5 <| SJ.sr 7 <| J.C 1 F65 (Zer _ _ _) fun r7 => J.z 5 <| SJ.seq <| SJ.sr 22 <| J.n 1 fun p8 => J.l 1 Ty49 fun x9 => J.g 2 <| OJ.join (b := (x9 == 0)) [6, 7, 8, 9, 10, 11, 12, 13, 14, 15, 16, 17, 18, 19, 20, 21] [] [0, 4, 5, 9, 11, 56] (fun y13 => [(0, .pointer a0), (4, .pointer (some (pt b1 0))), (5, .pointer (some (pt b3 0))), (9, .int .i64 r6.1), (11, .int .i64 r7.1), (56, .bool y13)]) [] [] (t := 40) beq_iff_eq (fun hp_ => ?_) (fun hp_ => ?_) (fun _ _ _ _ _ _ h_ => h_) fun y13 => ?_
 ·refine J.g 3 <| OJ.join (b := (!r6.2)) [9, 10, 11] [12, 13, 14, 15, 16, 17, 18, 19, 20, 21] [0, 1, 4, 5, 9, 11, 40, 46] (fun y10 => [(0, .pointer a0), (1, .int .i64 a1), (4, .pointer (some (pt b1 0))), (5, .pointer (some (pt b3 0))), (9, .int .i64 r6.1), (11, .int .i64 r7.1), (40, .bool true), (46, .bool y10)]) [] [] (t := 43) (ZlM Iff.rfl) (fun hp_ => ?_) (fun hp_ => ?_) (fun _ _ _ _ _ hq_ h_ => ⟨fun e_ he_ => (hq_ e_ he_).elim (fun h => h_.1 e_ h) (fun h => nomatch h), h_.2⟩) fun y10 => ?_
  ·exact J.g 3 <| OJ.nil ⟨(Cov.mem Cov.nil), rfl, _, rfl, by kernel_rfl⟩
  ·exact J.g 3 <| OJ.nil ⟨(Cov.mem Cov.nil), rfl, _, rfl, by kernel_rfl⟩
  refine J.g 1 <| OJ.join (b := y10) [13, 14, 15, 16] [17, 18, 19, 20, 21] [0, 1, 4, 5, 9, 11, 40, 51] (fun y11 => [(0, .pointer a0), (1, .int .i64 a1), (4, .pointer (some (pt b1 0))), (5, .pointer (some (pt b3 0))), (9, .int .i64 r6.1), (11, .int .i64 r7.1), (40, .bool true), (51, .bool y11)]) [] [] (t := 47) Iff.rfl (fun hp_ => ?_) (fun hp_ => ?_) (fun _ _ _ _ _ hq_ h_ => ⟨fun e_ he_ => (hq_ e_ he_).elim (fun h => h_.1 e_ h) (fun h => nomatch h), h_.2⟩) fun y11 => ?_
  ·exact J.g 4 <| OJ.nil ⟨(Cov.mem Cov.nil), rfl, _, rfl, by kernel_rfl⟩
  ·exact J.g 4 <| OJ.nil ⟨(Cov.mem Cov.nil), rfl, _, rfl, by kernel_rfl⟩
  refine J.g 1 <| OJ.join (b := y11) [18, 19, 20] [21] [0, 4, 5, 9, 11, 40, 55] (fun y12 => [(0, .pointer a0), (4, .pointer (some (pt b1 0))), (5, .pointer (some (pt b3 0))), (9, .int .i64 r6.1), (11, .int .i64 r7.1), (40, .bool true), (55, .bool y12)]) [] [] (t := 52) Iff.rfl (fun hp_ => ?_) (fun hp_ => ?_) (fun _ _ _ _ _ hq_ h_ => ⟨fun e_ he_ => (hq_ e_ he_).elim (fun h => h_.1 e_ h) (fun h => nomatch h), h_.2⟩) fun y12 => ?_
  ·exact J.g 3 <| OJ.nil ⟨(Cov.mem Cov.nil), rfl, _, rfl, by kernel_rfl⟩
  ·exact J.g 3 <| OJ.nil ⟨(Cov.mem Cov.nil), rfl, _, rfl, by kernel_rfl⟩
  exact J.g 1 <| OJ.nil ⟨(Cov.mem Cov.nil), rfl, _, rfl, by kernel_rfl⟩
 ·exact J.g 16 <| OJ.nil ⟨(Cov.mem Cov.nil), rfl, _, rfl, by kernel_rfl⟩
 refine J.z 0 <| J.f ?_ ?_
 ·exact SJ.rg 4 <| J.k 2 0 rfl Ty3 (Zbt _) <| J.C 0 F27 (Za6 _ _ _) fun r15 => J.z 0 <| SJ.sr 4 <| J.u 2 Ty93 (.f 0 (Zex _ r6.1) (.f 1 (Zey _ r7.1) .nil)) <| J.s 0 1 rfl Ty93 (Upd.w (⟨r6.1, r7.1⟩ : Zaz)) <| J.z 0 <| J.rc (.c 1 rfl Ty93 .n)
 exact SJ.skip <| SJ.sr 4 <| J.u 2 Ty93 (.f 0 (Zex _ r6.1) (.f 1 (Zey _ r7.1) .nil)) <| J.s 0 1 rfl Ty93 (Upd.w (⟨r6.1, r7.1⟩ : Zaz)) <| J.z 0 <| J.rc (.c 1 rfl Ty93 .n)
noncomputable def ZaK (a0 : (Option Addr)) (a1 : Int) : M Zaz :=
 slot 93 >>= fun b1 =>
 ZbG a0 >>= fun r2 =>
 slot 102 >>= fun b3 =>
 ZcT r2.s ZrJ >>= fun r4 =>
 if ¬ (r4.2.2 = true) then
  ZaK.K1 a0 a1 r2 r4 r4.1
 else
  ZaK.K1 a0 a1 r2 r4 r4.2.1
theorem ZgB (a0 : (Option Addr)) (a1 : Int) : Ref Tryz.prog 69 [.pointer a0, .int .i64 a1] (ZaK a0 a1) ZaK.out := by
 refine J.Fn Tryz.func69 ?_
 unfold ZaK
 refine SJ.sr 1 <| J.a 0 Ty93 fun b1 => J.z 0 <| SJ.sr 4 <| J.C 1 F64 (ZcI _) fun r2 => J.a 0 Zdr fun b3 => J.s 0 0 rfl Zdr (Upd.w r2) <| J.z 0 <| SJ.sr 10 <| J.k 1 0 rfl Ty9 (Zbb _) <| J.C 0 F85 (Zhq _ _) fun r4 => J.z 7 <| SJ.seq <| SJ.sr 2 <| J.z 2 <| J.f ?_ ?_
 ·exact SJ.rg 2 <| J.z 2 <| J.q <| ZaK.K1_ok a0 a1 b1 r2 b3 r4 r4.1
 exact SJ.skip <| J.q <| ZaK.K1_ok a0 a1 b1 r2 b3 r4 r4.2.1

/-! ### (*weir/rules.reader).side: function 43 -/
noncomputable def Zaa.B : Code := bod Tryz.f43
noncomputable def Zaa.cx : Fx := ⟨Tryz.prog, 43, Tryz.f43, none⟩
noncomputable def Zaa.out (r_ : Zaj) : Value := ZaC.val r_
noncomputable def Zaa.F1 (a0 : (Option Addr)) (b1 : Nat) (b2 : Nat) : LF (Bool × Zaj) Zaj := ⟨[.inBlock 2, .code (c2 (c2 (c2 (c2 (c2 (c2 Zaa.B))))))], c1 (c2 (c1 (c2 (c2 (c2 (c2 (c2 Zaa.B))))))), fun s_ => [(0, .pointer a0), (2, .pointer (some (pt b1 0))), (3, .pointer (some (pt b2 0))), (5, .bool s_.1)], fun s_ => [(b2, ZaC.enc s_.2), (b1, ZaC.enc ZaT)], (rt Zaa.out)⟩
noncomputable def Zaa.L1 (a0 : (Option Addr)) (s35 : Bool) (s36 : Zaj) : M (LS (Bool × Zaj) Zaj) :=
 (if s35 = true then
   nilck a0 >>= fun p45 =>
   ld (cI .i64) (Addr.add p45 19) >>= fun x46 =>
   pure (x46 == 0)
  else
   pure false) >>= fun y47 =>
 if y47 = true then
  draw >>= fun _ =>
  ZaK a0 (s36.Ports.len : Int) >>= fun r48 =>
  slot 93 >>= fun b49 =>
  appl ZaV 93 16 Zfc s36.Ports [r48] >>= fun r50 =>
  Za9 a0 str1 >>= fun r51 =>
  pure (LS.next (r51, (⟨s36.Not, s36.Nets, r50⟩ : Zaj)))
 else
  pure (LS.done s36)
theorem Zaa.L1_ok (a0 : (Option Addr)) (b1 : Nat) (b2 : Nat) : LJ Zaa.cx (Zaa.F1 a0 b1 b2) (fun s_ => Zaa.L1 a0 s_.1 s_.2) := by
 rintro ⟨s35, s36⟩
 show SJ _ _ _ _ (Zaa.L1 a0 s35 s36) _
 unfold Zaa.L1
 refine SJ.seq <| SJ.sr 8 <| J.j 2 5 .bool ?_ ?_ fun y47 => ?_
 ·exact J.n 1 fun p45 => J.l 1 Ty49 fun x46 => J.e 2
 ·exact J.e 6
 refine J.z 0 <| J.f ?_ ?_
 ·exact SJ.skip <| SJ.seq <| SJ.block (id := 3) <| J.R 11 Zc0 <| J.k 1 0 rfl Ty59 (ZaU _) <| J.k 2 0 rfl Ty59 (ZaU _) <| J.g 1 <| OJ.call (d := 73) (g := 69) (ats := #[97, 3]) (args := [.tmp 69, .tmp 72]) (owed := [⟨1, 59, (pt b2 2), cL.val s36.Ports⟩]) F69 (ZgB a0 (s36.Ports.len : Int)) fun r48 => OW.known (j := 0) (q := s36.Ports) Ty59 rfl (ZaU s36) <| OW.nil <| OJ.rowSlot (d := 74) (t := 59) (parts := [(0, .tmp 73)]) (ps := [(0, ZaV.val r48)]) (cd := ZaV) (⟨[r48], rfl⟩ : Vec Zaz 1) (owed := [⟨1, 59, (pt b2 2), cL.val s36.Ports⟩]) Ty93 (ZbW.cons (cd := ZaV) (q := r48) (o := 0) rfl (Upd.arr (i := 0) (by decide) (by decide)) ZbW.nil) fun b49 => OW.known (j := 1) (q := s36.Ports) Ty59 rfl (ZaU s36) <| OW.nil <| J.p 0 0 rfl Ty93 fun r50 => J.s 1 1 rfl Ty59 (Zd1 _ r50) <| J.z 0 <| SJ.inBlock <| SJ.rg 3 <| J.C 1 F38 (Zb5 _ _) fun r51 => J.z 1 <| SJ.forget (List.Sublist.cons _ (List.Sublist.cons_cons _ (List.Sublist.cons_cons _ List.Sublist.slnil))) <| J.o rfl
 exact SJ.exit (id := 2) (by rfl) <| SJ.sr 2 <| J.k 0 0 rfl Ty61 (At.whole _) <| J.s 0 1 rfl Ty61 (Upd.w s36) <| J.z 0 <| J.rc (.c 1 rfl Ty61 .n)
noncomputable def Zaa.K1 (a0 : (Option Addr)) (j23 : Zaj) : M Zaj :=
 Zc7 (fun s_ : (Bool × Zaj) => Zaa.L1 a0 s_.1 s_.2) (true, j23)
theorem Zaa.K1_ok (a0 : (Option Addr)) (b1 : Nat) (b2 : Nat) (j23 : Zaj) :
  SJ Zaa.cx [.code (c2 (c2 (c2 (c2 (c2 Zaa.B)))))] [(0, .pointer a0), (2, .pointer (some (pt b1 0))), (3, .pointer (some (pt b2 0)))] [(b2, ZaC.enc j23), (b1, ZaC.enc ZaT)] (Zaa.K1 a0 j23) (rt Zaa.out) := by
 unfold Zaa.K1
 exact SJ.seq <| SJ.sr 1 <| J.z 1 <| SJ.block (id := 2) <| J.L (Zaa.L1_ok a0 b1 b2)
noncomputable def Zaa.K2 (a0 : (Option Addr)) (j23 : Zaj) : M Zaj :=
 Za9 a0 Zsr >>= fun r24 =>
 if ¬ (r24 = true) then
  pure j23
 else
  nilck a0 >>= fun p25 =>
  ld (cI .i64) (Addr.add (Addr.add p25 3) 3) >>= fun x26 =>
  Zds x26 >>= fun r27 =>
  if ¬ (r27 = true) then
   draw >>= fun _ =>
   nilck a0 >>= fun p53 =>
   ld cL p53 >>= fun x54 =>
   nilck a0 >>= fun p55 =>
   ld (cI .i64) (Addr.add p55 1) >>= fun x56 =>
   idx x54.a x54.len (IntKind.wrap .i64 (x56 - 1)) 2 >>= fun p57 =>
   ld (cI .i64) (Addr.add p57 1) >>= fun x58 =>
   ZaN a0 165 x58 >>= fun r59 =>
   Zaa.K1 a0 j23
  else
   Zaa.K1 a0 j23
theorem Zaa.K2_ok (a0 : (Option Addr)) (b1 : Nat) (b2 : Nat) (j23 : Zaj) :
  SJ Zaa.cx [.code (c2 (c2 (c2 Zaa.B)))] [(0, .pointer a0), (2, .pointer (some (pt b1 0))), (3, .pointer (some (pt b2 0)))] [(b2, ZaC.enc j23), (b1, ZaC.enc ZaT)] (Zaa.K2 a0 j23) (rt Zaa.out) := by
 unfold Zaa.K2
 refine SJ.seq <| SJ.sr 3 <| J.C 1 F38 (Zb5 _ _) fun r24 => J.z 1 <| J.f ?_ ?_
 ·exact SJ.sr 2 <| J.k 0 0 rfl Ty61 (At.whole _) <| J.s 0 1 rfl Ty61 (Upd.w j23) <| J.z 0 <| J.rc (.c 1 rfl Ty61 .n)
 refine SJ.skip <| SJ.seq <| SJ.sr 7 <| J.n 1 fun p25 => J.l 2 Ty3 fun x26 => J.C 0 F32 (ZgD _) fun r27 => J.z 1 <| J.f ?_ ?_
 ·exact J.R 14 Zc0 <| J.n 2 fun p53 => J.l 1 Ty94 fun x54 => J.n 1 fun p55 => J.l 1 Ty3 fun x56 => J.i 1 fun p57 => J.l 1 Ty3 fun x58 => J.C 0 F27 (Za6 _ _ _) fun r59 => J.z 0 <| J.q <| Zaa.K1_ok a0 b1 b2 j23
 exact SJ.skip <| J.q <| Zaa.K1_ok a0 b1 b2 j23
noncomputable def Zaa.K3 (a0 : (Option Addr)) (s64 : Zaj) : M Zaj :=
 Zaa.K2 a0 s64
theorem Zaa.K3_ok (a0 : (Option Addr)) (b1 : Nat) (b2 : Nat) (s64 : Zaj) :
  SJ Zaa.cx [.code (c2 (c2 (c2 Zaa.B)))] [(0, .pointer a0), (2, .pointer (some (pt b1 0))), (3, .pointer (some (pt b2 0)))] [(b2, ZaC.enc s64), (b1, ZaC.enc ZaT)] (Zaa.K3 a0 s64) (rt Zaa.out) := by
 unfold Zaa.K3
 exact J.q <| Zaa.K2_ok a0 b1 b2 s64
noncomputable def Zaa.F2 (a0 : (Option Addr)) (b1 : Nat) (b2 : Nat) : LF (Bool × Zaj) Zaj := ⟨[.inBlock 0, .code (c2 (c2 (c2 Zaa.B)))], c1 (c2 (c2 (c1 (c2 (c1 (c2 (c2 Zaa.B))))))), fun s_ => [(0, .pointer a0), (2, .pointer (some (pt b1 0))), (3, .pointer (some (pt b2 0))), (4, .bool s_.1)], fun s_ => [(b2, ZaC.enc s_.2), (b1, ZaC.enc ZaT)], (rt Zaa.out)⟩
noncomputable def Zaa.L2 (a0 : (Option Addr)) (s63 : Bool) (s64 : Zaj) : M (LS (Bool × Zaj) Zaj) :=
 (if s63 = true then
   nilck a0 >>= fun p73 =>
   ld (cI .i64) (Addr.add p73 19) >>= fun x74 =>
   pure (x74 == 0)
  else
   pure false) >>= fun y75 =>
 if y75 = true then
  draw >>= fun _ =>
  Zat a0 (s64.Nets.len : Int) >>= fun r76 =>
  slot 91 >>= fun b77 =>
  appl Zaw 91 32 Zbq s64.Nets [r76] >>= fun r78 =>
  Za9 a0 str1 >>= fun r79 =>
  pure (LS.next (r79, (⟨s64.Not, r78, s64.Ports⟩ : Zaj)))
 else
  (Zaa.K3 a0 s64) >>= fun b => pure (LS.done b)
theorem Zaa.L2_ok (a0 : (Option Addr)) (b1 : Nat) (b2 : Nat) : LJ Zaa.cx (Zaa.F2 a0 b1 b2) (fun s_ => Zaa.L2 a0 s_.1 s_.2) := by
 rintro ⟨s63, s64⟩
 show SJ _ _ _ _ (Zaa.L2 a0 s63 s64) _
 unfold Zaa.L2
 refine SJ.seq <| SJ.sr 8 <| J.j 2 5 .bool ?_ ?_ fun y75 => ?_
 ·exact J.n 1 fun p73 => J.l 1 Ty49 fun x74 => J.e 2
 ·exact J.e 6
 refine J.z 0 <| J.f ?_ ?_
 ·exact SJ.skip <| SJ.seq <| SJ.block (id := 1) <| J.R 11 Zc0 <| J.k 1 0 rfl Ty58 (Zav _) <| J.k 2 0 rfl Ty58 (Zav _) <| J.g 1 <| OJ.call (d := 28) (g := 68) (ats := #[97, 3]) (args := [.tmp 24, .tmp 27]) (owed := [⟨1, 58, (pt b2 1), cL.val s64.Nets⟩]) F68 (ZhE a0 (s64.Nets.len : Int)) fun r76 => OW.known (j := 0) (q := s64.Nets) Ty58 rfl (Zav s64) <| OW.nil <| OJ.rowSlot (d := 29) (t := 58) (parts := [(0, .tmp 28)]) (ps := [(0, Zaw.val r76)]) (cd := Zaw) (⟨[r76], rfl⟩ : Vec Zab 1) (owed := [⟨1, 58, (pt b2 1), cL.val s64.Nets⟩]) Ty91 (ZbW.cons (cd := Zaw) (q := r76) (o := 0) rfl (Upd.arr (i := 0) (by decide) (by decide)) ZbW.nil) fun b77 => OW.known (j := 1) (q := s64.Nets) Ty58 rfl (Zav s64) <| OW.nil <| J.p 0 0 rfl Ty91 fun r78 => J.s 1 1 rfl Ty58 (Zec _ r78) <| J.z 0 <| SJ.inBlock <| SJ.rg 3 <| J.C 1 F38 (Zb5 _ _) fun r79 => J.z 1 <| SJ.forget (List.Sublist.cons _ (List.Sublist.cons_cons _ (List.Sublist.cons_cons _ List.Sublist.slnil))) <| J.o rfl
 exact SJ.exit (id := 0) (by rfl) <| J.q <| SJ.done <| Zaa.K3_ok a0 b1 b2 s64
noncomputable def Zaa (a0 : (Option Addr)) : M Zaj :=
 slot 61 >>= fun b1 =>
 slot 61 >>= fun b2 =>
 Za9 a0 str8 >>= fun r3 =>
 if ¬ (r3 = true) then
  Za9 a0 Zss >>= fun r62 =>
  Zc7 (fun s_ : (Bool × Zaj) => Zaa.L2 a0 s_.1 s_.2) (true, (⟨r62, ZaT.Nets, ZaT.Ports⟩ : Zaj))
 else
  Zaa.K2 a0 ZaT
theorem Ze3 (a0 : (Option Addr)) : Ref Tryz.prog 43 [.pointer a0] (Zaa a0) Zaa.out := by
 refine J.Fn Tryz.func43 ?_
 unfold Zaa
 refine SJ.sr 1 <| J.a 0 Ty61 fun b1 => J.z 0 <| SJ.sr 1 <| J.a 0 Ty61 fun b2 => J.z 0 <| SJ.seq <| SJ.sr 3 <| J.C 1 F38 (Zb5 _ _) fun r3 => J.z 1 <| J.f ?_ ?_
 ·exact SJ.sr 4 <| J.C 1 F38 (Zb5 _ _) fun r62 => J.s 1 0 rfl Ty4 (Zkp _ r62) <| J.z 0 <| SJ.sr 1 <| J.z 1 <| SJ.block (id := 0) <| J.L (Zaa.L2_ok a0 b1 b2)
 exact SJ.skip <| J.q <| Zaa.K2_ok a0 b1 b2 ZaT

/-! ### (*weir/rules.reader).flags: function 44 -/
noncomputable def Zah.B : Code := bod Tryz.f44
noncomputable def Zah.cx : Fx := ⟨Tryz.prog, 44, Tryz.f44, none⟩
noncomputable def Zah.out (r_ : Unit) : Value := .tuple #[]
noncomputable def Zah.F1 (a0 : (Option Addr)) : LF Bool Unit := ⟨[.inBlock 0], c1 (c2 Zah.B), fun s_ => [(0, .pointer a0), (2, .bool s_)], fun s_ => [], (rt Zah.out)⟩
noncomputable def Zah.K1 (a0 : (Option Addr)) : M (LS Bool Unit) :=
 Za9 a0 str1 >>= fun r99 =>
 pure (LS.next r99)
theorem Zah.K1_ok (a0 : (Option Addr)) :
  SJ Zah.cx [.inBlock 2, .inBlock 1, .code (c2 (c2 (c1 (c1 (c2 Zah.B))))), .inLoop (c1 (c1 (c2 Zah.B))), .inBlock 0] [(0, .pointer a0)] [] (Zah.K1 a0) (Zah.F1 a0).f := by
 unfold Zah.K1
 exact SJ.inBlock <| SJ.inBlock <| SJ.rg 3 <| J.C 1 F38 (Zb5 _ _) fun r99 => J.z 1 <| J.o rfl
noncomputable def Zah.L1 (a0 : (Option Addr)) (s1 : Bool) : M (LS Bool Unit) :=
 (if s1 = true then
   nilck a0 >>= fun p2 =>
   ld (cI .i64) (Addr.add p2 19) >>= fun x3 =>
   pure (x3 == 0)
  else
   pure false) >>= fun y4 =>
 if y4 = true then
  ZbG a0 >>= fun r5 =>
  slot 102 >>= fun b6 =>
  ZbY r5.s Zsq >>= fun r7 =>
  ld cL ⟨2, 0, none⟩ >>= fun x8 =>
  Zan x8 r7.1 >>= fun r9 =>
  nilck a0 >>= fun p10 =>
  ld (cI .i64) (Addr.add p10 19) >>= fun x11 =>
  if x11 ≠ 0 then
   Zah.K1 a0
  else
   if r9 < 0 then
    ZaN a0 160 r5.at_ >>= fun r143 =>
    Zah.K1 a0
   else
    draw >>= fun _ =>
    nilck a0 >>= fun p144 =>
    ld (cI .i64) (Addr.add (Addr.add p144 3) 12) >>= fun x145 =>
    nilck a0 >>= fun p146 =>
    ld (cI .i64) (Addr.add (Addr.add p146 3) 13) >>= fun x147 =>
    chk (0 ≤ (IntKind.wrap .u64 r9)) >>= fun _ =>
    if (band .i64 (Int.fdiv (bor .i64 x145 x147) (2 ^ min (Int.toNat (IntKind.wrap .u64 r9)) 64)) 1) = 1 then
     ZaN a0 165 r5.at_ >>= fun r166 =>
     Zah.K1 a0
    else
     if r7.2 = true then
      nilck a0 >>= fun p175 =>
      ld (cI .i64) (Addr.add (Addr.add p175 3) 13) >>= fun x176 =>
      chk (0 ≤ (IntKind.wrap .u64 r9)) >>= fun _ =>
      nilck a0 >>= fun p177 =>
      st (cI .i64) (Addr.add (Addr.add p177 3) 13) (bor .i64 x176 (IntKind.wrap .i64 (1 * 2 ^ min (Int.toNat (IntKind.wrap .u64 r9)) 64))) >>= fun _ =>
      Zah.K1 a0
     else
      nilck a0 >>= fun p179 =>
      ld (cI .i64) (Addr.add (Addr.add p179 3) 12) >>= fun x180 =>
      chk (0 ≤ (IntKind.wrap .u64 r9)) >>= fun _ =>
      nilck a0 >>= fun p181 =>
      st (cI .i64) (Addr.add (Addr.add p181 3) 12) (bor .i64 x180 (IntKind.wrap .i64 (1 * 2 ^ min (Int.toNat (IntKind.wrap .u64 r9)) 64))) >>= fun _ =>
      Zah.K1 a0
 else
  pure (LS.done ())
theorem Zah.L1_ok (a0 : (Option Addr)) : LJ Zah.cx (Zah.F1 a0) (fun s_ => Zah.L1 a0 s_) := by
 rintro s1
 show SJ _ _ _ _ (Zah.L1 a0 s1) _
 unfold Zah.L1
 refine SJ.seq <| SJ.sr 8 <| J.j 2 5 .bool ?_ ?_ fun y4 => ?_
 ·exact J.n 1 fun p2 => J.l 1 Ty49 fun x3 => J.e 2
 ·exact J.e 6
 refine J.z 0 <| J.f ?_ ?_
 ·refine SJ.skip <| SJ.seq <| SJ.block (id := 1) <| SJ.sr 4 <| J.C 1 F64 (ZcI _) fun r5 => J.a 0 Zdr fun b6 => J.s 0 0 rfl Zdr (Upd.w r5) <| J.z 0 <| SJ.sr 8 <| J.k 1 0 rfl Ty9 (Zbb _) <| J.C 0 F67 (Ze2 _ _) fun r7 => J.z 5 <| SJ.sr 4 <| J.l 0 Zql fun x8 => J.C 1 F37 (ZcE _ _) fun r9 => J.z 1 <| SJ.block (id := 2) <| SJ.sr 6 <| J.n 1 fun p10 => J.l 1 Ty49 fun x11 => J.z 2 <| J.f ?_ ?_
  ·exact SJ.skip <| SJ.forget (List.Sublist.cons _ List.Sublist.slnil) <| J.q <| Zah.K1_ok a0
  refine SJ.sr 3 <| J.z 3 <| J.f ?_ ?_
  ·exact SJ.rg 4 <| J.k 2 0 rfl Ty3 (Zbt _) <| J.C 0 F27 (Za6 _ _ _) fun r143 => J.z 0 <| SJ.forget (List.Sublist.cons _ List.Sublist.slnil) <| J.q <| Zah.K1_ok a0
  refine SJ.seq <| J.R 17 Zc0 <| J.n 1 fun p144 => J.l 2 Ty3 fun x145 => J.n 1 fun p146 => J.l 2 Ty3 fun x147 => J.g 3 <| OJ.shr (d := 67) (T := 3) (yT := 132) (y := .tmp 64) (z := .tmp 66) (k := .i64) (yk := .u64) (p := (bor .i64 x145 x147)) (q := (IntKind.wrap .u64 r9)) fun hq185 => J.z 3 <| J.f ?_ ?_
  ·exact SJ.rg 4 <| J.k 2 0 rfl Ty3 (Zbt _) <| J.C 0 F27 (Za6 _ _ _) fun r166 => J.z 0 <| SJ.forget (List.Sublist.cons _ List.Sublist.slnil) <| J.q <| Zah.K1_ok a0
  refine SJ.sr 2 <| J.z 2 <| J.f ?_ ?_
  ·exact SJ.rg 13 <| J.n 1 fun p175 => J.l 2 Ty3 fun x176 => J.g 2 <| OJ.shl (d := 83) (T := 3) (yT := 132) (y := .const (.int .i64 1)) (z := .tmp 82) (k := .i64) (yk := .u64) (p := 1) (q := (IntKind.wrap .u64 r9)) fun hq178 => J.n 1 fun p177 => J.w 2 Ty3 <| J.z 0 <| SJ.forget (List.Sublist.cons _ List.Sublist.slnil) <| J.q <| Zah.K1_ok a0
  exact SJ.rg 13 <| J.n 1 fun p179 => J.l 2 Ty3 fun x180 => J.g 2 <| OJ.shl (d := 35) (T := 3) (yT := 132) (y := .const (.int .i64 1)) (z := .tmp 34) (k := .i64) (yk := .u64) (p := 1) (q := (IntKind.wrap .u64 r9)) fun hq182 => J.n 1 fun p181 => J.w 2 Ty3 <| J.z 0 <| SJ.forget (List.Sublist.cons _ List.Sublist.slnil) <| J.q <| Zah.K1_ok a0
 exact SJ.exit (id := 0) (by rfl) <| SJ.end_ rfl (Res.run (ys := []) .nil rfl)
noncomputable def Zah (a0 : (Option Addr)) : M Unit :=
 Zc7 (fun s_ : Bool => Zah.L1 a0 s_) true
theorem ZgC (a0 : (Option Addr)) : Ref Tryz.prog 44 [.pointer a0] (Zah a0) Zah.out := by
 refine J.Fn Tryz.func44 ?_
 unfold Zah
 exact SJ.sr 1 <| J.z 1 <| SJ.block (id := 0) <| J.L (Zah.L1_ok a0)

/-! ### (*weir/rules.reader).clause: function 28 -/
noncomputable def Zas.B : Code := bod Tryz.f28
noncomputable def Zas.cx : Fx := ⟨Tryz.prog, 28, Tryz.f28, none⟩
noncomputable def Zas.out (r_ : Bool) : Value := .bool r_
noncomputable def Zas.K1  : M Bool :=
 pure true
theorem Zas.K1_ok  :
  SJ Zas.cx [.inBlock 0, .code (c2 (c2 Zas.B))] [] [] (Zas.K1) (rt Zas.out) := by
 unfold Zas.K1
 exact SJ.inBlock <| SJ.sr 1 <| J.z 1 <| J.r
noncomputable def Zas (a0 : (Option Addr)) (a1 : ByteArray) : M Bool :=
 if a1.toList = ZrI.toList then
  Zcp a0 >>= fun r238 =>
  nilck a0 >>= fun p239 =>
  st (cI .i64) (Addr.add (Addr.add p239 3) 4) (IntKind.wrap .i64 (r238 + 1)) >>= fun _ =>
  pure true
 else
  if a1.toList = ZrH.toList then
   Zby a0 1 4094 >>= fun r357 =>
   nilck a0 >>= fun p358 =>
   st (cI .i64) (Addr.add (Addr.add p358 3) 5) r357 >>= fun _ =>
   pure true
  else
   if a1.toList = ZmX.toList then
    Zaa a0 >>= fun r416 =>
    nilck a0 >>= fun p417 =>
    st ZaC (Addr.add (Addr.add p417 3) 6) r416 >>= fun _ =>
    Zas.K1
   else
    if a1.toList = Zo9.toList then
     Zaa a0 >>= fun r445 =>
     nilck a0 >>= fun p446 =>
     st ZaC (Addr.add (Addr.add p446 3) 9) r445 >>= fun _ =>
     Zas.K1
    else
     if a1.toList = ZmW.toList then
      Zah a0 >>= fun r459 =>
      Zas.K1
     else
      if a1.toList = ZmV.toList then
       Zby a0 0 255 >>= fun r465 =>
       nilck a0 >>= fun p466 =>
       st (cI .i64) (Addr.add (Addr.add p466 3) 14) (IntKind.wrap .i64 (r465 + 1)) >>= fun _ =>
       Zas.K1
      else
       if a1.toList = ZrG.toList then
        nilck a0 >>= fun p468 =>
        st cB (Addr.add (Addr.add p468 3) 15) true >>= fun _ =>
        Zas.K1
       else
        pure false
theorem Zgv (a0 : (Option Addr)) (a1 : ByteArray) : Ref Tryz.prog 28 [.pointer a0, .string a1] (Zas a0 a1) Zas.out := by
 refine J.Fn Tryz.func28 ?_
 unfold Zas
 refine SJ.sr 1 <| J.z 1 <| SJ.seq <| SJ.sr 1 <| J.z 1 <| SJ.block (id := 0) <| SJ.sr 2 <| J.z 2 <| J.f ?_ ?_
 ·exact SJ.rg 8 <| J.C 2 F42 (Zhh _) fun r238 => J.n 1 fun p239 => J.w 2 Ty3 <| J.z 0 <| SJ.inBlock <| SJ.sr 1 <| J.z 1 <| J.r
 refine SJ.sr 2 <| J.z 2 <| J.f ?_ ?_
 ·exact SJ.rg 7 <| J.C 2 F39 (ZcZ _ _ _) fun r357 => J.n 0 fun p358 => J.w 2 Ty3 <| J.z 0 <| SJ.inBlock <| SJ.sr 1 <| J.z 1 <| J.r
 refine SJ.sr 2 <| J.z 2 <| J.f ?_ ?_
 ·exact SJ.rg 7 <| J.C 2 F43 (Ze3 _) fun r416 => J.n 0 fun p417 => J.w 2 Ty61 <| J.z 0 <| J.q <| Zas.K1_ok 
 refine SJ.sr 2 <| J.z 2 <| J.f ?_ ?_
 ·exact SJ.rg 7 <| J.C 2 F43 (Ze3 _) fun r445 => J.n 0 fun p446 => J.w 2 Ty61 <| J.z 0 <| J.q <| Zas.K1_ok 
 refine SJ.sr 2 <| J.z 2 <| J.f ?_ ?_
 ·exact SJ.rg 2 <| J.C 1 F44 (ZgC _) fun r459 => J.z 0 <| J.q <| Zas.K1_ok 
 refine SJ.sr 2 <| J.z 2 <| J.f ?_ ?_
 ·exact SJ.rg 8 <| J.C 2 F39 (ZcZ _ _ _) fun r465 => J.n 1 fun p466 => J.w 2 Ty3 <| J.z 0 <| J.q <| Zas.K1_ok 
 refine SJ.sr 2 <| J.z 2 <| J.f ?_ ?_
 ·exact SJ.rg 5 <| J.n 1 fun p468 => J.w 2 Ty4 <| J.z 0 <| J.q <| Zas.K1_ok 
 exact SJ.sr 1 <| J.z 1 <| J.r

/-! ### weir/rules.ParseRule: function 15 -/
noncomputable def Zag.B : Code := bod Tryz.f15
noncomputable def Zag.cx : Fx := ⟨Tryz.prog, 15, Tryz.f15, none⟩
noncomputable def Zag.out (r_ : (Zal × Int × Int)) : Value := .tuple #[Zak.val r_.1, .int .i64 r_.2.1, .int .i64 r_.2.2]
noncomputable def Zag.K1 (b3 : Nat) : M (Zal × Int × Int) :=
 ld (cI .i64) (Addr.add (pt b3 0) 19) >>= fun x28 =>
 if x28 ≠ 0 then
  draw >>= fun _ =>
  ld (cI .i64) (Addr.add (pt b3 0) 19) >>= fun x31 =>
  ld (cI .i64) (Addr.add (pt b3 0) 20) >>= fun x32 =>
  same (cI .i64) (Addr.add (pt b3 0) 20) x32 >>= fun _ =>
  same (cI .i64) (Addr.add (pt b3 0) 19) x31 >>= fun _ =>
  pure (ZaD, x31, x32)
 else
  ld Zak (Addr.add (pt b3 0) 3) >>= fun x33 =>
  pure (x33, 0, 0)
theorem Zag.K1_ok (b1 : Nat) (b3 : Nat) :
  SJ Zag.cx [.code (c2 (c2 (c2 (c2 (c2 (c2 (c2 (c2 Zag.B))))))))] [(2, .pointer (some (pt b1 0))), (7, .pointer (some (pt b3 0)))] [(b1, Zak.enc ZaD)] (Zag.K1 b3) (rt Zag.out) := by
 unfold Zag.K1
 refine SJ.seq <| SJ.sr 5 <| J.l 3 Ty49 fun x28 => J.z 1 <| J.f ?_ ?_
 ·exact SJ.seq <| J.R 12 Zc0 <| J.u 0 Ty63 .nil <| J.l 3 Ty49 fun x31 => J.l 3 Ty3 fun x32 => OJ.kst (y := .tmp 2) (z := .tmp 104) (cd := Zak) (u := ZaD) (j := 0) (b := b1) (o := 0) (Zak.enc ZaD) (owed := [⟨8, 3, (Addr.add (pt b3 0) 20), (cI .i64).val x32⟩, ⟨4, 49, (Addr.add (pt b3 0) 19), (cI .i64).val x31⟩]) Ty63 rfl (Upd.whole ((Cod.len _ _).trans (Cod.len _ _).symm)) rfl <| OW.same Ty3 <| OW.same Ty49 <| OW.nil <| J.z 2 <| J.rc (.c 0 rfl Ty63 .n)
 exact SJ.skip <| SJ.sr 7 <| J.l 3 Ty63 fun x33 => J.s 0 0 rfl Ty63 (Upd.w x33) <| J.z 2 <| J.rc (.c 0 rfl Ty63 .n)
noncomputable def Zag.F1 (b1 : Nat) (r2 : (Sl × Int)) (b3 : Nat) (b5 : Nat) : LF Unit (Zal × Int × Int) := ⟨[.inBlock 0, .code (c2 (c2 (c2 (c2 (c2 (c2 (c2 (c2 Zag.B))))))))], c1 (c1 (c2 (c2 (c2 (c2 (c2 (c2 (c2 Zag.B)))))))), fun s_ => [(2, .pointer (some (pt b1 0))), (5, Sl.v r2.1), (7, .pointer (some (pt b3 0))), (8, .map (some b5))], fun s_ => [(b1, Zak.enc ZaD)], (rt Zag.out)⟩
noncomputable def Zag.K2 (b3 : Nat) (b5 : Nat) (r38 : Zay) : M (LS Unit (Zal × Int × Int)) :=
 draw >>= fun _ =>
 ld (cI .i64) (Addr.add (pt b3 0) 1) >>= fun x52 =>
 mset cS (cI .i64) (some b5) r38.s x52 >>= fun _ =>
 pure (LS.next ())
theorem Zag.K2_ok (b1 : Nat) (r2 : (Sl × Int)) (b3 : Nat) (b5 : Nat) (r38 : Zay) (b39 : Nat) :
  SJ Zag.cx [.code (c2 (c2 (c2 (c1 (c2 (c1 (c1 (c1 (c2 (c2 (c2 (c2 (c2 (c2 (c2 Zag.B))))))))))))))), .inBlock 1, .inLoop (c1 (c1 (c1 (c2 (c2 (c2 (c2 (c2 (c2 (c2 Zag.B)))))))))), .inBlock 0, .code (c2 (c2 (c2 (c2 (c2 (c2 (c2 (c2 Zag.B))))))))] [(2, .pointer (some (pt b1 0))), (5, Sl.v r2.1), (7, .pointer (some (pt b3 0))), (8, .map (some b5)), (9, .pointer (some (pt b39 0)))] [(b39, Zbc.enc r38), (b1, Zak.enc ZaD)] (Zag.K2 b3 b5 r38) (Zag.F1 b1 r2 b3 b5).f := by
 unfold Zag.K2
 exact J.R 8 Zc0 <| J.k 2 0 rfl Ty9 (Zbb _) <| J.l 3 Ty3 fun x52 => OJ.mset (x := .tmp 92) (y := .tmp 94) (q := .tmp 98) (owed := []) Zs1 <| OW.nil <| J.z 0 <| SJ.inBlock <| SJ.forget (List.Sublist.cons _ (List.Sublist.cons_cons _ List.Sublist.slnil)) <| J.o rfl
noncomputable def Zag.L1 (r2 : (Sl × Int)) (b3 : Nat) (b5 : Nat) : M (LS Unit (Zal × Int × Int)) :=
 ld (cI .i64) (Addr.add (pt b3 0) 19) >>= fun x35 =>
 (if x35 = 0 then
   ld (cI .i64) (Addr.add (pt b3 0) 1) >>= fun x36 =>
   pure (decide (x36 < (r2.1.len : Int)))
  else
   pure false) >>= fun y37 =>
 if y37 = true then
  ZaG (some (pt b3 0)) >>= fun r38 =>
  slot 102 >>= fun b39 =>
  mget cS (cI .i64) 0 (some b5) r38.s >>= fun r40 =>
  (if r40.1 > 0 then
    pure true
   else
    (if r38.s.toList = ZmW.toList then
      ld (cI .i64) (Addr.add (Addr.add (pt b3 0) 3) 3) >>= fun x41 =>
      pure (x41 != 6)
     else
      pure false) >>= fun y42 =>
    pure y42) >>= fun y43 =>
  (if y43 = true then
    pure true
   else
    (if r38.s.toList = ZmV.toList then
      ld (cI .i64) (Addr.add (Addr.add (pt b3 0) 3) 3) >>= fun x44 =>
      Zdv x44 >>= fun r45 =>
      pure (!r45)
     else
      pure false) >>= fun y46 =>
    pure y46) >>= fun y47 =>
  if y47 = true then
   ZaN (some (pt b3 0)) 165 r38.at_ >>= fun r49 =>
   (Zag.K1 b3) >>= fun b => pure (LS.done b)
  else
   Zas (some (pt b3 0)) r38.s >>= fun r50 =>
   if ¬ (r50 = true) then
    ZaN (some (pt b3 0)) 160 r38.at_ >>= fun r53 =>
    Zag.K2 b3 b5 r38
   else
    Zag.K2 b3 b5 r38
 else
  (Zag.K1 b3) >>= fun b => pure (LS.done b)
theorem Zag.L1_ok (b1 : Nat) (r2 : (Sl × Int)) (b3 : Nat) (b5 : Nat) : LJ Zag.cx (Zag.F1 b1 r2 b3 b5) (fun s_ => Zag.L1 r2 b3 b5) := by
 rintro _
 show SJ _ _ _ _ (Zag.L1 r2 b3 b5) _
 unfold Zag.L1
 refine SJ.seq <| SJ.sr 14 <| J.l 3 Ty49 fun x35 => J.j 2 7 .bool ?_ ?_ fun y37 => ?_
 ·exact J.l 3 Ty3 fun x36 => J.e 4
 ·exact J.e 8
 refine J.z 0 <| J.f ?_ ?_
 ·refine SJ.skip <| SJ.block (id := 1) <| SJ.sr 4 <| J.C 1 F26 (ZcH _) fun r38 => J.a 0 Zdr fun b39 => J.s 0 0 rfl Zdr (Upd.w r38) <| J.z 0 <| SJ.seq <| SJ.sr 32 <| J.k 2 0 rfl Ty9 (Zbb _) <| OJ.get0 (d := 50) (x := .tmp 47) (y := .tmp 49) (owed := []) Zs1 fun r40 => OW.nil <| J.g 2 <| OJ.join (b := decide (r40.1 > 0)) [6, 7, 8, 9, 10, 11, 12, 13, 14, 15, 16, 17] [18, 19, 20, 21, 22, 23, 24, 25, 26, 27, 28, 29, 30, 31] [2, 5, 7, 8, 9, 64] (fun y43 => [(2, .pointer (some (pt b1 0))), (5, Sl.v r2.1), (7, .pointer (some (pt b3 0))), (8, .map (some b5)), (9, .pointer (some (pt b39 0))), (64, .bool y43)]) [] [] (t := 52) decide_eq_true_iff (fun hp_ => ?_) (fun hp_ => ?_) (fun _ _ _ _ _ _ h_ => h_) fun y43 => ?_
  ·exact J.g 12 <| OJ.nil ⟨(Cov.mem Cov.nil), rfl, _, rfl, by kernel_rfl⟩
  ·refine J.k 1 0 rfl Ty9 (Zbb _) <| J.g 2 <| OJ.join (b := (r38.s.toList == ZmW.toList)) [10, 11, 12, 13, 14, 15, 16] [17] [2, 5, 7, 8, 9, 52, 63] (fun y42 => [(2, .pointer (some (pt b1 0))), (5, Sl.v r2.1), (7, .pointer (some (pt b3 0))), (8, .map (some b5)), (9, .pointer (some (pt b39 0))), (52, .bool false), (63, .bool y42)]) [] [] (t := 56) beq_iff_eq (fun hp_ => ?_) (fun hp_ => ?_) (fun _ _ _ _ _ hq_ h_ => ⟨fun e_ he_ => (hq_ e_ he_).elim (fun h => h_.1 e_ h) (fun h => nomatch h), h_.2⟩) fun y42 => ?_
   ·exact J.l 4 Ty3 fun x41 => J.g 2 <| OJ.nil ⟨(Cov.mem Cov.nil), rfl, _, rfl, by kernel_rfl⟩
   ·exact J.g 7 <| OJ.nil ⟨(Cov.mem Cov.nil), rfl, _, rfl, by kernel_rfl⟩
   exact J.g 1 <| OJ.nil ⟨(Cov.mem Cov.nil), rfl, _, rfl, by kernel_rfl⟩
  refine J.g 1 <| OJ.join (b := y43) [19, 20, 21, 22, 23, 24, 25, 26, 27, 28, 29, 30, 31] [] [2, 5, 7, 8, 9, 78] (fun y47 => [(2, .pointer (some (pt b1 0))), (5, Sl.v r2.1), (7, .pointer (some (pt b3 0))), (8, .map (some b5)), (9, .pointer (some (pt b39 0))), (78, .bool y47)]) [] [] (t := 65) Iff.rfl (fun hp_ => ?_) (fun hp_ => ?_) (fun _ _ _ _ _ _ h_ => h_) fun y47 => ?_
  ·exact J.g 13 <| OJ.nil ⟨(Cov.mem Cov.nil), rfl, _, rfl, by kernel_rfl⟩
  ·refine J.k 1 0 rfl Ty9 (Zbb _) <| J.g 2 <| OJ.join (b := (r38.s.toList == ZmV.toList)) [23, 24, 25, 26, 27, 28, 29, 30] [31] [2, 5, 7, 8, 9, 65, 77] (fun y46 => [(2, .pointer (some (pt b1 0))), (5, Sl.v r2.1), (7, .pointer (some (pt b3 0))), (8, .map (some b5)), (9, .pointer (some (pt b39 0))), (65, .bool false), (77, .bool y46)]) [] [] (t := 69) beq_iff_eq (fun hp_ => ?_) (fun hp_ => ?_) (fun _ _ _ _ _ hq_ h_ => ⟨fun e_ he_ => (hq_ e_ he_).elim (fun h => h_.1 e_ h) (fun h => nomatch h), h_.2⟩) fun y46 => ?_
   ·exact J.l 4 Ty3 fun x44 => J.C 0 F19 (Zhr _) fun r45 => J.g 2 <| OJ.nil ⟨(Cov.mem Cov.nil), rfl, _, rfl, by kernel_rfl⟩
   ·exact J.g 8 <| OJ.nil ⟨(Cov.mem Cov.nil), rfl, _, rfl, by kernel_rfl⟩
   exact J.g 1 <| OJ.nil ⟨(Cov.mem Cov.nil), rfl, _, rfl, by kernel_rfl⟩
  refine J.z 0 <| J.f ?_ ?_
  ·exact SJ.sr 4 <| J.k 2 0 rfl Ty3 (Zbt _) <| J.C 0 F27 (Za6 _ _ _) fun r49 => J.z 0 <| SJ.exit (id := 0) (by rfl) <| SJ.forget (List.Sublist.cons _ (List.Sublist.cons_cons _ List.Sublist.slnil)) <| J.q <| SJ.done <| Zag.K1_ok b1 b3
  refine SJ.skip <| SJ.seq <| SJ.sr 5 <| J.k 2 0 rfl Ty9 (Zbb _) <| J.C 0 F28 (Zgv _ _) fun r50 => J.z 1 <| J.f ?_ ?_
  ·exact SJ.rg 4 <| J.k 2 0 rfl Ty3 (Zbt _) <| J.C 0 F27 (Za6 _ _ _) fun r53 => J.z 0 <| J.q <| Zag.K2_ok b1 r2 b3 b5 r38 b39
  exact SJ.skip <| J.q <| Zag.K2_ok b1 r2 b3 b5 r38 b39
 exact SJ.exit (id := 0) (by rfl) <| J.q <| SJ.done <| Zag.K1_ok b1 b3
noncomputable def Zag (a0 : ByteArray) : M (Zal × Int × Int) :=
 slot 63 >>= fun b1 =>
 if (a0.size : Int) > 1024 then
  pure (ZaD, 2, 1024)
 else
  ZaH a0 >>= fun r2 =>
  if r2.2 ≥ 0 then
   pure (ZaD, 160, r2.2)
  else
   newv 99 Za7 (⟨r2.1, ZdI.i, (a0.size : Int), ZdI.rule, ZdI.err, ZdI.at_⟩ : Zba) >>= fun b3 =>
   Zaq (some (pt b3 0)) >>= fun r4 =>
   mkMap >>= fun b5 =>
   Zc7 (fun s_ : Unit => Zag.L1 r2 b3 b5) ()
theorem Zh5 (a0 : ByteArray) : Ref Tryz.prog 15 [.string a0] (Zag a0) Zag.out := by
 refine J.Fn Tryz.func15 ?_
 unfold Zag
 refine SJ.sr 3 <| J.a 0 Ty63 fun b1 => J.z 2 <| SJ.seq <| SJ.sr 3 <| J.z 3 <| J.f ?_ ?_
 ·exact SJ.sr 4 <| J.u 0 Ty63 .nil <| J.s 0 0 rfl Ty63 (Upd.w ZaD) <| J.z 2 <| J.rc (.c 0 rfl Ty63 .n)
 refine SJ.skip <| SJ.sr 7 <| J.C 1 F24 (Zkz _) fun r2 => J.z 5 <| SJ.seq <| SJ.sr 2 <| J.z 2 <| J.f ?_ ?_
 ·exact SJ.sr 5 <| J.u 0 Ty63 .nil <| J.s 1 0 rfl Ty63 (Upd.w ZaD) <| J.z 2 <| J.rc (.c 0 rfl Ty63 .n)
 exact SJ.skip <| SJ.sr 6 <| J.u 3 Ty99 (.f 0 (ZiN _ r2.1) (.f 2 (Zhn _ (a0.size : Int)) .nil)) <| J.B 0 fun b3 => J.z 1 <| SJ.sr 2 <| J.C 1 F25 (Zhi _) fun r4 => J.z 0 <| SJ.sr 2 <| OJ.mkMap (d := 30) (t := 100) (owed := []) fun b5 => OW.nil <| J.z 1 <| SJ.seq <| SJ.block (id := 0) <| J.L (Zag.L1_ok b1 r2 b3 b5)

/-! ### internal/strconv.small: function 96 -/
noncomputable def Zdu.out (r_ : ByteArray) : Value := .string r_
noncomputable def Zdu (a0 : Int) : M ByteArray :=
 if a0 < 10 then
  chk (0 ≤ (a0 : Int) ∧ (a0 : Int) ≤ (IntKind.wrap .i64 (a0 + 1)) ∧ (IntKind.wrap .i64 (a0 + 1)) ≤ (ZqF.size : Int)) >>= fun _ =>
  pure (ByteArray.extract ZqF (Int.toNat a0) (Int.toNat (IntKind.wrap .i64 (a0 + 1))))
 else
  chk (0 ≤ ((IntKind.wrap .i64 (a0 * 2)) : Int) ∧ ((IntKind.wrap .i64 (a0 * 2)) : Int) ≤ (IntKind.wrap .i64 ((IntKind.wrap .i64 (a0 * 2)) + 2)) ∧ (IntKind.wrap .i64 ((IntKind.wrap .i64 (a0 * 2)) + 2)) ≤ (ZqE.size : Int)) >>= fun _ =>
  pure (ByteArray.extract ZqE (Int.toNat (IntKind.wrap .i64 (a0 * 2))) (Int.toNat (IntKind.wrap .i64 ((IntKind.wrap .i64 (a0 * 2)) + 2))))
theorem Zji (a0 : Int) : Ref Tryz.prog 96 [.int .i64 a0] (Zdu a0) Zdu.out := by
 refine J.Fn Tryz.func96 ?_
 unfold Zdu
 refine SJ.sr 1 <| J.z 1 <| SJ.seq <| SJ.sr 2 <| J.z 2 <| J.f ?_ ?_
 ·exact SJ.sr 5 <| J.ct 3 <| J.z 1 <| J.r
 exact SJ.skip <| SJ.sr 7 <| J.ct 5 <| J.z 1 <| J.r

/-! ### internal/strconv.FormatInt: function 86 -/
noncomputable def ZcP.out (r_ : ByteArray) : Value := .string r_
noncomputable def ZcP (a0 : Int) (a1 : Int) : M ByteArray :=
 if a1 = 10 then
  (if 0 ≤ a0 then
    pure (decide (a0 < 100))
   else
    pure false) >>= fun y5 =>
  if y5 = true then
   Zdu a0 >>= fun r7 =>
   pure r7
  else
   fail
 else
  fail
theorem Zhg (a0 : Int) (a1 : Int) : Ref Tryz.prog 86 [.int .i64 a0, .int .i64 a1] (ZcP a0 a1) ZcP.out := by
 refine J.Fn Tryz.func86 ?_
 unfold ZcP
 refine SJ.sr 1 <| J.z 1 <| SJ.seq <| SJ.sr 2 <| J.z 2 <| J.f ?_ ?_
 ·refine SJ.seq <| SJ.sr 6 <| J.j 3 2 .bool ?_ ?_ fun y5 => ?_
  ·exact J.e 3
  ·exact J.e 3
  refine J.z 0 <| J.f ?_ ?_
  ·exact SJ.sr 3 <| J.C 1 F96 (Zji _) fun r7 => J.z 1 <| J.r
  exact SJ.fail
 exact SJ.fail

/-! ### internal/strconv.Itoa: function 70 -/
noncomputable def Zei.out (r_ : ByteArray) : Value := .string r_
noncomputable def Zei (a0 : Int) : M ByteArray :=
 ZcP a0 10 >>= fun r1 =>
 pure r1
theorem ZjM (a0 : Int) : Ref Tryz.prog 70 [.int .i64 a0] (Zei a0) Zei.out := by
 refine J.Fn Tryz.func70 ?_
 unfold Zei
 exact SJ.sr 1 <| J.z 1 <| SJ.sr 3 <| J.C 1 F86 (Zhg _ _) fun r1 => J.z 1 <| J.r

/-! ### strconv.Itoa: function 45 -/
noncomputable def ZcK.out (r_ : ByteArray) : Value := .string r_
noncomputable def ZcK (a0 : Int) : M ByteArray :=
 Zei a0 >>= fun r1 =>
 pure r1
theorem ZeU (a0 : Int) : Ref Tryz.prog 45 [.int .i64 a0] (ZcK a0) ZcK.out := by
 refine J.Fn Tryz.func45 ?_
 unfold ZcK
 exact SJ.sr 1 <| J.z 1 <| SJ.sr 3 <| J.C 1 F70 (ZjM _) fun r1 => J.z 1 <| J.r

/-! ### weir/rules.protoName: function 71 -/
noncomputable def Zdj.out (r_ : ByteArray) : Value := .string r_
noncomputable def Zdj (a0 : Int) : M ByteArray :=
 if a0 = 6 then
  pure str2
 else
  if a0 = 17 then
   pure str3
  else
   if a0 = 1 then
    pure str4
   else
    if a0 = 58 then
     pure str5
    else
     pure ByteArray.empty
theorem Zh3 (a0 : Int) : Ref Tryz.prog 71 [.int .i64 a0] (Zdj a0) Zdj.out := by
 refine J.Fn Tryz.func71 ?_
 unfold Zdj
 refine SJ.sr 1 <| J.z 1 <| SJ.seq <| SJ.sr 1 <| J.z 1 <| SJ.block (id := 0) <| SJ.sr 2 <| J.z 2 <| J.f ?_ ?_
 ·exact SJ.sr 1 <| J.z 1 <| J.r
 refine SJ.sr 2 <| J.z 2 <| J.f ?_ ?_
 ·exact SJ.sr 1 <| J.z 1 <| J.r
 refine SJ.sr 2 <| J.z 2 <| J.f ?_ ?_
 ·exact SJ.sr 1 <| J.z 1 <| J.r
 refine SJ.sr 2 <| J.z 2 <| J.f ?_ ?_
 ·exact SJ.sr 1 <| J.z 1 <| J.r
 exact SJ.skip <| SJ.inBlock <| SJ.sr 1 <| J.z 1 <| J.r

/-! ### weir/rules.what: function 46 -/
noncomputable def ZeE.out (r_ : ByteArray) : Value := .string r_
noncomputable def ZeE (a0 : Zal) : M ByteArray :=
 slot 63 >>= fun b1 =>
 if a0.Kind > 0 then
  fail
 else
  Zdj a0.Proto >>= fun r2 =>
  if ¬ (r2.toList = ByteArray.empty.toList) then
   chk (((Zf4.size + r2.size : Nat) : Int) ≤ 9223372036854775807) >>= fun _ =>
   chk (((ByteArray.empty.size + (Zf4 ++ r2).size : Nat) : Int) ≤ 9223372036854775807) >>= fun _ =>
   pure (ByteArray.empty ++ (Zf4 ++ r2))
  else
   fail
theorem Zlu (a0 : Zal) : Ref Tryz.prog 46 [Zak.val a0] (ZeE a0) ZeE.out := by
 refine J.Fn Tryz.func46 ?_
 unfold ZeE
 refine SJ.sr 2 <| J.b 0 Zak a0 fun b1 => J.z 1 <| SJ.sr 1 <| J.z 1 <| SJ.seq <| SJ.sr 3 <| J.k 1 0 rfl Ty3 (ZbV _) <| J.z 1 <| J.f ?_ ?_
 ·exact SJ.fail
 refine SJ.skip <| SJ.sr 4 <| J.k 1 0 rfl Ty3 (Zbv _) <| J.C 0 F71 (Zh3 _) fun r2 => J.z 1 <| SJ.seq <| SJ.block (id := 0) <| SJ.sr 3 <| J.z 3 <| J.f ?_ ?_
 ·exact SJ.rg 5 <| J.T 2 <| J.T 0 <| J.z 1 <| SJ.inBlock <| SJ.sr 2 <| J.z 2 <| J.r
 exact SJ.fail

/-! ### (*strings.Builder).copyCheck: function 90 -/
noncomputable def Zbr.out (r_ : Unit) : Value := .tuple #[]
noncomputable def Zbr (a0 : (Option Addr)) : M Unit :=
 nilck a0 >>= fun p1 =>
 ld cP p1 >>= fun x2 =>
 if x2 = none then
  upOf a0 >>= fun r11 =>
  noesc r11 >>= fun r12 =>
  ptOf 157 2 r12 >>= fun r13 =>
  nilck a0 >>= fun p14 =>
  st cP p14 r13 >>= fun _ =>
  pure ()
 else
  nilck a0 >>= fun p15 =>
  ld cP p15 >>= fun x16 =>
  ptrEq x16 a0 >>= fun y17 =>
  if ¬ (y17 = true) then
   fail
  else
   pure ()
theorem ZdM (a0 : (Option Addr)) : Ref Tryz.prog 90 [.pointer a0] (Zbr a0) Zbr.out := by
 refine J.Fn Tryz.func90 ?_
 unfold Zbr
 refine SJ.sr 5 <| J.n 1 fun p1 => J.l 1 Zsf fun x2 => J.z 1 <| J.f ?_ ?_
 ·exact SJ.rg 8 <| J.g 2 <| OJ.upOf (d := 9) (t := 155) (u := 198) (E := 157) (x := .tmp 8) (p := a0) (owed := []) fun r11 => OW.nil <| OJ.ext (d := 10) (g := 101) (ats := #[198]) (args := [.tmp 9]) (out := fun r => .pointer r) (owed := []) Tryz.func101 Zpz fun r12 => OW.nil <| OJ.ptOf (d := 11) (t := 155) (u := 198) (E := 157) (T := 157) (n := 2) (x := .tmp 10) (p := r12) (owed := []) (by kernel_rfl) fun r13 => OW.nil <| J.n 0 fun p14 => J.w 1 Zsf <| J.z 0 <| SJ.end_ rfl (Res.run (ys := []) .nil rfl)
 refine SJ.sr 6 <| J.n 1 fun p15 => J.l 1 Zsf fun x16 => J.g 1 <| OJ.pneq (d := 19) (T := 155) (E := 157) (yT := 155) (y := .tmp 17) (z := .tmp 18) (p := x16) (q := a0) fun y17 => J.z 0 <| J.f ?_ ?_
 ·exact SJ.fail
 exact SJ.skip <| SJ.end_ rfl (Res.run (ys := []) .nil rfl)

/-! ### (*strings.Builder).grow: function 91 -/
noncomputable def Zcm.out (r_ : Unit) : Value := .tuple #[]
noncomputable def Zcm (a0 : (Option Addr)) (a1 : Int) : M Unit :=
 draw >>= fun _ =>
 nilck a0 >>= fun p1 =>
 ld cL (Addr.add p1 1) >>= fun x2 =>
 nilck a0 >>= fun p3 =>
 ld cL (Addr.add p3 1) >>= fun x4 =>
 mkNZ 5 (IntKind.wrap .i64 ((IntKind.wrap .i64 (2 * (x2.cap : Int))) + a1)) >>= fun r5 =>
 same cL (Addr.add p3 1) x4 >>= fun _ =>
 cut 1 r5 none (some (x4.len : Int)) none >>= fun r6 =>
 nilck a0 >>= fun p7 =>
 ld cL (Addr.add p7 1) >>= fun x8 =>
 cpyS (cI .u8) r6 x8 >>= fun r9 =>
 nilck a0 >>= fun p10 =>
 st cL (Addr.add p10 1) r6 >>= fun _ =>
 pure ()
theorem Zf2 (a0 : (Option Addr)) (a1 : Int) : Ref Tryz.prog 91 [.pointer a0, .int .i64 a1] (Zcm a0 a1) Zcm.out := by
 refine J.Fn Tryz.func91 ?_
 unfold Zcm
 exact SJ.seq <| J.D [0, 1, 2, 3, 4, 5, 6, 7, 9, 10, 11, 12, 8, 13, 14, 15] Zc0 <| J.n 1 fun p1 => J.l 1 Ty32 fun x2 => OJ.capS (d := 9) (so := .tmp 8) (t := 32) (E := 5) (s := x2) <| J.n 4 fun p3 => J.l 1 Ty32 fun x4 => OJ.ext (d := 13) (g := 102) (ats := #[3]) (args := [.tmp 12]) (out := Sl.v) (owed := [⟨12, 32, (Addr.add p3 1), cL.val x4⟩]) Tryz.func102 (ZqW (t := 32) (E := 5) (ps := #[3]) (by kernel_rfl)) fun r5 => OW.same Ty32 <| OW.nil <| J.cs 1 fun r6 => J.z 1 <| SJ.sr 6 <| J.n 2 fun p7 => J.l 1 Ty32 fun x8 => OJ.cpy1 (n := 25) (t := 32) (u := 32) (so := .tmp 20) (xo := .tmp 24) (owed := []) Ty5 fun r9 => OW.nil <| J.z 0 <| SJ.rg 5 <| J.n 2 fun p10 => J.w 1 Ty32 <| J.z 0 <| SJ.end_ rfl (Res.run (ys := []) .nil rfl)

/-! ### (*strings.Builder).Grow: function 74 -/
noncomputable def Zb3.out (r_ : Unit) : Value := .tuple #[]
noncomputable def Zb3 (a0 : (Option Addr)) (a1 : Int) : M Unit :=
 Zbr a0 >>= fun r1 =>
 if a1 < 0 then
  fail
 else
  draw >>= fun _ =>
  nilck a0 >>= fun p2 =>
  ld cL (Addr.add p2 1) >>= fun x3 =>
  nilck a0 >>= fun p4 =>
  ld cL (Addr.add p4 1) >>= fun x5 =>
  if (IntKind.wrap .i64 ((x3.cap : Int) - (x5.len : Int))) < a1 then
   Zcm a0 a1 >>= fun r7 =>
   pure ()
  else
   pure ()
theorem Zf3 (a0 : (Option Addr)) (a1 : Int) : Ref Tryz.prog 74 [.pointer a0, .int .i64 a1] (Zb3 a0 a1) Zb3.out := by
 refine J.Fn Tryz.func74 ?_
 unfold Zb3
 refine SJ.sr 2 <| J.C 1 F90 (ZdM _) fun r1 => J.z 0 <| SJ.seq <| SJ.sr 2 <| J.z 2 <| J.f ?_ ?_
 ·exact SJ.rg 2 <| J.g 1 <| OJ.fail
 refine SJ.skip <| SJ.seq <| J.R 13 Zc0 <| J.n 1 fun p2 => J.l 1 Ty32 fun x3 => OJ.capS (d := 13) (so := .tmp 12) (t := 32) (E := 5) (s := x3) <| J.n 1 fun p4 => J.l 1 Ty32 fun x5 => J.z 4 <| J.f ?_ ?_
 ·exact SJ.rg 3 <| J.C 2 F91 (Zf2 _ _) fun r7 => J.z 0 <| SJ.end_ rfl (Res.run (ys := []) .nil rfl)
 exact SJ.skip <| SJ.end_ rfl (Res.run (ys := []) .nil rfl)

/-! ### (*strings.Builder).WriteString: function 75 -/
noncomputable def Zbd.out (r_ : (Int × Any)) : Value := .tuple #[.int .i64 r_.1, r_.2.v]
noncomputable def Zbd (a0 : (Option Addr)) (a1 : ByteArray) : M (Int × Any) :=
 Zbr a0 >>= fun r1 =>
 nilck a0 >>= fun p2 =>
 ld cL (Addr.add p2 1) >>= fun x3 =>
 appl (cI .u8) 5 1 0 x3 (strI a1) >>= fun r4 =>
 nilck a0 >>= fun p5 =>
 st cL (Addr.add p5 1) r4 >>= fun _ =>
 pure ((a1.size : Int), (⟨.nilIface, rfl⟩ : Any))
theorem Zcv (a0 : (Option Addr)) (a1 : ByteArray) : Ref Tryz.prog 75 [.pointer a0, .string a1] (Zbd a0 a1) Zbd.out := by
 refine J.Fn Tryz.func75 ?_
 unfold Zbd
 exact SJ.sr 2 <| J.z 2 <| SJ.sr 2 <| J.C 1 F90 (ZdM _) fun r1 => J.z 0 <| SJ.sr 10 <| J.n 2 fun p2 => J.l 1 Ty32 fun x3 => J.g 1 <| OJ.appT (d := 14) (t := 32) (u := 9) (so := .tmp 12) (xo := .tmp 13) (y := a1) (owed := []) Ty5 fun r4 => OW.nil <| J.n 0 fun p5 => J.w 1 Ty32 <| J.z 0 <| SJ.sr 4 <| J.z 4 <| J.r

/-! ### (*strings.Builder).String: function 76 -/
noncomputable def ZbP.out (r_ : ByteArray) : Value := .string r_
noncomputable def ZbP (a0 : (Option Addr)) : M ByteArray :=
 draw >>= fun _ =>
 nilck a0 >>= fun p1 =>
 ld cL (Addr.add p1 1) >>= fun x2 =>
 nilck a0 >>= fun p3 =>
 ld cL (Addr.add p3 1) >>= fun x4 =>
 sdata x2 >>= fun r5 =>
 same cL (Addr.add p3 1) x4 >>= fun _ =>
 ustr 5 r5 (x4.len : Int) >>= fun r6 =>
 pure r6
theorem ZfE (a0 : (Option Addr)) : Ref Tryz.prog 76 [.pointer a0] (ZbP a0) ZbP.out := by
 refine J.Fn Tryz.func76 ?_
 unfold ZbP
 exact SJ.sr 1 <| J.z 1 <| SJ.seq <| J.D [0, 1, 2, 3, 5, 6, 7, 8, 4, 9, 10, 11] Zc0 <| J.n 1 fun p1 => J.l 1 Ty32 fun x2 => J.n 1 fun p3 => J.l 1 Ty32 fun x4 => OJ.sdata (d := 7) (t := 32) (x := .tmp 6) (s := x2) (owed := [⟨8, 32, (Addr.add p3 1), cL.val x4⟩]) fun r5 => OW.same Ty32 <| OW.nil <| J.g 1 <| OJ.ustr (d := 13) (t := 183) (t2 := 3) (E := 5) (x := .tmp 7) (y := .tmp 12) (p := r5) (n := (x4.len : Int)) (owed := []) fun r6 => OW.nil <| J.z 1 <| J.r

/-! ### strings.Join: function 48 -/
noncomputable def Zap.B : Code := bod Tryz.f48
noncomputable def Zap.cx : Fx := ⟨Tryz.prog, 48, Tryz.f48, none⟩
noncomputable def Zap.out (r_ : ByteArray) : Value := .string r_
noncomputable def Zap.F1 (a1 : ByteArray) (b19 : Nat) (r24 : Sl) : LF Int ByteArray := ⟨[.inBlock 3, .code (c2 (c2 (c2 (c2 (c2 (c2 (c2 (c2 (c2 Zap.B)))))))))], c1 (c2 (c1 (c2 (c2 (c2 (c2 (c2 (c2 (c2 (c2 Zap.B)))))))))), fun s_ => [(1, .string a1), (8, .pointer (some (pt b19 0))), (63, Sl.v r24), (64, .int .i64 (r24.len : Int)), (65, .int .i64 s_)], fun s_ => [], (rt Zap.out)⟩
noncomputable def Zap.L1 (a1 : ByteArray) (b19 : Nat) (r24 : Sl) (s25 : Int) : M (LS Int ByteArray) :=
 if s25 < (r24.len : Int) then
  idx r24.a r24.len s25 1 >>= fun p32 =>
  ld cS p32 >>= fun x33 =>
  Zbd (some (pt b19 0)) a1 >>= fun r34 =>
  Zbd (some (pt b19 0)) x33 >>= fun r35 =>
  pure (LS.next (IntKind.wrap .i64 (s25 + 1)))
 else
  ZbP (some (pt b19 0)) >>= fun r36 =>
  pure (LS.done r36)
theorem Zap.L1_ok (a1 : ByteArray) (b19 : Nat) (r24 : Sl) : LJ Zap.cx (Zap.F1 a1 b19 r24) (fun s_ => Zap.L1 a1 b19 r24 s_) := by
 rintro s25
 show SJ _ _ _ _ (Zap.L1 a1 b19 r24 s25) _
 unfold Zap.L1
 refine SJ.sr 1 <| J.z 1 <| SJ.seq <| J.f ?_ ?_
 ·exact SJ.skip <| SJ.seq <| SJ.block (id := 4) <| SJ.sr 3 <| J.i 0 fun p32 => J.l 0 Ty9 fun x33 => J.z 1 <| SJ.sr 2 <| J.C 1 F75 (Zcv _ _) fun r34 => J.z 0 <| SJ.rg 2 <| J.C 1 F75 (Zcv _ _) fun r35 => J.z 0 <| SJ.inBlock <| SJ.rg 2 <| J.z 2 <| J.o rfl
 exact SJ.exit (id := 3) (by rfl) <| SJ.sr 2 <| J.C 0 F76 (ZfE _) fun r36 => J.z 1 <| J.r
noncomputable def Zap.K1 (a0 : Sl) (a1 : ByteArray) (s13 : Int) : M ByteArray :=
 newv 157 Zb0 ZdY >>= fun b19 =>
 Zb3 (some (pt b19 0)) s13 >>= fun r20 =>
 idx a0.a a0.len 0 1 >>= fun p21 =>
 ld cS p21 >>= fun x22 =>
 Zbd (some (pt b19 0)) x22 >>= fun r23 =>
 cut 1 a0 (some 1) none none >>= fun r24 =>
 Zc7 (fun s_ : Int => Zap.L1 a1 b19 r24 s_) 0
theorem Zap.K1_ok (a0 : Sl) (a1 : ByteArray) (s13 : Int) :
  SJ Zap.cx [.code (c2 (c2 (c2 (c2 (c2 Zap.B)))))] [(0, Sl.v a0), (1, .string a1), (5, .int .i64 s13)] [] (Zap.K1 a0 a1 s13) (rt Zap.out) := by
 unfold Zap.K1
 exact SJ.sr 1 <| J.A 0 Ztg fun b19 => J.z 0 <| SJ.sr 2 <| J.C 1 F74 (Zf3 _ _) fun r20 => J.z 0 <| SJ.sr 4 <| J.i 1 fun p21 => J.l 0 Ty9 fun x22 => J.C 0 F75 (Zcv _ _) fun r23 => J.z 0 <| SJ.seq <| SJ.sr 4 <| J.cs 1 fun r24 => J.z 2 <| SJ.block (id := 3) <| J.L (Zap.L1_ok a1 b19 r24)
noncomputable def Zap.F2 (a0 : Sl) (a1 : ByteArray) : LF (Int × Int) ByteArray := ⟨[.inBlock 1, .code (c2 (c2 (c2 (c2 (c2 Zap.B)))))], c1 (c2 (c1 (c2 (c2 (c2 (c2 Zap.B)))))), fun s_ => [(0, Sl.v a0), (1, .string a1), (5, .int .i64 s_.1), (39, Sl.v a0), (40, .int .i64 (a0.len : Int)), (41, .int .i64 s_.2)], fun s_ => [], (rt Zap.out)⟩
noncomputable def Zap.L2 (a0 : Sl) (a1 : ByteArray) (s13 : Int) (s14 : Int) : M (LS (Int × Int) ByteArray) :=
 if s14 < (a0.len : Int) then
  idx a0.a a0.len s14 1 >>= fun p38 =>
  ld cS p38 >>= fun x39 =>
  if (x39.size : Int) > (IntKind.wrap .i64 (9223372036854775807 - s13)) then
   fail
  else
   pure (LS.next (IntKind.wrap .i64 (s13 + (x39.size : Int)), IntKind.wrap .i64 (s14 + 1)))
 else
  (Zap.K1 a0 a1 s13) >>= fun b => pure (LS.done b)
theorem Zap.L2_ok (a0 : Sl) (a1 : ByteArray) : LJ Zap.cx (Zap.F2 a0 a1) (fun s_ => Zap.L2 a0 a1 s_.1 s_.2) := by
 rintro ⟨s13, s14⟩
 show SJ _ _ _ _ (Zap.L2 a0 a1 s13 s14) _
 unfold Zap.L2
 refine SJ.sr 1 <| J.z 1 <| SJ.seq <| J.f ?_ ?_
 ·refine SJ.skip <| SJ.seq <| SJ.block (id := 2) <| SJ.sr 3 <| J.i 0 fun p38 => J.l 0 Ty9 fun x39 => J.z 1 <| SJ.seq <| SJ.sr 5 <| J.z 5 <| J.f ?_ ?_
  ·exact SJ.rg 2 <| J.g 1 <| OJ.fail
  exact SJ.skip <| SJ.rg 5 <| J.z 5 <| SJ.inBlock <| SJ.rg 2 <| J.z 2 <| J.o rfl
 exact SJ.exit (id := 1) (by rfl) <| J.q <| SJ.done <| Zap.K1_ok a0 a1 s13
noncomputable def Zap.K2 (a0 : Sl) (a1 : ByteArray) (j12 : Int) : M ByteArray :=
 Zc7 (fun s_ : (Int × Int) => Zap.L2 a0 a1 s_.1 s_.2) (j12, 0)
theorem Zap.K2_ok (a0 : Sl) (a1 : ByteArray) (j12 : Int) :
  SJ Zap.cx [.code (c2 (c2 (c2 (c2 Zap.B))))] [(0, Sl.v a0), (1, .string a1), (5, .int .i64 j12)] [] (Zap.K2 a0 a1 j12) (rt Zap.out) := by
 unfold Zap.K2
 exact SJ.seq <| SJ.sr 3 <| J.z 3 <| SJ.block (id := 1) <| J.L (Zap.L2_ok a0 a1)
noncomputable def Zap (a0 : Sl) (a1 : ByteArray) : M ByteArray :=
 if (a0.len : Int) = 0 then
  pure ByteArray.empty
 else
  if (a0.len : Int) = 1 then
   idx a0.a a0.len 0 1 >>= fun p8 =>
   ld cS p8 >>= fun x9 =>
   pure x9
  else
   if (a1.size : Int) > 0 then
    chk ((IntKind.wrap .i64 ((a0.len : Int) - 1)) ≠ 0) >>= fun _ =>
    if (a1.size : Int) ≥ (IntKind.wrap .i64 (Int.tdiv 9223372036854775807 (IntKind.wrap .i64 ((a0.len : Int) - 1)))) then
     fail
    else
     Zap.K2 a0 a1 (IntKind.wrap .i64 (0 + (IntKind.wrap .i64 ((a1.size : Int) * (IntKind.wrap .i64 ((a0.len : Int) - 1))))))
   else
    Zap.K2 a0 a1 0
theorem Zfd (a0 : Sl) (a1 : ByteArray) : Ref Tryz.prog 48 [Sl.v a0, .string a1] (Zap a0 a1) Zap.out := by
 refine J.Fn Tryz.func48 ?_
 unfold Zap
 refine SJ.sr 1 <| J.z 1 <| SJ.seq <| SJ.sr 2 <| J.z 2 <| SJ.block (id := 0) <| SJ.sr 2 <| J.z 2 <| J.f ?_ ?_
 ·exact SJ.sr 1 <| J.z 1 <| J.r
 refine SJ.sr 2 <| J.z 2 <| J.f ?_ ?_
 ·exact SJ.sr 4 <| J.i 1 fun p8 => J.l 0 Ty9 fun x9 => J.z 1 <| J.r
 refine SJ.skip <| SJ.inBlock <| SJ.sr 1 <| J.z 1 <| SJ.seq <| SJ.sr 3 <| J.z 3 <| J.f ?_ ?_
 ·refine SJ.seq <| SJ.sr 7 <| J.g 5 <| OJ.quo (d := 28) (T := 3) (yT := 3) (y := .const (.int .i64 9223372036854775807)) (z := .tmp 27) (p := 9223372036854775807) (q := (IntKind.wrap .i64 ((a0.len : Int) - 1))) (k := .i64) fun hq43 => J.z 1 <| J.f ?_ ?_
  ·exact SJ.rg 2 <| J.g 1 <| OJ.fail
  exact SJ.skip <| SJ.rg 9 <| J.z 9 <| J.q <| Zap.K2_ok a0 a1 (IntKind.wrap .i64 (0 + (IntKind.wrap .i64 ((a1.size : Int) * (IntKind.wrap .i64 ((a0.len : Int) - 1))))))
 exact SJ.skip <| J.q <| Zap.K2_ok a0 a1 0

/-! ### weir/addr.dotted: function 87 -/
noncomputable def Zbp.B : Code := bod Tryz.f87
noncomputable def Zbp.cx : Fx := ⟨Tryz.prog, 87, Tryz.f87, none⟩
noncomputable def Zbp.out (r_ : ByteArray) : Value := .string r_
noncomputable def Zbp.F1 (a0 : Sl) : LF (Sl × Int) ByteArray := ⟨[.inBlock 0, .code (c2 (c2 (c2 Zbp.B)))], c1 (c2 (c1 (c2 (c2 Zbp.B)))), fun s_ => [(3, Sl.v s_.1), (6, Sl.v a0), (7, .int .i64 (a0.len : Int)), (8, .int .i64 s_.2)], fun s_ => [], (rt Zbp.out)⟩
noncomputable def Zbp.L1 (a0 : Sl) (s1 : Sl) (s2 : Int) : M (LS (Sl × Int) ByteArray) :=
 if s2 < (a0.len : Int) then
  idx a0.a a0.len s2 1 >>= fun p10 =>
  ld (cI .u8) p10 >>= fun x11 =>
  ZcK (IntKind.wrap .i64 x11) >>= fun r12 =>
  slot 9 >>= fun b13 =>
  appl cS 9 16 ByteArray.empty s1 [r12] >>= fun r14 =>
  pure (LS.next (r14, IntKind.wrap .i64 (s2 + 1)))
 else
  Zap s1 Zsp >>= fun r15 =>
  pure (LS.done r15)
theorem Zbp.L1_ok (a0 : Sl) : LJ Zbp.cx (Zbp.F1 a0) (fun s_ => Zbp.L1 a0 s_.1 s_.2) := by
 rintro ⟨s1, s2⟩
 show SJ _ _ _ _ (Zbp.L1 a0 s1 s2) _
 unfold Zbp.L1
 refine SJ.sr 1 <| J.z 1 <| SJ.seq <| J.f ?_ ?_
 ·exact SJ.skip <| SJ.seq <| SJ.block (id := 1) <| SJ.sr 3 <| J.i 0 fun p10 => J.l 0 Ty5 fun x11 => J.z 1 <| SJ.rg 7 <| J.C 3 F45 (ZeU _) fun r12 => J.S 0 [r12] Ty9 fun b13 => J.p 0 0 rfl Ty9 fun r14 => J.z 1 <| SJ.inBlock <| SJ.rg 2 <| J.z 2 <| SJ.forget (List.Sublist.cons _ List.Sublist.slnil) <| J.o rfl
 exact SJ.exit (id := 0) (by rfl) <| SJ.sr 3 <| J.C 1 F48 (Zfd _ _) fun r15 => J.z 1 <| J.r
noncomputable def Zbp (a0 : Sl) : M ByteArray :=
 Zc7 (fun s_ : (Sl × Int) => Zbp.L1 a0 s_.1 s_.2) (Sl.nil, 0)
theorem ZkG (a0 : Sl) : Ref Tryz.prog 87 [Sl.v a0] (Zbp a0) Zbp.out := by
 refine J.Fn Tryz.func87 ?_
 unfold Zbp
 exact SJ.sr 1 <| J.z 1 <| SJ.sr 1 <| J.z 1 <| SJ.seq <| SJ.sr 3 <| J.z 3 <| SJ.block (id := 0) <| J.L (Zbp.L1_ok a0)

/-! ### weir/addr.PrintIP: function 73 -/
noncomputable def ZdV.out (r_ : (ByteArray × Int)) : Value := .tuple #[.string r_.1, .int .i64 r_.2]
noncomputable def ZdV (a0 : Zbo) : M (ByteArray × Int) :=
 newv 28 ZaX a0 >>= fun b1 =>
 ld ZaX (pt b1 0) >>= fun x2 =>
 Zel x2 >>= fun r3 =>
 if ¬ (r3 = true) then
  fail
 else
  ld (cI .i64) (pt b1 0) >>= fun x10 =>
  if x10 = 4 then
   cut 1 ⟨some (Addr.add (pt b1 0) 1), 16, 16⟩ none (some 4) none >>= fun r13 =>
   Zbp r13 >>= fun r14 =>
   pure (r14, 0)
  else
   fail
theorem Zkn (a0 : Zbo) : Ref Tryz.prog 73 [ZaX.val a0] (ZdV a0) ZdV.out := by
 refine J.Fn Tryz.func73 ?_
 unfold ZdV
 refine SJ.sr 3 <| J.B 0 fun b1 => J.z 2 <| SJ.seq <| SJ.block (id := 0) <| SJ.sr 4 <| J.l 0 Ty28 fun x2 => J.C 0 F80 (Zio _) fun r3 => J.z 2 <| J.f ?_ ?_
 ·exact SJ.fail
 refine SJ.sr 4 <| J.l 1 Ty3 fun x10 => J.z 2 <| J.f ?_ ?_
 ·exact SJ.sr 5 <| J.ca 1 fun r13 => J.C 0 F87 (ZkG _) fun r14 => J.z 2 <| J.r
 exact SJ.fail

/-! ### weir/addr.PrintPrefix: function 72 -/
noncomputable def ZcG.out (r_ : (ByteArray × Int)) : Value := .tuple #[.string r_.1, .int .i64 r_.2]
noncomputable def ZcG (a0 : Zab) : M (ByteArray × Int) :=
 slot 91 >>= fun b1 =>
 ZbU a0 >>= fun r2 =>
 if r2 ≠ 0 then
  fail
 else
  ZdV a0.IP >>= fun r3 =>
  chk (((r3.1.size + Zok.size : Nat) : Int) ≤ 9223372036854775807) >>= fun _ =>
  ZcK a0.Len >>= fun r4 =>
  chk ((((r3.1 ++ Zok).size + r4.size : Nat) : Int) ≤ 9223372036854775807) >>= fun _ =>
  pure (((r3.1 ++ Zok) ++ r4), 0)
theorem ZhT (a0 : Zab) : Ref Tryz.prog 72 [Zaw.val a0] (ZcG a0) ZcG.out := by
 refine J.Fn Tryz.func72 ?_
 unfold ZcG
 refine SJ.sr 3 <| J.b 0 Zaw a0 fun b1 => J.z 2 <| SJ.seq <| SJ.sr 3 <| J.k 0 0 rfl Ty91 (At.whole _) <| J.C 0 F50 (ZdB _) fun r2 => J.z 1 <| SJ.sr 2 <| J.z 2 <| J.f ?_ ?_
 ·exact SJ.fail
 exact SJ.skip <| SJ.sr 8 <| J.k 1 0 rfl Ty28 (ZbE _) <| J.C 0 F73 (Zkn _) fun r3 => J.z 5 <| SJ.sr 8 <| J.T 1 <| J.k 1 0 rfl Ty3 (Zb2 _) <| J.C 0 F45 (ZeU _) fun r4 => J.T 0 <| J.z 2 <| J.r

/-! ### weir/rules.side: function 47 -/
noncomputable def Zar.B : Code := bod Tryz.f47
noncomputable def Zar.cx : Fx := ⟨Tryz.prog, 47, Tryz.f47, none⟩
noncomputable def Zar.out (r_ : ByteArray) : Value := .string r_
noncomputable def Zar.K1 (s14 : Sl) (j27 : ByteArray) : M ByteArray :=
 if (s14.len : Int) > 0 then
  Zap s14 str1 >>= fun r29 =>
  chk (((ZqD.size + r29.size : Nat) : Int) ≤ 9223372036854775807) >>= fun _ =>
  chk (((j27.size + (ZqD ++ r29).size : Nat) : Int) ≤ 9223372036854775807) >>= fun _ =>
  pure (j27 ++ (ZqD ++ r29))
 else
  pure j27
theorem Zar.K1_ok (s14 : Sl) (j27 : ByteArray) :
  SJ Zar.cx [.inBlock 4, .code (c2 (c2 (c2 (c2 (c2 (c2 (c2 Zar.B)))))))] [(6, Sl.v s14), (14, .string j27)] [] (Zar.K1 s14 j27) (rt Zar.out) := by
 unfold Zar.K1
 refine SJ.inBlock <| SJ.seq <| SJ.sr 3 <| J.z 3 <| J.f ?_ ?_
 ·exact SJ.rg 6 <| J.C 2 F48 (Zfd _ _) fun r29 => J.T 0 <| J.T 0 <| J.z 1 <| SJ.sr 2 <| J.z 2 <| J.r
 exact SJ.skip <| SJ.sr 2 <| J.z 2 <| J.r
noncomputable def Zar.K2 (a0 : ByteArray) (a1 : Zaj) (s2 : Sl) (s14 : Sl) : M ByteArray :=
 chk (((Zf4.size + a0.size : Nat) : Int) ≤ 9223372036854775807) >>= fun _ =>
 chk ((((Zf4 ++ a0).size + Zf4.size : Nat) : Int) ≤ 9223372036854775807) >>= fun _ =>
 if (s2.len : Int) = 0 then
  chk (((((Zf4 ++ a0) ++ Zf4).size + str8.size : Nat) : Int) ≤ 9223372036854775807) >>= fun _ =>
  Zar.K1 s14 (((Zf4 ++ a0) ++ Zf4) ++ str8)
 else
  if a1.Not = true then
   fail
  else
   Zap s2 str1 >>= fun r32 =>
   chk (((((Zf4 ++ a0) ++ Zf4).size + r32.size : Nat) : Int) ≤ 9223372036854775807) >>= fun _ =>
   Zar.K1 s14 (((Zf4 ++ a0) ++ Zf4) ++ r32)
theorem Zar.K2_ok (a0 : ByteArray) (a1 : Zaj) (b1 : Nat) (s2 : Sl) (s14 : Sl) :
  SJ Zar.cx [.code (c2 (c2 (c2 (c2 (c2 Zar.B)))))] [(0, .string a0), (3, .pointer (some (pt b1 0))), (5, Sl.v s2), (6, Sl.v s14)] [(b1, ZaC.enc a1)] (Zar.K2 a0 a1 s2 s14) (rt Zar.out) := by
 unfold Zar.K2
 refine SJ.sr 4 <| J.T 1 <| J.T 0 <| J.z 1 <| SJ.seq <| SJ.block (id := 4) <| SJ.sr 4 <| J.z 4 <| J.f ?_ ?_
 ·exact SJ.rg 3 <| J.T 1 <| J.z 1 <| SJ.forget (List.Sublist.cons _ List.Sublist.slnil) <| J.q <| Zar.K1_ok s14 (((Zf4 ++ a0) ++ Zf4) ++ str8)
 refine SJ.sr 3 <| J.k 1 0 rfl Ty4 (ZaI _) <| J.z 1 <| J.f ?_ ?_
 ·exact SJ.fail
 exact SJ.rg 5 <| J.C 2 F48 (Zfd _ _) fun r32 => J.T 0 <| J.z 1 <| SJ.forget (List.Sublist.cons _ List.Sublist.slnil) <| J.q <| Zar.K1_ok s14 (((Zf4 ++ a0) ++ Zf4) ++ r32)
noncomputable def Zar.F1 (a0 : ByteArray) (a1 : Zaj) (b1 : Nat) (s2 : Sl) : LF (Sl × Int) ByteArray := ⟨[.inBlock 2, .code (c2 (c2 (c2 (c2 (c2 Zar.B)))))], c1 (c2 (c1 (c2 (c2 (c2 (c2 Zar.B)))))), fun s_ => [(0, .string a0), (3, .pointer (some (pt b1 0))), (5, Sl.v s2), (6, Sl.v s_.1), (61, Sl.v a1.Ports), (62, .int .i64 (a1.Ports.len : Int)), (63, .int .i64 s_.2)], fun s_ => [(b1, ZaC.enc a1)], (rt Zar.out)⟩
noncomputable def Zar.L1 (a0 : ByteArray) (a1 : Zaj) (s2 : Sl) (s14 : Sl) (s15 : Int) : M (LS (Sl × Int) ByteArray) :=
 if s15 < (a1.Ports.len : Int) then
  idx a1.Ports.a a1.Ports.len s15 2 >>= fun p35 =>
  ld ZaV p35 >>= fun x36 =>
  slot 93 >>= fun b37 =>
  ZcK x36.Lo >>= fun r38 =>
  if x36.Hi ≠ x36.Lo then
   fail
  else
   slot 9 >>= fun b39 =>
   appl cS 9 16 ByteArray.empty s14 [r38] >>= fun r40 =>
   pure (LS.next (r40, IntKind.wrap .i64 (s15 + 1)))
 else
  (Zar.K2 a0 a1 s2 s14) >>= fun b => pure (LS.done b)
theorem Zar.L1_ok (a0 : ByteArray) (a1 : Zaj) (b1 : Nat) (s2 : Sl) : LJ Zar.cx (Zar.F1 a0 a1 b1 s2) (fun s_ => Zar.L1 a0 a1 s2 s_.1 s_.2) := by
 rintro ⟨s14, s15⟩
 show SJ _ _ _ _ (Zar.L1 a0 a1 s2 s14 s15) _
 unfold Zar.L1
 refine SJ.sr 1 <| J.z 1 <| SJ.seq <| J.f ?_ ?_
 ·refine SJ.skip <| SJ.seq <| SJ.block (id := 3) <| SJ.sr 4 <| J.i 0 fun p35 => J.l 0 Ty93 fun x36 => J.a 0 Ty93 fun b37 => J.s 0 0 rfl Ty93 (Upd.w x36) <| J.z 0 <| SJ.sr 4 <| J.k 1 0 rfl Ty3 (ZcX _) <| J.C 0 F45 (ZeU _) fun r38 => J.z 1 <| SJ.seq <| SJ.sr 5 <| J.k 1 0 rfl Ty3 (Zdn _) <| J.k 1 0 rfl Ty3 (ZcX _) <| J.z 1 <| J.f ?_ ?_
  ·exact SJ.fail
  exact SJ.skip <| SJ.rg 5 <| J.S 2 [r38] Ty9 fun b39 => J.p 0 0 rfl Ty9 fun r40 => J.z 1 <| SJ.inBlock <| SJ.rg 2 <| J.z 2 <| SJ.forget (List.Sublist.cons _ (List.Sublist.cons _ (List.Sublist.cons_cons _ List.Sublist.slnil))) <| J.o rfl
 exact SJ.exit (id := 2) (by rfl) <| J.q <| SJ.done <| Zar.K2_ok a0 a1 b1 s2 s14
noncomputable def Zar.K3 (a0 : ByteArray) (a1 : Zaj) (s2 : Sl) : M ByteArray :=
 Zc7 (fun s_ : (Sl × Int) => Zar.L1 a0 a1 s2 s_.1 s_.2) (Sl.nil, 0)
theorem Zar.K3_ok (a0 : ByteArray) (a1 : Zaj) (b1 : Nat) (s2 : Sl) :
  SJ Zar.cx [.code (c2 (c2 (c2 (c2 Zar.B))))] [(0, .string a0), (3, .pointer (some (pt b1 0))), (5, Sl.v s2), (6, Sl.v Sl.nil)] [(b1, ZaC.enc a1)] (Zar.K3 a0 a1 s2) (rt Zar.out) := by
 unfold Zar.K3
 exact SJ.seq <| SJ.sr 4 <| J.k 1 0 rfl Ty59 (ZaU _) <| J.z 2 <| SJ.block (id := 2) <| J.L (Zar.L1_ok a0 a1 b1 s2)
noncomputable def Zar.F2 (a0 : ByteArray) (a1 : Zaj) (b1 : Nat) : LF (Sl × Int) ByteArray := ⟨[.inBlock 0, .code (c2 (c2 (c2 (c2 Zar.B))))], c1 (c2 (c1 (c2 (c2 (c2 Zar.B))))), fun s_ => [(0, .string a0), (3, .pointer (some (pt b1 0))), (5, Sl.v s_.1), (6, Sl.v Sl.nil), (24, Sl.v a1.Nets), (25, .int .i64 (a1.Nets.len : Int)), (26, .int .i64 s_.2)], fun s_ => [(b1, ZaC.enc a1)], (rt Zar.out)⟩
noncomputable def Zar.L2 (a0 : ByteArray) (a1 : Zaj) (s2 : Sl) (s3 : Int) : M (LS (Sl × Int) ByteArray) :=
 if s3 < (a1.Nets.len : Int) then
  idx a1.Nets.a a1.Nets.len s3 18 >>= fun p43 =>
  ld Zaw p43 >>= fun x44 =>
  slot 91 >>= fun b45 =>
  ZcG x44 >>= fun r46 =>
  (if x44.Len = 32 then
    pure (x44.IP.V == 4)
   else
    pure false) >>= fun y47 =>
  (if y47 = true then
    pure true
   else
    pure (x44.Len == 128)) >>= fun y48 =>
  if y48 = true then
   fail
  else
   slot 9 >>= fun b49 =>
   appl cS 9 16 ByteArray.empty s2 [r46.1] >>= fun r50 =>
   pure (LS.next (r50, IntKind.wrap .i64 (s3 + 1)))
 else
  (Zar.K3 a0 a1 s2) >>= fun b => pure (LS.done b)
theorem Zar.L2_ok (a0 : ByteArray) (a1 : Zaj) (b1 : Nat) : LJ Zar.cx (Zar.F2 a0 a1 b1) (fun s_ => Zar.L2 a0 a1 s_.1 s_.2) := by
 rintro ⟨s2, s3⟩
 show SJ _ _ _ _ (Zar.L2 a0 a1 s2 s3) _
 unfold Zar.L2
 refine SJ.sr 1 <| J.z 1 <| SJ.seq <| J.f ?_ ?_
 ·refine SJ.skip <| SJ.seq <| SJ.block (id := 1) <| SJ.sr 4 <| J.i 0 fun p43 => J.l 0 Ty91 fun x44 => J.a 0 Ty91 fun b45 => J.s 0 0 rfl Ty91 (Upd.w x44) <| J.z 0 <| SJ.sr 7 <| J.k 0 0 rfl Ty91 (At.whole _) <| J.C 0 F72 (ZhT _) fun r46 => J.z 5 <| SJ.seq <| SJ.sr 14 <| J.k 1 0 rfl Ty3 (Zb2 _) <| J.j 2 4 .bool ?_ ?_ fun y47 => ?_
  ·exact J.k 2 0 rfl Ty3 (At.trans (ZbE _) (Zde _)) <| J.e 2
  ·exact J.e 5
  refine J.j 1 3 .bool ?_ ?_ fun y48 => ?_
  ·exact J.e 4
  ·exact J.k 1 0 rfl Ty3 (Zb2 _) <| J.e 2
  refine J.z 0 <| J.f ?_ ?_
  ·exact SJ.fail
  exact SJ.skip <| SJ.rg 5 <| J.S 2 [r46.1] Ty9 fun b49 => J.p 0 0 rfl Ty9 fun r50 => J.z 1 <| SJ.inBlock <| SJ.rg 2 <| J.z 2 <| SJ.forget (List.Sublist.cons _ (List.Sublist.cons _ (List.Sublist.cons_cons _ List.Sublist.slnil))) <| J.o rfl
 exact SJ.exit (id := 0) (by rfl) <| J.q <| SJ.done <| Zar.K3_ok a0 a1 b1 s2
noncomputable def Zar (a0 : ByteArray) (a1 : Zaj) : M ByteArray :=
 slot 61 >>= fun b1 =>
 if (IntKind.wrap .i64 ((a1.Nets.len : Int) + (a1.Ports.len : Int))) = 0 then
  fail
 else
  Zc7 (fun s_ : (Sl × Int) => Zar.L2 a0 a1 s_.1 s_.2) (Sl.nil, 0)
theorem Zh2 (a0 : ByteArray) (a1 : Zaj) : Ref Tryz.prog 47 [.string a0, ZaC.val a1] (Zar a0 a1) Zar.out := by
 refine J.Fn Tryz.func47 ?_
 unfold Zar
 refine SJ.sr 2 <| J.b 0 ZaC a1 fun b1 => J.z 1 <| SJ.seq <| SJ.sr 8 <| J.k 1 0 rfl Ty58 (Zav _) <| J.k 2 0 rfl Ty59 (ZaU _) <| J.z 3 <| J.f ?_ ?_
 ·exact SJ.fail
 exact SJ.skip <| SJ.sr 2 <| J.z 2 <| SJ.seq <| SJ.sr 4 <| J.k 1 0 rfl Ty58 (Zav _) <| J.z 2 <| SJ.block (id := 0) <| J.L (Zar.L2_ok a0 a1 b1)

/-! ### weir/rules.write: function 29 -/
noncomputable def ZaZ.B : Code := bod Tryz.f29
noncomputable def ZaZ.cx : Fx := ⟨Tryz.prog, 29, Tryz.f29, none⟩
noncomputable def ZaZ.out (r_ : ByteArray) : Value := .string r_
noncomputable def ZaZ.K1 (a0 : Zal) (x4 : ByteArray) (r5 : ByteArray) (r6 : ByteArray) (r7 : ByteArray) (s9 : Sl) : M ByteArray :=
 if (s9.len : Int) > 0 then
  fail
 else
  if a0.Type_ > 0 then
   fail
  else
   if a0.Pieces = true then
    fail
   else
    pure ((x4 ++ r5) ++ (r6 ++ r7))
theorem ZaZ.K1_ok (a0 : Zal) (b1 : Nat) (x4 : ByteArray) (r5 : ByteArray) (r6 : ByteArray) (r7 : ByteArray) (s9 : Sl) :
  SJ ZaZ.cx [.code (c2 (c2 (c2 (c2 (c2 (c2 (c2 (c2 (c2 ZaZ.B)))))))))] [(1, .pointer (some (pt b1 0))), (3, .string ((x4 ++ r5) ++ (r6 ++ r7))), (4, Sl.v s9)] [(b1, Zak.enc a0)] (ZaZ.K1 a0 x4 r5 r6 r7 s9) (rt ZaZ.out) := by
 unfold ZaZ.K1
 refine SJ.seq <| SJ.sr 3 <| J.z 3 <| J.f ?_ ?_
 ·exact SJ.fail
 refine SJ.skip <| SJ.seq <| SJ.sr 3 <| J.k 1 0 rfl Ty3 (Zcs _) <| J.z 1 <| J.f ?_ ?_
 ·exact SJ.fail
 refine SJ.skip <| SJ.seq <| SJ.sr 2 <| J.k 1 0 rfl Ty4 (ZdR _) <| J.z 0 <| J.f ?_ ?_
 ·exact SJ.fail
 exact SJ.skip <| SJ.sr 2 <| J.z 2 <| J.r
noncomputable def ZaZ.F1 (a0 : Zal) (b1 : Nat) (x4 : ByteArray) (r5 : ByteArray) (r6 : ByteArray) (r7 : ByteArray) (x8 : Sl) : LF (Sl × Int) ByteArray := ⟨[.inBlock 0, .code (c2 (c2 (c2 (c2 (c2 (c2 (c2 (c2 (c2 ZaZ.B)))))))))], c1 (c2 (c1 (c2 (c2 (c2 (c2 (c2 (c2 (c2 (c2 ZaZ.B)))))))))), fun s_ => [(1, .pointer (some (pt b1 0))), (3, .string ((x4 ++ r5) ++ (r6 ++ r7))), (4, Sl.v s_.1), (54, Sl.v x8), (55, .int .i64 (x8.len : Int)), (56, .int .i64 s_.2)], fun s_ => [(b1, Zak.enc a0)], (rt ZaZ.out)⟩
noncomputable def ZaZ.L1 (a0 : Zal) (x4 : ByteArray) (r5 : ByteArray) (r6 : ByteArray) (r7 : ByteArray) (x8 : Sl) (s9 : Sl) (s10 : Int) : M (LS (Sl × Int) ByteArray) :=
 if s10 < (x8.len : Int) then
  idx x8.a x8.len s10 1 >>= fun p21 =>
  ld cS p21 >>= fun x22 =>
  chk (0 ≤ (IntKind.wrap .u64 s10)) >>= fun _ =>
  if (band .i64 (Int.fdiv a0.Set (2 ^ min (Int.toNat (IntKind.wrap .u64 s10)) 64)) 1) = 1 then
   fail
  else
   chk (0 ≤ (IntKind.wrap .u64 s10)) >>= fun _ =>
   if (band .i64 (Int.fdiv a0.Clear (2 ^ min (Int.toNat (IntKind.wrap .u64 s10)) 64)) 1) = 1 then
    fail
   else
    pure (LS.next (s9, IntKind.wrap .i64 (s10 + 1)))
 else
  (ZaZ.K1 a0 x4 r5 r6 r7 s9) >>= fun b => pure (LS.done b)
theorem ZaZ.L1_ok (a0 : Zal) (b1 : Nat) (x4 : ByteArray) (r5 : ByteArray) (r6 : ByteArray) (r7 : ByteArray) (x8 : Sl) : LJ ZaZ.cx (ZaZ.F1 a0 b1 x4 r5 r6 r7 x8) (fun s_ => ZaZ.L1 a0 x4 r5 r6 r7 x8 s_.1 s_.2) := by
 rintro ⟨s9, s10⟩
 show SJ _ _ _ _ (ZaZ.L1 a0 x4 r5 r6 r7 x8 s9 s10) _
 unfold ZaZ.L1
 refine SJ.sr 1 <| J.z 1 <| SJ.seq <| J.f ?_ ?_
 ·refine SJ.skip <| SJ.seq <| SJ.block (id := 1) <| SJ.sr 5 <| J.i 1 fun p21 => J.l 0 Ty9 fun x22 => J.z 2 <| SJ.seq <| SJ.sr 7 <| J.k 1 0 rfl Ty3 (Zb8 _) <| J.g 2 <| OJ.shr (d := 65) (T := 3) (yT := 132) (y := .tmp 62) (z := .tmp 64) (k := .i64) (yk := .u64) (p := a0.Set) (q := (IntKind.wrap .u64 s10)) fun hq26 => J.z 2 <| J.f ?_ ?_
  ·exact SJ.fail
  refine SJ.skip <| SJ.sr 7 <| J.k 1 0 rfl Ty3 (ZbN _) <| J.g 2 <| OJ.shr (d := 76) (T := 3) (yT := 132) (y := .tmp 73) (z := .tmp 75) (k := .i64) (yk := .u64) (p := a0.Clear) (q := (IntKind.wrap .u64 s10)) fun hq24 => J.z 2 <| J.f ?_ ?_
  ·exact SJ.fail
  exact SJ.skip <| SJ.inBlock <| SJ.rg 2 <| J.z 2 <| J.o rfl
 exact SJ.exit (id := 0) (by rfl) <| J.q <| SJ.done <| ZaZ.K1_ok a0 b1 x4 r5 r6 r7 s9
noncomputable def ZaZ (a0 : Zal) : M ByteArray :=
 slot 63 >>= fun b1 =>
 ld cL ⟨0, 0, none⟩ >>= fun x2 =>
 idx x2.a x2.len (IntKind.wrap .i64 (a0.Act - 1)) 1 >>= fun p3 =>
 ld cS p3 >>= fun x4 =>
 if a0.Class > 0 then
  fail
 else
  ZeE a0 >>= fun r5 =>
  chk (((x4.size + r5.size : Nat) : Int) ≤ 9223372036854775807) >>= fun _ =>
  if a0.In > 0 then
   fail
  else
   if a0.Vid > 0 then
    fail
   else
    draw >>= fun _ =>
    Zar ZmX a0.From >>= fun r6 =>
    Zar Zo9 a0.To >>= fun r7 =>
    chk (((r6.size + r7.size : Nat) : Int) ≤ 9223372036854775807) >>= fun _ =>
    chk ((((x4 ++ r5).size + (r6 ++ r7).size : Nat) : Int) ≤ 9223372036854775807) >>= fun _ =>
    ld cL ⟨2, 0, none⟩ >>= fun x8 =>
    Zc7 (fun s_ : (Sl × Int) => ZaZ.L1 a0 x4 r5 r6 r7 x8 s_.1 s_.2) (Sl.nil, 0)
theorem Zky (a0 : Zal) : Ref Tryz.prog 29 [Zak.val a0] (ZaZ a0) ZaZ.out := by
 refine J.Fn Tryz.func29 ?_
 unfold ZaZ
 refine SJ.sr 2 <| J.b 0 Zak a0 fun b1 => J.z 1 <| SJ.sr 7 <| J.l 0 Zql fun x2 => J.k 1 0 rfl Ty3 (Zb9 _) <| J.i 1 fun p3 => J.l 0 Ty9 fun x4 => J.z 1 <| SJ.seq <| SJ.sr 3 <| J.k 1 0 rfl Ty3 (ZcQ _) <| J.z 1 <| J.f ?_ ?_
 ·exact SJ.fail
 refine SJ.skip <| SJ.sr 5 <| J.k 1 0 rfl Ty63 (At.whole _) <| J.C 0 F46 (Zlu _) fun r5 => J.T 0 <| J.z 1 <| SJ.seq <| SJ.sr 3 <| J.k 1 0 rfl Ty3 (ZdJ _) <| J.z 1 <| J.f ?_ ?_
 ·exact SJ.fail
 refine SJ.skip <| SJ.seq <| SJ.sr 3 <| J.k 1 0 rfl Ty3 (Zdm _) <| J.z 1 <| J.f ?_ ?_
 ·exact SJ.fail
 exact SJ.skip <| SJ.seq <| J.D [0, 1, 2, 4, 5, 3, 6, 7, 8, 9] Zc0 <| J.k 2 0 rfl Ty61 (ZbJ _) <| J.k 1 0 rfl Ty61 (ZbM _) <| OJ.call (d := 48) (g := 47) (ats := #[9, 61]) (args := [.const (.string ZmX), .tmp 47]) (owed := [⟨5, 61, (pt b1 9), ZaC.val a0.To⟩]) F47 (Zh2 ZmX a0.From) fun r6 => OW.known (j := 0) (q := a0.To) Ty61 rfl (ZbM a0) <| OW.nil <| J.C 0 F47 (Zh2 _ _) fun r7 => J.T 0 <| J.T 0 <| J.z 1 <| SJ.sr 1 <| J.z 1 <| SJ.seq <| SJ.sr 3 <| J.l 0 Zql fun x8 => J.z 2 <| SJ.block (id := 0) <| J.L (ZaZ.L1_ok a0 b1 x4 r5 r6 r7 x8)

/-! ### weir/rules.PrintRule: function 16 -/
noncomputable def Zcy.out (r_ : (ByteArray × Int)) : Value := .tuple #[.string r_.1, .int .i64 r_.2]
noncomputable def Zcy (a0 : Zal) : M (ByteArray × Int) :=
 slot 63 >>= fun b1 =>
 ZaS a0 >>= fun r2 =>
 if r2 ≠ 0 then
  fail
 else
  ZaZ a0 >>= fun r3 =>
  pure (r3, 0)
theorem Zh4 (a0 : Zal) : Ref Tryz.prog 16 [Zak.val a0] (Zcy a0) Zcy.out := by
 refine J.Fn Tryz.func16 ?_
 unfold Zcy
 refine SJ.sr 3 <| J.b 0 Zak a0 fun b1 => J.z 2 <| SJ.seq <| SJ.sr 3 <| J.k 0 0 rfl Ty63 (At.whole _) <| J.C 0 F10 (ZfF _) fun r2 => J.z 1 <| SJ.sr 2 <| J.z 2 <| J.f ?_ ?_
 ·exact SJ.fail
 exact SJ.skip <| SJ.sr 4 <| J.k 0 0 rfl Ty63 (At.whole _) <| J.C 0 F29 (Zky _) fun r3 => J.z 2 <| J.r

/-! ### weir/weirref16.SameSide: function 30 -/
noncomputable def Zac.B : Code := bod Tryz.f30
noncomputable def Zac.cx : Fx := ⟨Tryz.prog, 30, Tryz.f30, none⟩
noncomputable def Zac.out (r_ : Bool) : Value := .bool r_
noncomputable def Zac.F1 (a0 : Zaj) (a1 : Zaj) (b1 : Nat) (b2 : Nat) : LF Int Bool := ⟨[.inBlock 2, .code (c2 (c2 (c2 (c2 Zac.B))))], c1 (c2 (c1 (c2 (c2 (c2 Zac.B))))), fun s_ => [(2, .pointer (some (pt b1 0))), (3, .pointer (some (pt b2 0))), (6, .int .i64 s_)], fun s_ => [(b2, ZaC.enc a1), (b1, ZaC.enc a0)], (rt Zac.out)⟩
noncomputable def Zac.L1 (a0 : Zaj) (a1 : Zaj) (s12 : Int) : M (LS Int Bool) :=
 if s12 < (a0.Ports.len : Int) then
  draw >>= fun _ =>
  idx a0.Ports.a a0.Ports.len s12 2 >>= fun p19 =>
  ld ZaV p19 >>= fun x20 =>
  idx a1.Ports.a a1.Ports.len s12 2 >>= fun p21 =>
  ld ZaV p21 >>= fun x22 =>
  if ¬ (x20 = x22) then
   pure (LS.done false)
  else
   pure (LS.next (IntKind.wrap .i64 (s12 + 1)))
 else
  pure (LS.done true)
theorem Zac.L1_ok (a0 : Zaj) (a1 : Zaj) (b1 : Nat) (b2 : Nat) : LJ Zac.cx (Zac.F1 a0 a1 b1 b2) (fun s_ => Zac.L1 a0 a1 s_) := by
 rintro s12
 show SJ _ _ _ _ (Zac.L1 a0 a1 s12) _
 unfold Zac.L1
 refine SJ.seq <| SJ.sr 5 <| J.k 2 1 rfl Ty59 (ZaU _) <| J.z 2 <| J.f ?_ ?_
 ·refine SJ.skip <| SJ.seq <| SJ.block (id := 3) <| SJ.seq <| J.R 11 Zc0 <| J.k 1 1 rfl Ty59 (ZaU _) <| J.i 1 fun p19 => J.l 0 Ty93 fun x20 => J.k 1 0 rfl Ty59 (ZaU _) <| J.i 1 fun p21 => J.l 0 Ty93 fun x22 => OJ.neq (d := 65) (T := 93) (yT := 93) (y := .tmp 59) (z := .tmp 64) (cd := ZaV) (p := x20) (q := x22) rfl Eq93 <| J.z 0 <| J.f ?_ ?_
  ·exact SJ.sr 1 <| J.z 1 <| J.r
  exact SJ.skip <| SJ.inBlock <| SJ.rg 3 <| J.z 3 <| J.o rfl
 exact SJ.exit (id := 2) (by rfl) <| SJ.sr 1 <| J.z 1 <| J.r
noncomputable def Zac.K1 (a0 : Zaj) (a1 : Zaj) : M Bool :=
 Zc7 (fun s_ : Int => Zac.L1 a0 a1 s_) 0
theorem Zac.K1_ok (a0 : Zaj) (a1 : Zaj) (b1 : Nat) (b2 : Nat) :
  SJ Zac.cx [.code (c2 (c2 (c2 Zac.B)))] [(2, .pointer (some (pt b1 0))), (3, .pointer (some (pt b2 0)))] [(b2, ZaC.enc a1), (b1, ZaC.enc a0)] (Zac.K1 a0 a1) (rt Zac.out) := by
 unfold Zac.K1
 exact SJ.seq <| SJ.sr 1 <| J.z 1 <| SJ.block (id := 2) <| J.L (Zac.L1_ok a0 a1 b1 b2)
noncomputable def Zac.F2 (a0 : Zaj) (a1 : Zaj) (b1 : Nat) (b2 : Nat) : LF Int Bool := ⟨[.inBlock 0, .code (c2 (c2 (c2 Zac.B)))], c1 (c2 (c1 (c2 (c2 Zac.B)))), fun s_ => [(2, .pointer (some (pt b1 0))), (3, .pointer (some (pt b2 0))), (5, .int .i64 s_)], fun s_ => [(b2, ZaC.enc a1), (b1, ZaC.enc a0)], (rt Zac.out)⟩
noncomputable def Zac.L2 (a0 : Zaj) (a1 : Zaj) (s5 : Int) : M (LS Int Bool) :=
 if s5 < (a0.Nets.len : Int) then
  draw >>= fun _ =>
  idx a0.Nets.a a0.Nets.len s5 18 >>= fun p25 =>
  ld Zaw p25 >>= fun x26 =>
  idx a1.Nets.a a1.Nets.len s5 18 >>= fun p27 =>
  ld Zaw p27 >>= fun x28 =>
  if ¬ (x26 = x28) then
   pure (LS.done false)
  else
   pure (LS.next (IntKind.wrap .i64 (s5 + 1)))
 else
  (Zac.K1 a0 a1) >>= fun b => pure (LS.done b)
theorem Zac.L2_ok (a0 : Zaj) (a1 : Zaj) (b1 : Nat) (b2 : Nat) : LJ Zac.cx (Zac.F2 a0 a1 b1 b2) (fun s_ => Zac.L2 a0 a1 s_) := by
 rintro s5
 show SJ _ _ _ _ (Zac.L2 a0 a1 s5) _
 unfold Zac.L2
 refine SJ.seq <| SJ.sr 5 <| J.k 2 1 rfl Ty58 (Zav _) <| J.z 2 <| J.f ?_ ?_
 ·refine SJ.skip <| SJ.seq <| SJ.block (id := 1) <| SJ.seq <| J.R 11 Zc0 <| J.k 1 1 rfl Ty58 (Zav _) <| J.i 1 fun p25 => J.l 0 Ty91 fun x26 => J.k 1 0 rfl Ty58 (Zav _) <| J.i 1 fun p27 => J.l 0 Ty91 fun x28 => OJ.neq (d := 47) (T := 91) (yT := 91) (y := .tmp 41) (z := .tmp 46) (cd := Zaw) (p := x26) (q := x28) rfl Eq91 <| J.z 0 <| J.f ?_ ?_
  ·exact SJ.sr 1 <| J.z 1 <| J.r
  exact SJ.skip <| SJ.inBlock <| SJ.rg 3 <| J.z 3 <| J.o rfl
 exact SJ.exit (id := 0) (by rfl) <| J.q <| SJ.done <| Zac.K1_ok a0 a1 b1 b2
noncomputable def Zac (a0 : Zaj) (a1 : Zaj) : M Bool :=
 slot 61 >>= fun b1 =>
 slot 61 >>= fun b2 =>
 (if ¬ (a0.Not = a1.Not) then
   pure true
  else
   pure ((a0.Nets.len : Int) != (a1.Nets.len : Int))) >>= fun y3 =>
 (if y3 = true then
   pure true
  else
   pure ((a0.Ports.len : Int) != (a1.Ports.len : Int))) >>= fun y4 =>
 if y4 = true then
  pure false
 else
  Zc7 (fun s_ : Int => Zac.L2 a0 a1 s_) 0
theorem ZeN (a0 : Zaj) (a1 : Zaj) : Ref Tryz.prog 30 [ZaC.val a0, ZaC.val a1] (Zac a0 a1) Zac.out := by
 refine J.Fn Tryz.func30 ?_
 unfold Zac
 refine SJ.sr 3 <| J.b 0 ZaC a0 fun b1 => J.b 0 ZaC a1 fun b2 => J.z 1 <| SJ.seq <| SJ.sr 23 <| J.k 1 1 rfl Ty4 (ZaI _) <| J.k 1 0 rfl Ty4 (ZaI _) <| J.j 2 7 .bool ?_ ?_ fun y3 => ?_
 ·exact J.e 8
 ·exact J.k 1 1 rfl Ty58 (Zav _) <| J.k 2 0 rfl Ty58 (Zav _) <| J.e 3
 refine J.j 1 7 .bool ?_ ?_ fun y4 => ?_
 ·exact J.e 8
 ·exact J.k 1 1 rfl Ty59 (ZaU _) <| J.k 2 0 rfl Ty59 (ZaU _) <| J.e 3
 refine J.z 0 <| J.f ?_ ?_
 ·exact SJ.sr 1 <| J.z 1 <| J.r
 exact SJ.skip <| SJ.seq <| SJ.sr 1 <| J.z 1 <| SJ.block (id := 0) <| J.L (Zac.L2_ok a0 a1 b1 b2)

/-! ### weir/weirref16.Same: function 17 -/
noncomputable def Zdb.out (r_ : Bool) : Value := .bool r_
noncomputable def Zdb (a0 : Zal) (a1 : Zal) : M Bool :=
 slot 63 >>= fun b1 =>
 slot 63 >>= fun b2 =>
 (if a0.Act ≠ a1.Act then
   pure true
  else
   pure (a0.Class != a1.Class)) >>= fun y3 =>
 (if y3 = true then
   pure true
  else
   pure (a0.Kind != a1.Kind)) >>= fun y4 =>
 (if y4 = true then
   pure true
  else
   pure (a0.Proto != a1.Proto)) >>= fun y5 =>
 (if y5 = true then
   pure true
  else
   pure (a0.In != a1.In)) >>= fun y6 =>
 (if y6 = true then
   pure true
  else
   pure (a0.Vid != a1.Vid)) >>= fun y7 =>
 if y7 = true then
  pure false
 else
  (if a0.Set ≠ a1.Set then
    pure true
   else
    pure (a0.Clear != a1.Clear)) >>= fun y8 =>
  (if y8 = true then
    pure true
   else
    pure (a0.Type_ != a1.Type_)) >>= fun y9 =>
  (if y9 = true then
    pure true
   else
    pure (!(a0.Pieces == a1.Pieces))) >>= fun y10 =>
  if y10 = true then
   pure false
  else
   Zac a0.From a1.From >>= fun r11 =>
   (if r11 = true then
     Zac a0.To a1.To >>= fun r12 =>
     pure r12
    else
     pure false) >>= fun y13 =>
   pure y13
theorem Ziv (a0 : Zal) (a1 : Zal) : Ref Tryz.prog 17 [Zak.val a0, Zak.val a1] (Zdb a0 a1) Zdb.out := by
 refine J.Fn Tryz.func17 ?_
 unfold Zdb
 refine SJ.sr 3 <| J.b 0 Zak a0 fun b1 => J.b 0 Zak a1 fun b2 => J.z 1 <| SJ.seq <| SJ.sr 40 <| J.k 1 1 rfl Ty3 (Zb9 _) <| J.k 1 0 rfl Ty3 (Zb9 _) <| J.j 2 5 .bool ?_ ?_ fun y3 => ?_
 ·exact J.e 6
 ·exact J.k 1 1 rfl Ty3 (ZcQ _) <| J.k 1 0 rfl Ty3 (ZcQ _) <| J.e 2
 refine J.j 1 5 .bool ?_ ?_ fun y4 => ?_
 ·exact J.e 6
 ·exact J.k 1 1 rfl Ty3 (ZbV _) <| J.k 1 0 rfl Ty3 (ZbV _) <| J.e 2
 refine J.j 1 5 .bool ?_ ?_ fun y5 => ?_
 ·exact J.e 6
 ·exact J.k 1 1 rfl Ty3 (Zbv _) <| J.k 1 0 rfl Ty3 (Zbv _) <| J.e 2
 refine J.j 1 5 .bool ?_ ?_ fun y6 => ?_
 ·exact J.e 6
 ·exact J.k 1 1 rfl Ty3 (ZdJ _) <| J.k 1 0 rfl Ty3 (ZdJ _) <| J.e 2
 refine J.j 1 5 .bool ?_ ?_ fun y7 => ?_
 ·exact J.e 6
 ·exact J.k 1 1 rfl Ty3 (Zdm _) <| J.k 1 0 rfl Ty3 (Zdm _) <| J.e 2
 refine J.z 0 <| J.f ?_ ?_
 ·exact SJ.sr 1 <| J.z 1 <| J.r
 refine SJ.skip <| SJ.seq <| SJ.sr 26 <| J.k 1 1 rfl Ty3 (Zb8 _) <| J.k 1 0 rfl Ty3 (Zb8 _) <| J.j 2 5 .bool ?_ ?_ fun y8 => ?_
 ·exact J.e 6
 ·exact J.k 1 1 rfl Ty3 (ZbN _) <| J.k 1 0 rfl Ty3 (ZbN _) <| J.e 2
 refine J.j 1 5 .bool ?_ ?_ fun y9 => ?_
 ·exact J.e 6
 ·exact J.k 1 1 rfl Ty3 (Zcs _) <| J.k 1 0 rfl Ty3 (Zcs _) <| J.e 2
 refine J.j 1 5 .bool ?_ ?_ fun y10 => ?_
 ·exact J.e 6
 ·exact J.k 1 1 rfl Ty4 (ZdR _) <| J.k 1 0 rfl Ty4 (ZdR _) <| J.e 2
 refine J.z 0 <| J.f ?_ ?_
 ·exact SJ.sr 1 <| J.z 1 <| J.r
 refine SJ.skip <| SJ.sr 13 <| J.k 1 1 rfl Ty61 (ZbJ _) <| J.k 1 0 rfl Ty61 (ZbJ _) <| J.C 0 F30 (ZeN _ _) fun r11 => J.j 1 5 .bool ?_ ?_ fun y13 => ?_
 ·exact J.k 1 1 rfl Ty61 (ZbM _) <| J.k 1 0 rfl Ty61 (ZbM _) <| J.C 0 F30 (ZeN _ _) fun r12 => J.e 1
 ·exact J.e 6
 exact J.z 1 <| J.r
end Go.Proofs.YtjceipelgkdoaaaGreatDoor.Lx
