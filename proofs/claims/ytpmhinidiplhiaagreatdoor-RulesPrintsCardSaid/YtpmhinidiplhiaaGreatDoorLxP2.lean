/- Programs of the M-world for Go functions, each with the proof that the Go text does what it says. Printed by lxgen.py. -/
import Derived.Test.YtpmhinidiplhiaaGreatDoorLxT
import Derived.Test.YtpmhinidiplhiaaGreatDoorLxP0
import Derived.Test.YtpmhinidiplhiaaGreatDoorLxP1
set_option linter.unusedVariables false
set_option linter.unusedSimpArgs false
set_option linter.unusedSectionVars false
namespace Go.Proofs.YtpmhinidiplhiaaGreatDoor.Lx
open Go Go.Proofs
variable [Zdr]
/-! ### internal/stringslite.Index: function 234 -/
noncomputable def ZaD.B : Code := bod Tryz.f234
noncomputable def ZaD.cx : Fx := ⟨Tryz.prog, 234, Tryz.f234, none⟩
noncomputable def ZaD.out (r_ : Int) : Value := .int .i64 r_
noncomputable def ZaD.F1 (a0 : ByteArray) (a1 : ByteArray) : LF (Int × Int) Int := ⟨[.inBlock 1, .code (c2 (c2 (c2 (c2 (c2 (c2 (c2 (c2 (c2 ZaD.B)))))))))], c1 (c1 (c2 (c2 (c2 (c2 (c2 (c2 (c2 (c2 ZaD.B))))))))), fun s_ => [(0, .string a0), (1, .string a1), (5, .int .i64 (a1.size : Int)), (6, .int .u8 (sb a1 0)), (7, .int .u8 (sb a1 1)), (8, .int .i64 s_.1), (9, .int .i64 (IntKind.wrap .i64 ((IntKind.wrap .i64 ((a0.size : Int) - (a1.size : Int))) + 1))), (10, .int .i64 s_.2)], fun s_ => [], (rt ZaD.out)⟩
noncomputable def ZaD.K1 (a0 : ByteArray) (a1 : ByteArray) (s46 : Int) (j84 : Int) : M (LS (Int × Int) Int) :=
 chk ((0 : Int) ≤ (IntKind.wrap .i64 (j84 + 1)) ∧ (IntKind.wrap .i64 (j84 + 1)) < (a0.size : Int)) >>= fun _ =>
 (if (sb a0 (IntKind.wrap .i64 (j84 + 1))) = (sb a1 1) then
   chk (0 ≤ (j84 : Int) ∧ (j84 : Int) ≤ (IntKind.wrap .i64 (j84 + (a1.size : Int))) ∧ (IntKind.wrap .i64 (j84 + (a1.size : Int))) ≤ (a0.size : Int)) >>= fun _ =>
   pure ((ByteArray.extract a0 (Int.toNat j84) (Int.toNat (IntKind.wrap .i64 (j84 + (a1.size : Int))))).toList == a1.toList)
  else
   pure false) >>= fun y87 =>
 if y87 = true then
  pure (LS.done j84)
 else
  ld (cI .i64) ⟨6, 0, none⟩ >>= fun x88 =>
  (if (a1.size : Int) ≤ x88 then
    ZdY (IntKind.wrap .i64 (j84 + 1)) >>= fun r89 =>
    pure (decide ((IntKind.wrap .i64 (s46 + 1)) > r89))
   else
    pure false) >>= fun y90 =>
  if y90 = true then
   chk (0 ≤ ((IntKind.wrap .i64 (j84 + 1)) : Int) ∧ ((IntKind.wrap .i64 (j84 + 1)) : Int) ≤ (a0.size : Int) ∧ (a0.size : Int) ≤ (a0.size : Int)) >>= fun _ =>
   fail
  else
   ld (cI .i64) ⟨6, 0, none⟩ >>= fun x99 =>
   (if (a1.size : Int) > x99 then
     pure (decide ((IntKind.wrap .i64 (s46 + 1)) ≥ (IntKind.wrap .i64 (4 + (Int.fdiv (IntKind.wrap .i64 (j84 + 1)) (2 ^ 4))))))
    else
     pure false) >>= fun y100 =>
   (if y100 = true then
     pure (decide ((IntKind.wrap .i64 (j84 + 1)) < (IntKind.wrap .i64 ((IntKind.wrap .i64 ((a0.size : Int) - (a1.size : Int))) + 1))))
    else
     pure false) >>= fun y101 =>
   if y101 = true then
    chk (0 ≤ ((IntKind.wrap .i64 (j84 + 1)) : Int) ∧ ((IntKind.wrap .i64 (j84 + 1)) : Int) ≤ (a0.size : Int) ∧ (a0.size : Int) ≤ (a0.size : Int)) >>= fun _ =>
    Zad (ByteArray.extract a0 (Int.toNat (IntKind.wrap .i64 (j84 + 1))) (Int.toNat (a0.size : Int))) a1 >>= fun r104 =>
    if r104 < 0 then
     pure (LS.done (-1))
    else
     pure (LS.done (IntKind.wrap .i64 ((IntKind.wrap .i64 (j84 + 1)) + r104)))
   else
    pure (LS.next (IntKind.wrap .i64 (j84 + 1), IntKind.wrap .i64 (s46 + 1)))
theorem ZaD.K1_ok (a0 : ByteArray) (a1 : ByteArray) (s46 : Int) (j84 : Int) :
  SJ ZaD.cx [.code (c2 (c1 (c2 (c1 (c1 (c1 (c2 (c2 (c2 (c2 (c2 (c2 (c2 (c2 ZaD.B)))))))))))))), .inBlock 2, .inLoop (c1 (c1 (c1 (c2 (c2 (c2 (c2 (c2 (c2 (c2 (c2 ZaD.B))))))))))), .inBlock 1, .code (c2 (c2 (c2 (c2 (c2 (c2 (c2 (c2 (c2 ZaD.B)))))))))] [(0, .string a0), (1, .string a1), (5, .int .i64 (a1.size : Int)), (6, .int .u8 (sb a1 0)), (7, .int .u8 (sb a1 1)), (8, .int .i64 j84), (9, .int .i64 (IntKind.wrap .i64 ((IntKind.wrap .i64 ((a0.size : Int) - (a1.size : Int))) + 1))), (10, .int .i64 s46)] [] (ZaD.K1 a0 a1 s46 j84) (ZaD.F1 a0 a1).f := by
 unfold ZaD.K1
 refine SJ.seq <| SJ.sr 16 <| J.t 3 fun hb85 hb86 => J.j 3 8 .bool ?_ ?_ fun y87 => ?_
 ·exact J.ct 5 <| J.e 3
 ·exact J.e 9
 refine J.z 0 <| J.f ?_ ?_
 ·exact SJ.sr 2 <| J.z 2 <| J.r
 refine SJ.skip <| SJ.sr 3 <| J.z 3 <| SJ.sr 3 <| J.z 3 <| SJ.sr 9 <| J.l 1 Ty3 fun x88 => J.j 2 4 .bool ?_ ?_ fun y90 => ?_
 ·exact J.C 2 F226 (Zif _) fun r89 => J.e 2
 ·exact J.e 5
 refine J.z 0 <| J.f ?_ ?_
 ·exact SJ.sr 6 <| J.ct 2 <| J.g 1 <| OJ.fail
 refine SJ.sr 15 <| J.l 1 Ty3 fun x99 => J.j 2 5 .bool ?_ ?_ fun y100 => ?_
 ·exact J.e 6
 ·exact J.e 6
 refine J.j 1 3 .bool ?_ ?_ fun y101 => ?_
 ·exact J.e 4
 ·exact J.e 4
 refine J.z 0 <| J.f ?_ ?_
 ·refine SJ.sr 6 <| J.ct 2 <| J.C 1 F250 (ZeA _ _) fun r104 => J.z 1 <| SJ.seq <| SJ.sr 2 <| J.z 2 <| J.f ?_ ?_
  ·exact SJ.sr 1 <| J.z 1 <| J.r
  exact SJ.skip <| SJ.sr 4 <| J.z 4 <| J.r
 exact SJ.skip <| SJ.inBlock <| J.o rfl
noncomputable def ZaD.L1 (a0 : ByteArray) (a1 : ByteArray) (s45 : Int) (s46 : Int) : M (LS (Int × Int) Int) :=
 if s45 < (IntKind.wrap .i64 ((IntKind.wrap .i64 ((a0.size : Int) - (a1.size : Int))) + 1)) then
  chk ((0 : Int) ≤ s45 ∧ s45 < (a0.size : Int)) >>= fun _ =>
  if (sb a0 s45) ≠ (sb a1 0) then
   chk (0 ≤ ((IntKind.wrap .i64 (s45 + 1)) : Int) ∧ ((IntKind.wrap .i64 (s45 + 1)) : Int) ≤ (IntKind.wrap .i64 ((IntKind.wrap .i64 ((a0.size : Int) - (a1.size : Int))) + 1)) ∧ (IntKind.wrap .i64 ((IntKind.wrap .i64 ((a0.size : Int) - (a1.size : Int))) + 1)) ≤ (a0.size : Int)) >>= fun _ =>
   ZbY (ByteArray.extract a0 (Int.toNat (IntKind.wrap .i64 (s45 + 1))) (Int.toNat (IntKind.wrap .i64 ((IntKind.wrap .i64 ((a0.size : Int) - (a1.size : Int))) + 1)))) (sb a1 0) >>= fun r109 =>
   if r109 < 0 then
    pure (LS.done (-1))
   else
    ZaD.K1 a0 a1 s46 (IntKind.wrap .i64 (s45 + (IntKind.wrap .i64 (r109 + 1))))
  else
   ZaD.K1 a0 a1 s46 s45
 else
  pure (LS.done (-1))
theorem ZaD.L1_ok (a0 : ByteArray) (a1 : ByteArray) : LJ ZaD.cx (ZaD.F1 a0 a1) (fun s_ => ZaD.L1 a0 a1 s_.1 s_.2) := by
 rintro ⟨s45, s46⟩
 show SJ _ _ _ _ (ZaD.L1 a0 a1 s45 s46) _
 unfold ZaD.L1
 refine SJ.seq <| SJ.sr 3 <| J.z 3 <| J.f ?_ ?_
 ·refine SJ.skip <| SJ.block (id := 2) <| SJ.seq <| SJ.sr 5 <| J.t 2 fun hb80 hb81 => J.z 2 <| J.f ?_ ?_
  ·refine SJ.sr 8 <| J.ct 4 <| J.C 1 F246 (Zej _ _) fun r109 => J.z 1 <| SJ.seq <| SJ.sr 2 <| J.z 2 <| J.f ?_ ?_
   ·exact SJ.sr 1 <| J.z 1 <| J.r
   exact SJ.skip <| SJ.rg 5 <| J.z 5 <| J.q <| ZaD.K1_ok a0 a1 s46 (IntKind.wrap .i64 (s45 + (IntKind.wrap .i64 (r109 + 1))))
  exact SJ.skip <| J.q <| ZaD.K1_ok a0 a1 s46 s45
 exact SJ.exit (id := 1) (by rfl) <| SJ.sr 1 <| J.z 1 <| J.r
noncomputable def ZaD (a0 : ByteArray) (a1 : ByteArray) : M Int :=
 (if (a1.size : Int) = 0 then
   pure true
  else
   pure (a1.toList == a0.toList)) >>= fun y1 =>
 if y1 = true then
  pure 0
 else
  if (a1.size : Int) = 1 then
   chk ((0 : Int) ≤ 0 ∧ 0 < (a1.size : Int)) >>= fun _ =>
   ZbY a0 (sb a1 0) >>= fun r35 =>
   pure r35
  else
   if (a1.size : Int) ≥ (a0.size : Int) then
    pure (-1)
   else
    ld (cI .i64) ⟨6, 0, none⟩ >>= fun x39 =>
    (if (a1.size : Int) ≤ x39 then
      pure (decide ((a0.size : Int) ≤ 64))
     else
      pure false) >>= fun y40 =>
    if y40 = true then
     fail
    else
     chk ((0 : Int) ≤ 0 ∧ 0 < (a1.size : Int)) >>= fun _ =>
     chk ((0 : Int) ≤ 1 ∧ 1 < (a1.size : Int)) >>= fun _ =>
     Zb9 (fun s_ : (Int × Int) => ZaD.L1 a0 a1 s_.1 s_.2) (0, 0)
theorem ZeV (a0 : ByteArray) (a1 : ByteArray) : Ref Tryz.prog 234 [.string a0, .string a1] (ZaD a0 a1) ZaD.out := by
 refine J.Fn Tryz.func234 ?_
 unfold ZaD
 refine SJ.sr 1 <| J.z 1 <| SJ.sr 3 <| J.z 3 <| SJ.seq <| SJ.block (id := 0) <| SJ.sr 8 <| J.j 3 3 .bool ?_ ?_ fun y1 => ?_
 ·exact J.e 4
 ·exact J.e 4
 refine J.z 1 <| J.f ?_ ?_
 ·exact SJ.sr 1 <| J.z 1 <| J.r
 refine SJ.sr 3 <| J.z 3 <| J.f ?_ ?_
 ·exact SJ.sr 5 <| J.t 2 fun hb33 hb34 => J.C 0 F246 (Zej _ _) fun r35 => J.z 1 <| J.r
 refine SJ.sr 5 <| J.z 5 <| J.f ?_ ?_
 ·exact SJ.sr 1 <| J.z 1 <| J.r
 refine SJ.sr 9 <| J.l 1 Ty3 fun x39 => J.j 2 3 .bool ?_ ?_ fun y40 => ?_
 ·exact J.e 4
 ·exact J.e 4
 refine J.z 1 <| J.f ?_ ?_
 ·exact SJ.sr 4 <| J.g 2 <| OJ.fail
 exact SJ.skip <| SJ.inBlock <| SJ.sr 3 <| J.t 1 fun hb41 hb42 => J.z 1 <| SJ.sr 3 <| J.t 1 fun hb43 hb44 => J.z 1 <| SJ.sr 1 <| J.z 1 <| SJ.sr 6 <| J.z 6 <| SJ.sr 1 <| J.z 1 <| SJ.seq <| SJ.block (id := 1) <| J.L (ZaD.L1_ok a0 a1)

/-! ### internal/stringslite.Cut: function 212 -/
noncomputable def Zc2.out (r_ : (ByteArray × ByteArray × Bool)) : Value := .tuple #[.string r_.1, .string r_.2.1, .bool r_.2.2]
noncomputable def Zc2 (a0 : ByteArray) (a1 : ByteArray) : M (ByteArray × ByteArray × Bool) :=
 ZaD a0 a1 >>= fun r1 =>
 if r1 ≥ 0 then
  draw >>= fun _ =>
  chk (0 ≤ (0 : Int) ∧ (0 : Int) ≤ r1 ∧ r1 ≤ (a0.size : Int)) >>= fun _ =>
  chk (0 ≤ ((IntKind.wrap .i64 (r1 + (a1.size : Int))) : Int) ∧ ((IntKind.wrap .i64 (r1 + (a1.size : Int))) : Int) ≤ (a0.size : Int) ∧ (a0.size : Int) ≤ (a0.size : Int)) >>= fun _ =>
  pure ((ByteArray.extract a0 (Int.toNat 0) (Int.toNat r1)), (ByteArray.extract a0 (Int.toNat (IntKind.wrap .i64 (r1 + (a1.size : Int)))) (Int.toNat (a0.size : Int))), true)
 else
  pure (a0, ByteArray.empty, false)
theorem ZhT (a0 : ByteArray) (a1 : ByteArray) : Ref Tryz.prog 212 [.string a0, .string a1] (Zc2 a0 a1) Zc2.out := by
 refine J.Fn Tryz.func212 ?_
 unfold Zc2
 refine SJ.sr 3 <| J.z 3 <| SJ.seq <| SJ.sr 4 <| J.C 2 F234 (ZeV _ _) fun r1 => J.z 1 <| SJ.sr 2 <| J.z 2 <| J.f ?_ ?_
 ·exact SJ.seq <| J.R 12 ZcR <| J.ct 2 <| J.ct 5 <| J.z 3 <| J.r
 exact SJ.skip <| SJ.sr 4 <| J.z 4 <| J.r

/-! ### strings.Cut: function 178 -/
noncomputable def Zc3.out (r_ : (ByteArray × ByteArray × Bool)) : Value := .tuple #[.string r_.1, .string r_.2.1, .bool r_.2.2]
noncomputable def Zc3 (a0 : ByteArray) (a1 : ByteArray) : M (ByteArray × ByteArray × Bool) :=
 Zc2 a0 a1 >>= fun r1 =>
 pure (r1.1, r1.2.1, r1.2.2)
theorem Zhm (a0 : ByteArray) (a1 : ByteArray) : Ref Tryz.prog 178 [.string a0, .string a1] (Zc3 a0 a1) Zc3.out := by
 refine J.Fn Tryz.func178 ?_
 unfold Zc3
 exact SJ.sr 3 <| J.z 3 <| SJ.sr 9 <| J.C 2 F212 (ZhT _ _) fun r1 => J.z 6 <| J.r

/-! ### strings.Index: function 247 -/
noncomputable def Zd1.out (r_ : Int) : Value := .int .i64 r_
noncomputable def Zd1 (a0 : ByteArray) (a1 : ByteArray) : M Int :=
 ZaD a0 a1 >>= fun r1 =>
 pure r1
theorem Zja (a0 : ByteArray) (a1 : ByteArray) : Ref Tryz.prog 247 [.string a0, .string a1] (Zd1 a0 a1) Zd1.out := by
 refine J.Fn Tryz.func247 ?_
 unfold Zd1
 exact SJ.sr 1 <| J.z 1 <| SJ.sr 4 <| J.C 2 F234 (ZeV _ _) fun r1 => J.z 1 <| J.r

/-! ### strings.Contains: function 228 -/
noncomputable def ZcM.out (r_ : Bool) : Value := .bool r_
noncomputable def ZcM (a0 : ByteArray) (a1 : ByteArray) : M Bool :=
 Zd1 a0 a1 >>= fun r1 =>
 pure (decide (r1 ≥ 0))
theorem Zhv (a0 : ByteArray) (a1 : ByteArray) : Ref Tryz.prog 228 [.string a0, .string a1] (ZcM a0 a1) ZcM.out := by
 refine J.Fn Tryz.func228 ?_
 unfold ZcM
 exact SJ.sr 1 <| J.z 1 <| SJ.sr 5 <| J.C 2 F247 (Zja _ _) fun r1 => J.z 2 <| J.r

/-! ### weir/addr.missing: function 233 -/
noncomputable def Zdk.out (r_ : (Option Addr)) : Value := .pointer r_
noncomputable def Zdk (a0 : ByteArray) (a1 : Int) : M (Option Addr) :=
 if a1 = (a0.size : Int) then
  newv 304 Zbt (⟨42, a1⟩ : ZbK) >>= fun b2 =>
  pure (some (pt b2 0))
 else
  newv 304 Zbt (⟨41, a1⟩ : ZbK) >>= fun b3 =>
  pure (some (pt b3 0))
theorem Zfd (a0 : ByteArray) (a1 : Int) : Ref Tryz.prog 233 [.string a0, .int .i64 a1] (Zdk a0 a1) Zdk.out := by
 refine J.Fn Tryz.func233 ?_
 unfold Zdk
 refine SJ.sr 1 <| J.z 1 <| SJ.seq <| SJ.sr 4 <| J.z 4 <| J.f ?_ ?_
 ·exact SJ.sr 4 <| J.u 1 Zil (.f 0 (Zbv _ 42) (.f 1 (Zbw _ a1) .nil)) <| J.B 0 fun b2 => J.z 1 <| J.r
 exact SJ.skip <| SJ.sr 4 <| J.u 1 Zil (.f 0 (Zbv _ 41) (.f 1 (Zbw _ a1) .nil)) <| J.B 0 fun b3 => J.z 1 <| J.r

/-! ### weir/addr.digit: function 232 -/
noncomputable def Zem.out (r_ : Bool) : Value := .bool r_
noncomputable def Zem (a0 : Int) : M Bool :=
 (if a0 ≥ 48 then
   pure (decide (a0 ≤ 57))
  else
   pure false) >>= fun y1 =>
 pure y1
theorem Zij (a0 : Int) : Ref Tryz.prog 232 [.int .u8 a0] (Zem a0) Zem.out := by
 refine J.Fn Tryz.func232 ?_
 unfold Zem
 refine SJ.sr 1 <| J.z 1 <| SJ.sr 7 <| J.j 3 2 .bool ?_ ?_ fun y1 => ?_
 ·exact J.e 3
 ·exact J.e 3
 exact J.z 1 <| J.r

/-! ### weir/addr.number: function 211 -/
noncomputable def ZaS.B : Code := bod Tryz.f211
noncomputable def ZaS.cx : Fx := ⟨Tryz.prog, 211, Tryz.f211, none⟩
noncomputable def ZaS.out (r_ : (Int × Int × (Option Addr))) : Value := .tuple #[.int .i64 r_.1, .int .i64 r_.2.1, .pointer r_.2.2]
noncomputable def ZaS.F1 (a0 : ByteArray) (a1 : Int) (a2 : Int) (a3 : Int) (s1 : Int) : LF (Int × Int) (Int × Int × (Option Addr)) := ⟨[.inBlock 2, .code (c2 (c2 (c2 (c2 (c2 (c2 (c2 ZaS.B)))))))], c1 (c2 (c1 (c2 (c2 (c2 (c2 (c2 (c2 ZaS.B)))))))), fun s_ => [(0, .string a0), (1, .int .i64 a1), (2, .int .i64 a2), (3, .int .i64 a3), (11, .int .i64 s1), (12, .int .i64 s_.1), (13, .int .i64 s_.2)], fun s_ => [], (rt ZaS.out)⟩
noncomputable def ZaS.L1 (a0 : ByteArray) (a1 : Int) (a2 : Int) (a3 : Int) (s1 : Int) (s15 : Int) (s16 : Int) : M (LS (Int × Int) (Int × Int × (Option Addr))) :=
 if s16 < s1 then
  chk ((0 : Int) ≤ s16 ∧ s16 < (a0.size : Int)) >>= fun _ =>
  pure (LS.next (IntKind.wrap .i64 ((IntKind.wrap .i64 (10 * s15)) + (IntKind.wrap .i64 (IntKind.wrap .u8 ((sb a0 s16) - 48)))), IntKind.wrap .i64 (s16 + 1)))
 else
  if s15 > a2 then
   newv 304 Zbt (⟨a3, a1⟩ : ZbK) >>= fun b26 =>
   pure (LS.done (0, 0, (some (pt b26 0))))
  else
   pure (LS.done (s15, s1, none))
theorem ZaS.L1_ok (a0 : ByteArray) (a1 : Int) (a2 : Int) (a3 : Int) (s1 : Int) : LJ ZaS.cx (ZaS.F1 a0 a1 a2 a3 s1) (fun s_ => ZaS.L1 a0 a1 a2 a3 s1 s_.1 s_.2) := by
 rintro ⟨s15, s16⟩
 show SJ _ _ _ _ (ZaS.L1 a0 a1 a2 a3 s1 s15 s16) _
 unfold ZaS.L1
 refine SJ.seq <| SJ.sr 3 <| J.z 3 <| J.f ?_ ?_
 ·exact SJ.skip <| SJ.seq <| SJ.block (id := 3) <| SJ.rg 9 <| J.t 4 fun hb23 hb24 => J.z 4 <| SJ.inBlock <| SJ.rg 3 <| J.z 3 <| J.o rfl
 refine SJ.exit (id := 2) (by rfl) <| SJ.seq <| SJ.sr 3 <| J.z 3 <| J.f ?_ ?_
 ·exact SJ.sr 7 <| J.u 2 Zil (.f 0 (Zbv _ a3) (.f 1 (Zbw _ a1) .nil)) <| J.B 0 fun b26 => J.z 3 <| J.r
 exact SJ.skip <| SJ.sr 5 <| J.z 5 <| J.r
noncomputable def ZaS.K1 (a0 : ByteArray) (a1 : Int) (a2 : Int) (a3 : Int) (s1 : Int) : M (Int × Int × (Option Addr)) :=
 if s1 = a1 then
  Zdk a0 a1 >>= fun r8 =>
  pure (0, 0, r8)
 else
  (if (IntKind.wrap .i64 (s1 - a1)) > 3 then
    pure true
   else
    (if (IntKind.wrap .i64 (s1 - a1)) > 1 then
      chk ((0 : Int) ≤ a1 ∧ a1 < (a0.size : Int)) >>= fun _ =>
      pure ((sb a0 a1) == 48)
     else
      pure false) >>= fun y11 =>
    pure y11) >>= fun y12 =>
  if y12 = true then
   newv 304 Zbt (⟨a3, a1⟩ : ZbK) >>= fun b14 =>
   pure (0, 0, (some (pt b14 0)))
  else
   Zb9 (fun s_ : (Int × Int) => ZaS.L1 a0 a1 a2 a3 s1 s_.1 s_.2) (0, a1)
theorem ZaS.K1_ok (a0 : ByteArray) (a1 : Int) (a2 : Int) (a3 : Int) (s1 : Int) :
  SJ ZaS.cx [.code (c2 (c2 (c2 ZaS.B)))] [(0, .string a0), (1, .int .i64 a1), (2, .int .i64 a2), (3, .int .i64 a3), (11, .int .i64 s1)] [] (ZaS.K1 a0 a1 a2 a3 s1) (rt ZaS.out) := by
 unfold ZaS.K1
 refine SJ.seq <| SJ.sr 3 <| J.z 3 <| J.f ?_ ?_
 ·exact SJ.sr 6 <| J.C 2 F233 (Zfd _ _) fun r8 => J.z 3 <| J.r
 refine SJ.skip <| SJ.seq <| SJ.sr 16 <| J.g 5 <| OJ.join (b := decide ((IntKind.wrap .i64 (s1 - a1)) > 3)) [5, 6, 7, 8, 9, 10, 11, 12, 13, 14, 15] [] [0, 1, 2, 3, 11, 48] (fun y12 => [(0, .string a0), (1, .int .i64 a1), (2, .int .i64 a2), (3, .int .i64 a3), (11, .int .i64 s1), (48, .bool y12)]) [] [] (t := 37) decide_eq_true_iff (fun hp_ => ?_) (fun hp_ => ?_) (fun _ _ _ _ _ _ h_ => h_) fun y12 => ?_
 ·exact J.g 11 <| OJ.nil ⟨(Cov.mem Cov.nil), rfl, _, rfl, by kernel_rfl⟩
 ·refine J.g 5 <| OJ.join (b := decide ((IntKind.wrap .i64 (s1 - a1)) > 1)) [10, 11, 12, 13, 14] [15] [0, 1, 2, 3, 11, 37, 47] (fun y11 => [(0, .string a0), (1, .int .i64 a1), (2, .int .i64 a2), (3, .int .i64 a3), (11, .int .i64 s1), (37, .bool false), (47, .bool y11)]) [] [] (t := 42) decide_eq_true_iff (fun hp_ => ?_) (fun hp_ => ?_) (fun _ _ _ _ _ hq_ h_ => ⟨fun e_ he_ => (hq_ e_ he_).elim (fun h => h_.1 e_ h) (fun h => nomatch h), h_.2⟩) fun y11 => ?_
  ·exact J.t 2 fun hb9 hb10 => J.g 2 <| OJ.nil ⟨(Cov.mem Cov.nil), rfl, _, rfl, by kernel_rfl⟩
  ·exact J.g 5 <| OJ.nil ⟨(Cov.mem Cov.nil), rfl, _, rfl, by kernel_rfl⟩
  exact J.g 1 <| OJ.nil ⟨(Cov.mem Cov.nil), rfl, _, rfl, by kernel_rfl⟩
 refine J.z 0 <| J.f ?_ ?_
 ·exact SJ.sr 7 <| J.u 2 Zil (.f 0 (Zbv _ a3) (.f 1 (Zbw _ a1) .nil)) <| J.B 0 fun b14 => J.z 3 <| J.r
 exact SJ.skip <| SJ.sr 1 <| J.z 1 <| SJ.seq <| SJ.sr 2 <| J.z 2 <| SJ.block (id := 2) <| J.L (ZaS.L1_ok a0 a1 a2 a3 s1)
noncomputable def ZaS.F2 (a0 : ByteArray) (a1 : Int) (a2 : Int) (a3 : Int) : LF Int (Int × Int × (Option Addr)) := ⟨[.inBlock 0, .code (c2 (c2 (c2 ZaS.B)))], c1 (c1 (c2 (c2 ZaS.B))), fun s_ => [(0, .string a0), (1, .int .i64 a1), (2, .int .i64 a2), (3, .int .i64 a3), (11, .int .i64 s_)], fun s_ => [], (rt ZaS.out)⟩
noncomputable def ZaS.L2 (a0 : ByteArray) (a1 : Int) (a2 : Int) (a3 : Int) (s1 : Int) : M (LS Int (Int × Int × (Option Addr))) :=
 (if s1 < (a0.size : Int) then
   chk ((0 : Int) ≤ s1 ∧ s1 < (a0.size : Int)) >>= fun _ =>
   Zem (sb a0 s1) >>= fun r33 =>
   pure r33
  else
   pure false) >>= fun y34 =>
 if y34 = true then
  pure (LS.next (IntKind.wrap .i64 (s1 + 1)))
 else
  (ZaS.K1 a0 a1 a2 a3 s1) >>= fun b => pure (LS.done b)
theorem ZaS.L2_ok (a0 : ByteArray) (a1 : Int) (a2 : Int) (a3 : Int) : LJ ZaS.cx (ZaS.F2 a0 a1 a2 a3) (fun s_ => ZaS.L2 a0 a1 a2 a3 s_) := by
 rintro s1
 show SJ _ _ _ _ (ZaS.L2 a0 a1 a2 a3 s1) _
 unfold ZaS.L2
 refine SJ.seq <| SJ.sr 10 <| J.j 5 4 .bool ?_ ?_ fun y34 => ?_
 ·exact J.t 2 fun hb31 hb32 => J.C 0 F232 (Zij _) fun r33 => J.e 1
 ·exact J.e 5
 refine J.z 0 <| J.f ?_ ?_
 ·exact SJ.skip <| SJ.block (id := 1) <| SJ.rg 3 <| J.z 3 <| SJ.inBlock <| J.o rfl
 exact SJ.exit (id := 0) (by rfl) <| J.q <| SJ.done <| ZaS.K1_ok a0 a1 a2 a3 s1
noncomputable def ZaS (a0 : ByteArray) (a1 : Int) (a2 : Int) (a3 : Int) : M (Int × Int × (Option Addr)) :=
 Zb9 (fun s_ : Int => ZaS.L2 a0 a1 a2 a3 s_) a1
theorem Zhr (a0 : ByteArray) (a1 : Int) (a2 : Int) (a3 : Int) : Ref Tryz.prog 211 [.string a0, .int .i64 a1, .int .i64 a2, .int .i64 a3] (ZaS a0 a1 a2 a3) ZaS.out := by
 refine J.Fn Tryz.func211 ?_
 unfold ZaS
 exact SJ.sr 3 <| J.z 3 <| SJ.sr 2 <| J.z 2 <| SJ.seq <| SJ.block (id := 0) <| J.L (ZaS.L2_ok a0 a1 a2 a3)

/-! ### weir/addr.four: function 229 -/
noncomputable def Za4.B : Code := bod Tryz.f229
noncomputable def Za4.cx : Fx := ⟨Tryz.prog, 229, Tryz.f229, none⟩
noncomputable def Za4.out (r_ : ((Vec Int 4) × (Option Addr))) : Value := .tuple #[((cI .u8).arr 4).val r_.1, .pointer r_.2]
noncomputable def Za4.K1 (a0 : ByteArray) (s3 : Int) (s5 : (Vec Int 4)) : M ((Vec Int 4) × (Option Addr)) :=
 if s3 < (a0.size : Int) then
  newv 304 Zbt (⟨41, s3⟩ : ZbK) >>= fun b27 =>
  pure (s5, (some (pt b27 0)))
 else
  pure (s5, none)
theorem Za4.K1_ok (a0 : ByteArray) (b1 : Nat) (b2 : Nat) (s3 : Int) (s5 : (Vec Int 4)) (s6 : (Vec Int 4)) :
  SJ Za4.cx [.code (c2 (c2 (c2 Za4.B)))] [(0, .string a0), (1, .int .i64 s3), (4, .pointer (some (pt b1 0))), (6, .pointer (some (pt b2 0)))] [(b2, ((cI .u8).arr 4).enc s5), (b1, ((cI .u8).arr 4).enc s6)] (Za4.K1 a0 s3 s5) (rt Za4.out) := by
 unfold Za4.K1
 refine SJ.seq <| SJ.sr 4 <| J.z 4 <| J.f ?_ ?_
 ·exact SJ.sr 6 <| J.k 0 0 rfl Zf9 (At.whole _) <| J.u 1 Zil (.f 0 (Zbv _ 41) (.f 1 (Zbw _ s3) .nil)) <| J.B 0 fun b27 => J.s 0 1 rfl Zf9 (Upd.w s5) <| J.z 1 <| J.rc (.c 1 rfl Zf9 .n)
 exact SJ.skip <| SJ.sr 3 <| J.k 0 0 rfl Zf9 (At.whole _) <| J.s 0 1 rfl Zf9 (Upd.w s5) <| J.z 1 <| J.rc (.c 1 rfl Zf9 .n)
noncomputable def Za4.F1 (a0 : ByteArray) (b1 : Nat) (b2 : Nat) : LF (Int × Int × (Vec Int 4) × (Vec Int 4)) ((Vec Int 4) × (Option Addr)) := ⟨[.inBlock 0, .code (c2 (c2 (c2 Za4.B)))], c1 (c2 (c1 (c2 (c2 Za4.B)))), fun s_ => [(0, .string a0), (1, .int .i64 s_.1), (4, .pointer (some (pt b1 0))), (6, .pointer (some (pt b2 0))), (11, .int .i64 s_.2.1)], fun s_ => [(b2, ((cI .u8).arr 4).enc s_.2.2.1), (b1, ((cI .u8).arr 4).enc s_.2.2.2)], (rt Za4.out)⟩
noncomputable def Za4.K2 (a0 : ByteArray) (s4 : Int) (s5 : (Vec Int 4)) (s6 : (Vec Int 4)) (j35 : Int) : M (LS (Int × Int × (Vec Int 4) × (Vec Int 4)) ((Vec Int 4) × (Option Addr))) :=
 ZaS a0 j35 255 43 >>= fun r36 =>
 if ¬ (r36.2.2 = none) then
  pure (LS.done (s5, r36.2.2))
 else
  chk ((0 : Int) ≤ s4 ∧ s4 < (4 : Nat)) >>= fun _ =>
  pure (LS.next (r36.2.1, IntKind.wrap .i64 (s4 + 1), (Vec.s s5 s4 (IntKind.wrap .u8 r36.1)), s6))
theorem Za4.K2_ok (a0 : ByteArray) (b1 : Nat) (b2 : Nat) (s4 : Int) (s5 : (Vec Int 4)) (s6 : (Vec Int 4)) (j35 : Int) :
  SJ Za4.cx [.code (c2 (c2 (c1 (c1 (c2 (c2 (c1 (c1 (c2 (c1 (c2 (c2 Za4.B)))))))))))), .inBlock 1, .code (c2 (c2 (c2 (c1 (c1 (c2 (c1 (c2 (c2 Za4.B))))))))), .inLoop (c1 (c1 (c2 (c1 (c2 (c2 Za4.B)))))), .inBlock 0, .code (c2 (c2 (c2 Za4.B)))] [(0, .string a0), (1, .int .i64 j35), (4, .pointer (some (pt b1 0))), (6, .pointer (some (pt b2 0))), (11, .int .i64 s4), (7, .int .i64 s4)] [(b2, ((cI .u8).arr 4).enc s5), (b1, ((cI .u8).arr 4).enc s6)] (Za4.K2 a0 s4 s5 s6 j35) (Za4.F1 a0 b1 b2).f := by
 unfold Za4.K2
 refine SJ.sr 10 <| J.C 2 F211 (Zhr _ _ _ _) fun r36 => J.z 7 <| SJ.seq <| SJ.sr 2 <| J.z 2 <| J.f ?_ ?_
 ·exact SJ.sr 4 <| J.k 0 0 rfl Zf9 (At.whole _) <| J.s 1 1 rfl Zf9 (Upd.w s5) <| J.z 1 <| J.rc (.c 1 rfl Zf9 .n)
 exact SJ.skip <| SJ.sr 5 <| J.y 3 fun hb37 hb38 => J.s (u := (IntKind.wrap .u8 r36.1)) 0 0 rfl Ty5 (Upd.zero (Upd.arr hb37 hb38)) <| J.z 0 <| SJ.rg 2 <| J.z 2 <| SJ.inBlock <| SJ.rg 2 <| J.z 2 <| J.o rfl
noncomputable def Za4.L1 (a0 : ByteArray) (s3 : Int) (s4 : Int) (s5 : (Vec Int 4)) (s6 : (Vec Int 4)) : M (LS (Int × Int × (Vec Int 4) × (Vec Int 4)) ((Vec Int 4) × (Option Addr))) :=
 if s4 < 4 then
  if s4 > 0 then
   (if s3 = (a0.size : Int) then
     pure true
    else
     chk ((0 : Int) ≤ s3 ∧ s3 < (a0.size : Int)) >>= fun _ =>
     pure ((sb a0 s3) != 46)) >>= fun y42 =>
   if y42 = true then
    draw >>= fun _ =>
    Zdk a0 s3 >>= fun r44 =>
    pure (LS.done (s5, r44))
   else
    Za4.K2 a0 s4 s5 s6 (IntKind.wrap .i64 (s3 + 1))
  else
   Za4.K2 a0 s4 s5 s6 s3
 else
  (Za4.K1 a0 s3 s5) >>= fun b => pure (LS.done b)
theorem Za4.L1_ok (a0 : ByteArray) (b1 : Nat) (b2 : Nat) : LJ Za4.cx (Za4.F1 a0 b1 b2) (fun s_ => Za4.L1 a0 s_.1 s_.2.1 s_.2.2.1 s_.2.2.2) := by
 rintro ⟨s3, s4, s5, s6⟩
 show SJ _ _ _ _ (Za4.L1 a0 s3 s4 s5 s6) _
 unfold Za4.L1
 refine SJ.sr 1 <| J.z 1 <| SJ.seq <| J.f ?_ ?_
 ·refine SJ.skip <| SJ.seq <| SJ.block (id := 1) <| SJ.sr 2 <| J.z 2 <| SJ.seq <| SJ.sr 2 <| J.z 2 <| J.f ?_ ?_
  ·refine SJ.seq <| SJ.sr 10 <| J.j 5 4 .bool ?_ ?_ fun y42 => ?_
   ·exact J.e 5
   ·exact J.t 2 fun hb40 hb41 => J.e 2
   refine J.z 0 <| J.f ?_ ?_
   ·exact SJ.seq <| J.R 6 ZcR <| J.k 0 0 rfl Zf9 (At.whole _) <| J.g 2 <| OJ.call (d := 29) (g := 233) (ats := #[9, 3]) (args := [.tmp 27, .tmp 28]) (owed := [⟨0, 327, (pt b2 0), ((cI .u8).arr 4).val s5⟩]) F233 (Zfd a0 s3) fun r44 => OW.known (j := 0) (q := s5) Zf9 rfl (At.whole _) <| OW.nil <| J.s 0 1 rfl Zf9 (Upd.w s5) <| J.z 1 <| J.rc (.c 1 rfl Zf9 .n)
   exact SJ.skip <| SJ.rg 3 <| J.z 3 <| J.q <| Za4.K2_ok a0 b1 b2 s4 s5 s6 (IntKind.wrap .i64 (s3 + 1))
  exact SJ.skip <| J.q <| Za4.K2_ok a0 b1 b2 s4 s5 s6 s3
 exact SJ.exit (id := 0) (by rfl) <| J.q <| SJ.done <| Za4.K1_ok a0 b1 b2 s3 s5 s6
noncomputable def Za4 (a0 : ByteArray) (a1 : Int) : M ((Vec Int 4) × (Option Addr)) :=
 slot 327 >>= fun b1 =>
 slot 327 >>= fun b2 =>
 Zb9 (fun s_ : (Int × Int × (Vec Int 4) × (Vec Int 4)) => Za4.L1 a0 s_.1 s_.2.1 s_.2.2.1 s_.2.2.2) (a1, 0, (Vec.rep 4 0), (Vec.rep 4 0))
theorem Zi8 (a0 : ByteArray) (a1 : Int) : Ref Tryz.prog 229 [.string a0, .int .i64 a1] (Za4 a0 a1) Za4.out := by
 refine J.Fn Tryz.func229 ?_
 unfold Za4
 exact SJ.sr 2 <| J.a 0 Zf9 fun b1 => J.z 1 <| SJ.sr 1 <| J.a 0 Zf9 fun b2 => J.z 0 <| SJ.seq <| SJ.sr 1 <| J.z 1 <| SJ.block (id := 0) <| J.L (Za4.L1_ok a0 b1 b2)

/-! ### strings.HasPrefix: function 258 -/
noncomputable def Zcw.out (r_ : Bool) : Value := .bool r_
noncomputable def Zcw (a0 : ByteArray) (a1 : ByteArray) : M Bool :=
 ZbP a0 a1 >>= fun r1 =>
 pure r1
theorem Zhd (a0 : ByteArray) (a1 : ByteArray) : Ref Tryz.prog 258 [.string a0, .string a1] (Zcw a0 a1) Zcw.out := by
 refine J.Fn Tryz.func258 ?_
 unfold Zcw
 exact SJ.sr 1 <| J.z 1 <| SJ.sr 4 <| J.C 2 F209 (Zek _ _) fun r1 => J.z 1 <| J.r

/-! ### (*weir/addr.six).double: function 248 -/
noncomputable def ZcI.out (r_ : (Bool × (Option Addr))) : Value := .tuple #[.bool r_.1, .pointer r_.2]
noncomputable def ZcI (a0 : (Option Addr)) : M (Bool × (Option Addr)) :=
 draw >>= fun _ =>
 nilck a0 >>= fun p1 =>
 ld cS p1 >>= fun x2 =>
 nilck a0 >>= fun p3 =>
 ld (cI .i64) (Addr.add p3 1) >>= fun x4 =>
 chk (0 ≤ (x4 : Int) ∧ (x4 : Int) ≤ (x2.size : Int) ∧ (x2.size : Int) ≤ (x2.size : Int)) >>= fun _ =>
 Zcw (ByteArray.extract x2 (Int.toNat x4) (Int.toNat (x2.size : Int))) Ziv >>= fun r5 =>
 if ¬ (r5 = true) then
  pure (false, none)
 else
  nilck a0 >>= fun p6 =>
  ld (cI .i64) (Addr.add p6 3) >>= fun x7 =>
  (if x7 ≥ 0 then
    pure true
   else
    nilck a0 >>= fun p8 =>
    ld cL (Addr.add p8 2) >>= fun x9 =>
    pure ((x9.len : Int) == 8)) >>= fun y10 =>
  if y10 = true then
   draw >>= fun _ =>
   nilck a0 >>= fun p14 =>
   ld (cI .i64) (Addr.add p14 1) >>= fun x15 =>
   newv 304 Zbt (⟨44, x15⟩ : ZbK) >>= fun b16 =>
   pure (false, (some (pt b16 0)))
  else
   nilck a0 >>= fun p17 =>
   ld cL (Addr.add p17 2) >>= fun x18 =>
   nilck a0 >>= fun p19 =>
   st (cI .i64) (Addr.add p19 3) (x18.len : Int) >>= fun _ =>
   nilck a0 >>= fun p20 =>
   ld (cI .i64) (Addr.add p20 1) >>= fun x21 =>
   nilck a0 >>= fun p22 =>
   st (cI .i64) (Addr.add p22 1) (IntKind.wrap .i64 (x21 + 2)) >>= fun _ =>
   pure (true, none)
theorem Zfx (a0 : (Option Addr)) : Ref Tryz.prog 248 [.pointer a0] (ZcI a0) ZcI.out := by
 refine J.Fn Tryz.func248 ?_
 unfold ZcI
 refine SJ.sr 2 <| J.z 2 <| SJ.seq <| SJ.seq <| J.R 11 ZcR <| J.n 1 fun p1 => J.l 1 Ty9 fun x2 => J.n 1 fun p3 => J.l 1 Ty3 fun x4 => J.ct 0 <| J.C 0 F258 (Zhd _ _) fun r5 => J.z 1 <| J.f ?_ ?_
 ·exact SJ.sr 2 <| J.z 2 <| J.r
 refine SJ.skip <| SJ.seq <| SJ.sr 13 <| J.n 1 fun p6 => J.l 1 Ty3 fun x7 => J.j 2 6 .bool ?_ ?_ fun y10 => ?_
 ·exact J.e 7
 ·exact J.n 1 fun p8 => J.l 1 Ty92 fun x9 => J.e 3
 refine J.z 0 <| J.f ?_ ?_
 ·exact SJ.seq <| J.R 8 ZcR <| J.n 1 fun p14 => J.l 1 Ty3 fun x15 => J.u 0 Zil (.f 0 (Zbv _ 44) (.f 1 (Zbw _ x15) .nil)) <| J.B 0 fun b16 => J.z 2 <| J.r
 exact SJ.skip <| SJ.sr 9 <| J.n 2 fun p17 => J.l 1 Ty92 fun x18 => J.n 1 fun p19 => J.w 1 Ty3 <| J.z 0 <| SJ.sr 8 <| J.n 1 fun p20 => J.l 1 Ty3 fun x21 => J.n 1 fun p22 => J.w 1 Ty3 <| J.z 0 <| SJ.sr 2 <| J.z 2 <| J.r

/-! ### weir/addr.hexa: function 259 -/
noncomputable def ZeR.out (r_ : Int) : Value := .int .i64 r_
noncomputable def ZeR (a0 : Int) : M Int :=
 Zem a0 >>= fun r1 =>
 if r1 = true then
  pure (IntKind.wrap .i64 (IntKind.wrap .u8 (a0 - 48)))
 else
  (if a0 ≥ 97 then
    pure (decide (a0 ≤ 102))
   else
    pure false) >>= fun y8 =>
  if y8 = true then
   pure (IntKind.wrap .i64 ((IntKind.wrap .i64 (IntKind.wrap .u8 (a0 - 97))) + 10))
  else
   (if a0 ≥ 65 then
     pure (decide (a0 ≤ 70))
    else
     pure false) >>= fun y11 =>
   if y11 = true then
    pure (IntKind.wrap .i64 ((IntKind.wrap .i64 (IntKind.wrap .u8 (a0 - 65))) + 10))
   else
    pure (-1)
theorem Zi7 (a0 : Int) : Ref Tryz.prog 259 [.int .u8 a0] (ZeR a0) ZeR.out := by
 refine J.Fn Tryz.func259 ?_
 unfold ZeR
 refine SJ.sr 1 <| J.z 1 <| SJ.seq <| SJ.block (id := 0) <| SJ.sr 3 <| J.C 1 F232 (Zij _) fun r1 => J.z 1 <| J.f ?_ ?_
 ·exact SJ.sr 4 <| J.z 4 <| J.r
 refine SJ.sr 7 <| J.j 3 2 .bool ?_ ?_ fun y8 => ?_
 ·exact J.e 3
 ·exact J.e 3
 refine J.z 1 <| J.f ?_ ?_
 ·exact SJ.sr 5 <| J.z 5 <| J.r
 refine SJ.sr 7 <| J.j 3 2 .bool ?_ ?_ fun y11 => ?_
 ·exact J.e 3
 ·exact J.e 3
 refine J.z 1 <| J.f ?_ ?_
 ·exact SJ.sr 5 <| J.z 5 <| J.r
 exact SJ.skip <| SJ.inBlock <| SJ.sr 1 <| J.z 1 <| J.r

/-! ### (*weir/addr.six).room: function 260 -/
noncomputable def Zdj.out (r_ : Int) : Value := .int .i64 r_
noncomputable def Zdj (a0 : (Option Addr)) : M Int :=
 nilck a0 >>= fun p1 =>
 ld (cI .i64) (Addr.add p1 3) >>= fun x2 =>
 if x2 ≥ 0 then
  nilck a0 >>= fun p5 =>
  ld cL (Addr.add p5 2) >>= fun x6 =>
  pure (IntKind.wrap .i64 (7 - (x6.len : Int)))
 else
  nilck a0 >>= fun p7 =>
  ld cL (Addr.add p7 2) >>= fun x8 =>
  pure (IntKind.wrap .i64 (8 - (x8.len : Int)))
theorem Zgg (a0 : (Option Addr)) : Ref Tryz.prog 260 [.pointer a0] (Zdj a0) Zdj.out := by
 refine J.Fn Tryz.func260 ?_
 unfold Zdj
 refine SJ.sr 1 <| J.z 1 <| SJ.seq <| SJ.sr 5 <| J.n 1 fun p1 => J.l 1 Ty3 fun x2 => J.z 1 <| J.f ?_ ?_
 ·exact SJ.sr 7 <| J.n 1 fun p5 => J.l 1 Ty92 fun x6 => J.z 3 <| J.r
 exact SJ.skip <| SJ.sr 7 <| J.n 1 fun p7 => J.l 1 Ty92 fun x8 => J.z 3 <| J.r

/-! ### (*weir/addr.six).group: function 249 -/
noncomputable def ZaW.B : Code := bod Tryz.f249
noncomputable def ZaW.cx : Fx := ⟨Tryz.prog, 249, Tryz.f249, none⟩
noncomputable def ZaW.out (r_ : (Bool × (Option Addr))) : Value := .tuple #[.bool r_.1, .pointer r_.2]
noncomputable def ZaW.K1 (a0 : (Option Addr)) (x2 : Int) (s3 : Int) (s4 : Int) : M (Bool × (Option Addr)) :=
 if s4 = x2 then
  nilck a0 >>= fun p22 =>
  ld cS p22 >>= fun x23 =>
  Zdk x23 x2 >>= fun r24 =>
  pure (false, r24)
 else
  nilck a0 >>= fun p25 =>
  ld cS p25 >>= fun x26 =>
  (if s4 < (x26.size : Int) then
    nilck a0 >>= fun p27 =>
    ld cS p27 >>= fun x28 =>
    chk ((0 : Int) ≤ s4 ∧ s4 < (x28.size : Int)) >>= fun _ =>
    pure ((sb x28 s4) == 46)
   else
    pure false) >>= fun y31 =>
  (if y31 = true then
    nilck a0 >>= fun p32 =>
    ld cL (Addr.add p32 2) >>= fun x33 =>
    (if (x33.len : Int) > 0 then
      pure true
     else
      nilck a0 >>= fun p34 =>
      ld (cI .i64) (Addr.add p34 3) >>= fun x35 =>
      pure (decide (x35 ≥ 0))) >>= fun y36 =>
    pure y36
   else
    pure false) >>= fun y37 =>
  if y37 = true then
   Zdj a0 >>= fun r51 =>
   if r51 < 2 then
    newv 304 Zbt (⟨44, x2⟩ : ZbK) >>= fun b53 =>
    pure (false, (some (pt b53 0)))
   else
    nilck a0 >>= fun p54 =>
    ld cS p54 >>= fun x55 =>
    Za4 x55 x2 >>= fun r56 =>
    slot 327 >>= fun b57 =>
    draw >>= fun _ =>
    nilck a0 >>= fun p58 =>
    ld cL (Addr.add p58 2) >>= fun x59 =>
    slot 3 >>= fun b60 =>
    same cL (Addr.add p58 2) x59 >>= fun _ =>
    appl (cI .i64) 3 8 0 x59 [bor .i64 (IntKind.wrap .i64 ((IntKind.wrap .i64 (Vec.g r56.1 0 0)) * 2 ^ 8)) (IntKind.wrap .i64 (Vec.g r56.1 1 0)), bor .i64 (IntKind.wrap .i64 ((IntKind.wrap .i64 (Vec.g r56.1 2 0)) * 2 ^ 8)) (IntKind.wrap .i64 (Vec.g r56.1 3 0))] >>= fun r61 =>
    nilck a0 >>= fun p62 =>
    st cL (Addr.add p62 2) r61 >>= fun _ =>
    pure (true, r56.2)
  else
   Zdj a0 >>= fun r64 =>
   if r64 < 1 then
    newv 304 Zbt (⟨44, x2⟩ : ZbK) >>= fun b66 =>
    pure (false, (some (pt b66 0)))
   else
    if (IntKind.wrap .i64 (s4 - x2)) > 4 then
     newv 304 Zbt (⟨43, x2⟩ : ZbK) >>= fun b68 =>
     pure (false, (some (pt b68 0)))
    else
     nilck a0 >>= fun p69 =>
     ld cL (Addr.add p69 2) >>= fun x70 =>
     slot 3 >>= fun b71 =>
     appl (cI .i64) 3 8 0 x70 [s3] >>= fun r72 =>
     nilck a0 >>= fun p73 =>
     st cL (Addr.add p73 2) r72 >>= fun _ =>
     nilck a0 >>= fun p74 =>
     st (cI .i64) (Addr.add p74 1) s4 >>= fun _ =>
     pure (false, none)
theorem ZaW.K1_ok (a0 : (Option Addr)) (x2 : Int) (s3 : Int) (s4 : Int) :
  SJ ZaW.cx [.code (c2 (c2 (c2 (c2 ZaW.B))))] [(0, .pointer a0), (4, .int .i64 x2), (5, .int .i64 s3), (6, .int .i64 s4)] [] (ZaW.K1 a0 x2 s3 s4) (rt ZaW.out) := by
 unfold ZaW.K1
 refine SJ.seq <| SJ.sr 3 <| J.z 3 <| J.f ?_ ?_
 ·exact SJ.sr 8 <| J.n 1 fun p22 => J.l 1 Ty9 fun x23 => J.C 1 F233 (Zfd _ _) fun r24 => J.z 2 <| J.r
 refine SJ.skip <| SJ.seq <| SJ.sr 31 <| J.n 2 fun p25 => J.l 1 Ty9 fun x26 => J.j 3 7 .bool ?_ ?_ fun y31 => ?_
 ·exact J.n 1 fun p27 => J.l 1 Ty9 fun x28 => J.t 1 fun hb29 hb30 => J.e 2
 ·exact J.e 8
 refine J.g 1 <| OJ.join (b := y31) [17, 18, 19, 20, 21, 22, 23, 24, 25, 26, 27, 28, 29, 30] [] [0, 4, 5, 6, 83] (fun y37 => [(0, .pointer a0), (4, .int .i64 x2), (5, .int .i64 s3), (6, .int .i64 s4), (83, .bool y37)]) [] [] (t := 69) Iff.rfl (fun hp_ => ?_) (fun hp_ => ?_) (fun _ _ _ _ _ _ h_ => h_) fun y37 => ?_
 ·refine J.n 1 fun p32 => J.l 1 Ty92 fun x33 => J.g 3 <| OJ.join (b := decide ((x33.len : Int) > 0)) [24, 25, 26, 27, 28, 29] [30] [0, 4, 5, 6, 69, 82] (fun y36 => [(0, .pointer a0), (4, .int .i64 x2), (5, .int .i64 s3), (6, .int .i64 s4), (69, .bool true), (82, .bool y36)]) [] [] (t := 76) decide_eq_true_iff (fun hp_ => ?_) (fun hp_ => ?_) (fun _ _ _ _ _ hq_ h_ => ⟨fun e_ he_ => (hq_ e_ he_).elim (fun h => h_.1 e_ h) (fun h => nomatch h), h_.2⟩) fun y36 => ?_
  ·exact J.g 6 <| OJ.nil ⟨(Cov.mem Cov.nil), rfl, _, rfl, by kernel_rfl⟩
  ·exact J.n 1 fun p34 => J.l 1 Ty3 fun x35 => J.g 2 <| OJ.nil ⟨(Cov.mem Cov.nil), rfl, _, rfl, by kernel_rfl⟩
  exact J.g 1 <| OJ.nil ⟨(Cov.mem Cov.nil), rfl, _, rfl, by kernel_rfl⟩
 ·exact J.g 14 <| OJ.nil ⟨(Cov.mem Cov.nil), rfl, _, rfl, by kernel_rfl⟩
 refine J.z 0 <| J.f ?_ ?_
 ·refine SJ.seq <| SJ.sr 3 <| J.C 1 F260 (Zgg _) fun r51 => J.z 1 <| J.f ?_ ?_
  ·exact SJ.sr 5 <| J.u 1 Zil (.f 0 (Zbv _ 44) (.f 1 (Zbw _ x2) .nil)) <| J.B 0 fun b53 => J.z 2 <| J.r
  exact SJ.skip <| SJ.sr 12 <| J.n 1 fun p54 => J.l 1 Ty9 fun x55 => J.C 1 F229 (Zi8 _ _) fun r56 => J.a 3 Zf9 fun b57 => J.s 0 0 rfl Zf9 (Upd.w r56.1) <| J.z 1 <| SJ.seq <| J.R 26 ZcR <| J.n 2 fun p58 => J.l 1 Ty92 fun x59 => J.k 1 0 rfl Ty5 (At.zero (At.arr (z := 0) (i := 0) (n := 4) (by decide) (by decide))) <| J.k 3 0 rfl Ty5 (At.zero (At.arr (z := 0) (i := 1) (n := 4) (by decide) (by decide))) <| J.k 3 0 rfl Ty5 (At.zero (At.arr (z := 0) (i := 2) (n := 4) (by decide) (by decide))) <| J.k 3 0 rfl Ty5 (At.zero (At.arr (z := 0) (i := 3) (n := 4) (by decide) (by decide))) <| J.g 2 <| OJ.rowSlot (d := 120) (t := 92) (parts := [(0, .tmp 111), (1, .tmp 119)]) (ps := [(0, (cI .i64).val (bor .i64 (IntKind.wrap .i64 ((IntKind.wrap .i64 (Vec.g r56.1 0 0)) * 2 ^ 8)) (IntKind.wrap .i64 (Vec.g r56.1 1 0)))), (1, (cI .i64).val (bor .i64 (IntKind.wrap .i64 ((IntKind.wrap .i64 (Vec.g r56.1 2 0)) * 2 ^ 8)) (IntKind.wrap .i64 (Vec.g r56.1 3 0))))]) (cd := (cI .i64)) (⟨[bor .i64 (IntKind.wrap .i64 ((IntKind.wrap .i64 (Vec.g r56.1 0 0)) * 2 ^ 8)) (IntKind.wrap .i64 (Vec.g r56.1 1 0)), bor .i64 (IntKind.wrap .i64 ((IntKind.wrap .i64 (Vec.g r56.1 2 0)) * 2 ^ 8)) (IntKind.wrap .i64 (Vec.g r56.1 3 0))], rfl⟩ : Vec Int 2) (owed := [⟨4, 92, (Addr.add p58 2), cL.val x59⟩]) Ty3 (Zb4.cons (cd := (cI .i64)) (q := (bor .i64 (IntKind.wrap .i64 ((IntKind.wrap .i64 (Vec.g r56.1 0 0)) * 2 ^ 8)) (IntKind.wrap .i64 (Vec.g r56.1 1 0)))) (o := 0) rfl (Upd.arr (i := 0) (by decide) (by decide)) (Zb4.cons (cd := (cI .i64)) (q := (bor .i64 (IntKind.wrap .i64 ((IntKind.wrap .i64 (Vec.g r56.1 2 0)) * 2 ^ 8)) (IntKind.wrap .i64 (Vec.g r56.1 3 0)))) (o := 1) rfl (Upd.arr (i := 1) (by decide) (by decide)) Zb4.nil)) fun b60 => OW.same Ty92 <| OW.nil <| J.p 0 0 rfl Ty3 fun r61 => J.n 0 fun p62 => J.w 1 Ty92 <| J.z 0 <| SJ.sr 3 <| J.z 3 <| J.r
 refine SJ.skip <| SJ.seq <| SJ.sr 3 <| J.C 1 F260 (Zgg _) fun r64 => J.z 1 <| J.f ?_ ?_
 ·exact SJ.sr 5 <| J.u 1 Zil (.f 0 (Zbv _ 44) (.f 1 (Zbw _ x2) .nil)) <| J.B 0 fun b66 => J.z 2 <| J.r
 refine SJ.skip <| SJ.seq <| SJ.sr 4 <| J.z 4 <| J.f ?_ ?_
 ·exact SJ.sr 5 <| J.u 1 Zil (.f 0 (Zbv _ 43) (.f 1 (Zbw _ x2) .nil)) <| J.B 0 fun b68 => J.z 2 <| J.r
 exact SJ.skip <| SJ.sr 11 <| J.n 2 fun p69 => J.l 1 Ty92 fun x70 => J.S 1 [s3] Ty3 fun b71 => J.p 0 0 rfl Ty3 fun r72 => J.n 0 fun p73 => J.w 1 Ty92 <| J.z 0 <| SJ.sr 5 <| J.n 2 fun p74 => J.w 1 Ty3 <| J.z 0 <| SJ.sr 2 <| J.z 2 <| J.r
noncomputable def ZaW.F1 (a0 : (Option Addr)) (x2 : Int) : LF (Int × Int) (Bool × (Option Addr)) := ⟨[.inBlock 0, .code (c2 (c2 (c2 (c2 ZaW.B))))], c1 (c1 (c2 (c2 (c2 ZaW.B)))), fun s_ => [(0, .pointer a0), (4, .int .i64 x2), (5, .int .i64 s_.1), (6, .int .i64 s_.2)], fun s_ => [], (rt ZaW.out)⟩
noncomputable def ZaW.L1 (a0 : (Option Addr)) (x2 : Int) (s3 : Int) (s4 : Int) : M (LS (Int × Int) (Bool × (Option Addr))) :=
 nilck a0 >>= fun p79 =>
 ld cS p79 >>= fun x80 =>
 (if s4 < (x80.size : Int) then
   nilck a0 >>= fun p81 =>
   ld cS p81 >>= fun x82 =>
   chk ((0 : Int) ≤ s4 ∧ s4 < (x82.size : Int)) >>= fun _ =>
   ZeR (sb x82 s4) >>= fun r85 =>
   pure (decide (r85 ≥ 0))
  else
   pure false) >>= fun y86 =>
 if y86 = true then
  nilck a0 >>= fun p87 =>
  ld cS p87 >>= fun x88 =>
  chk ((0 : Int) ≤ s4 ∧ s4 < (x88.size : Int)) >>= fun _ =>
  ZeR (sb x88 s4) >>= fun r91 =>
  pure (LS.next (bor .i64 (band .i64 (IntKind.wrap .i64 (s3 * 2 ^ 4)) 1048575) r91, IntKind.wrap .i64 (s4 + 1)))
 else
  (ZaW.K1 a0 x2 s3 s4) >>= fun b => pure (LS.done b)
theorem ZaW.L1_ok (a0 : (Option Addr)) (x2 : Int) : LJ ZaW.cx (ZaW.F1 a0 x2) (fun s_ => ZaW.L1 a0 x2 s_.1 s_.2) := by
 rintro ⟨s3, s4⟩
 show SJ _ _ _ _ (ZaW.L1 a0 x2 s3 s4) _
 unfold ZaW.L1
 refine SJ.seq <| SJ.sr 17 <| J.n 2 fun p79 => J.l 1 Ty9 fun x80 => J.j 3 8 .bool ?_ ?_ fun y86 => ?_
 ·exact J.n 1 fun p81 => J.l 1 Ty9 fun x82 => J.t 1 fun hb83 hb84 => J.C 0 F259 (Zi7 _) fun r85 => J.e 2
 ·exact J.e 9
 refine J.z 0 <| J.f ?_ ?_
 ·exact SJ.skip <| SJ.block (id := 1) <| SJ.sr 12 <| J.n 4 fun p87 => J.l 1 Ty9 fun x88 => J.t 1 fun hb89 hb90 => J.C 0 F259 (Zi7 _) fun r91 => J.z 2 <| SJ.rg 3 <| J.z 3 <| SJ.inBlock <| J.o rfl
 exact SJ.exit (id := 0) (by rfl) <| J.q <| SJ.done <| ZaW.K1_ok a0 x2 s3 s4
noncomputable def ZaW (a0 : (Option Addr)) : M (Bool × (Option Addr)) :=
 nilck a0 >>= fun p1 =>
 ld (cI .i64) (Addr.add p1 1) >>= fun x2 =>
 Zb9 (fun s_ : (Int × Int) => ZaW.L1 a0 x2 s_.1 s_.2) (0, x2)
theorem ZiL (a0 : (Option Addr)) : Ref Tryz.prog 249 [.pointer a0] (ZaW a0) ZaW.out := by
 refine J.Fn Tryz.func249 ?_
 unfold ZaW
 exact SJ.sr 2 <| J.z 2 <| SJ.sr 6 <| J.n 1 fun p1 => J.l 1 Ty3 fun x2 => J.z 2 <| SJ.sr 2 <| J.z 2 <| SJ.seq <| SJ.block (id := 0) <| J.L (ZaW.L1_ok a0 x2)

/-! ### (*weir/addr.six).read: function 230 -/
noncomputable def Zbp.B : Code := bod Tryz.f230
noncomputable def Zbp.cx : Fx := ⟨Tryz.prog, 230, Tryz.f230, none⟩
noncomputable def Zbp.out (r_ : (Option Addr)) : Value := .pointer r_
noncomputable def Zbp.F1 (a0 : (Option Addr)) : LF Bool (Option Addr) := ⟨[.inBlock 0], c1 (c2 (c2 (c2 Zbp.B))), fun s_ => [(0, .pointer a0), (5, .bool s_)], fun s_ => [], (rt Zbp.out)⟩
noncomputable def Zbp.L1 (a0 : (Option Addr)) (s4 : Bool) : M (LS Bool (Option Addr)) :=
 draw >>= fun _ =>
 nilck a0 >>= fun p5 =>
 ld (cI .i64) (Addr.add p5 1) >>= fun x6 =>
 nilck a0 >>= fun p7 =>
 ld cS p7 >>= fun x8 =>
 (if x6 = (x8.size : Int) then
   pure s4
  else
   pure false) >>= fun y9 =>
 if y9 = true then
  pure (LS.done none)
 else
  ZaW a0 >>= fun r10 =>
  if ¬ (r10.2 = none) then
   pure (LS.done r10.2)
  else
   draw >>= fun _ =>
   (if r10.1 = true then
     pure true
    else
     nilck a0 >>= fun p11 =>
     ld (cI .i64) (Addr.add p11 1) >>= fun x12 =>
     nilck a0 >>= fun p13 =>
     ld cS p13 >>= fun x14 =>
     pure (x12 == (x14.size : Int))) >>= fun y15 =>
   if y15 = true then
    nilck a0 >>= fun p28 =>
    ld (cI .i64) (Addr.add p28 3) >>= fun x29 =>
    (if x29 < 0 then
      nilck a0 >>= fun p30 =>
      ld cL (Addr.add p30 2) >>= fun x31 =>
      pure ((x31.len : Int) != 8)
     else
      pure false) >>= fun y32 =>
    if y32 = true then
     nilck a0 >>= fun p36 =>
     ld cS p36 >>= fun x37 =>
     newv 304 Zbt (⟨42, (x37.size : Int)⟩ : ZbK) >>= fun b38 =>
     pure (LS.done (some (pt b38 0)))
    else
     pure (LS.done none)
   else
    ZcI a0 >>= fun r40 =>
    if ¬ (r40.2 = none) then
     pure (LS.done r40.2)
    else
     if ¬ (r40.1 = true) then
      draw >>= fun _ =>
      nilck a0 >>= fun p57 =>
      ld cS p57 >>= fun x58 =>
      nilck a0 >>= fun p59 =>
      ld (cI .i64) (Addr.add p59 1) >>= fun x60 =>
      chk ((0 : Int) ≤ x60 ∧ x60 < (x58.size : Int)) >>= fun _ =>
      if (sb x58 x60) ≠ 58 then
       nilck a0 >>= fun p66 =>
       ld (cI .i64) (Addr.add p66 1) >>= fun x67 =>
       newv 304 Zbt (⟨41, x67⟩ : ZbK) >>= fun b68 =>
       pure (LS.done (some (pt b68 0)))
      else
       nilck a0 >>= fun p69 =>
       ld (cI .i64) (Addr.add p69 1) >>= fun x70 =>
       nilck a0 >>= fun p71 =>
       st (cI .i64) (Addr.add p71 1) (IntKind.wrap .i64 (x70 + 1)) >>= fun _ =>
       pure (LS.next r40.1)
     else
      pure (LS.next r40.1)
theorem Zbp.L1_ok (a0 : (Option Addr)) : LJ Zbp.cx (Zbp.F1 a0) (fun s_ => Zbp.L1 a0 s_) := by
 rintro s4
 show SJ _ _ _ _ (Zbp.L1 a0 s4) _
 unfold Zbp.L1
 refine SJ.block (id := 1) <| SJ.seq <| SJ.seq <| J.R 13 ZcR <| J.n 1 fun p5 => J.l 1 Ty3 fun x6 => J.n 1 fun p7 => J.l 1 Ty9 fun x8 => J.j 3 1 .bool ?_ ?_ fun y9 => ?_
 ·exact J.e 2
 ·exact J.e 2
 refine J.z 0 <| J.f ?_ ?_
 ·exact SJ.sr 1 <| J.z 1 <| J.r
 refine SJ.skip <| SJ.sr 7 <| J.C 1 F249 (ZiL _) fun r10 => J.z 5 <| SJ.seq <| SJ.sr 2 <| J.z 2 <| J.f ?_ ?_
 ·exact SJ.sr 2 <| J.z 2 <| J.r
 refine SJ.skip <| SJ.seq <| SJ.seq <| J.R 13 ZcR <| J.j 2 10 .bool ?_ ?_ fun y15 => ?_
 ·exact J.e 11
 ·exact J.n 1 fun p11 => J.l 1 Ty3 fun x12 => J.n 1 fun p13 => J.l 1 Ty9 fun x14 => J.e 3
 refine J.z 0 <| J.f ?_ ?_
 ·refine SJ.seq <| SJ.sr 13 <| J.n 1 fun p28 => J.l 1 Ty3 fun x29 => J.j 2 6 .bool ?_ ?_ fun y32 => ?_
  ·exact J.n 1 fun p30 => J.l 1 Ty92 fun x31 => J.e 3
  ·exact J.e 7
  refine J.z 0 <| J.f ?_ ?_
  ·exact SJ.sr 8 <| J.n 1 fun p36 => J.l 1 Ty9 fun x37 => J.u 1 Zil (.f 0 (Zbv _ 42) (.f 1 (Zbw _ (x37.size : Int)) .nil)) <| J.B 0 fun b38 => J.z 1 <| J.r
  exact SJ.skip <| SJ.sr 1 <| J.z 1 <| J.r
 refine SJ.skip <| SJ.sr 7 <| J.C 1 F248 (Zfx _) fun r40 => J.z 5 <| SJ.seq <| SJ.sr 2 <| J.z 2 <| J.f ?_ ?_
 ·exact SJ.sr 2 <| J.z 2 <| J.r
 refine SJ.skip <| SJ.sr 2 <| J.z 2 <| J.f ?_ ?_
 ·refine SJ.seq <| SJ.seq <| J.R 10 ZcR <| J.n 1 fun p57 => J.l 1 Ty9 fun x58 => J.n 1 fun p59 => J.l 1 Ty3 fun x60 => J.t 0 fun hb61 hb62 => J.z 1 <| J.f ?_ ?_
  ·exact SJ.sr 7 <| J.n 1 fun p66 => J.l 1 Ty3 fun x67 => J.u 0 Zil (.f 0 (Zbv _ 41) (.f 1 (Zbw _ x67) .nil)) <| J.B 0 fun b68 => J.z 1 <| J.r
  exact SJ.skip <| SJ.rg 8 <| J.n 1 fun p69 => J.l 1 Ty3 fun x70 => J.n 1 fun p71 => J.w 1 Ty3 <| J.z 0 <| SJ.inBlock <| J.o rfl
 exact SJ.skip <| SJ.inBlock <| J.o rfl
noncomputable def Zbp (a0 : (Option Addr)) : M (Option Addr) :=
 ZcI a0 >>= fun r1 =>
 if ¬ (r1.2 = none) then
  pure r1.2
 else
  nilck a0 >>= fun p2 =>
  ld (cI .i64) (Addr.add p2 3) >>= fun x3 =>
  Zb9 (fun s_ : Bool => Zbp.L1 a0 s_) (decide (x3 ≥ 0))
theorem Zjg (a0 : (Option Addr)) : Ref Tryz.prog 230 [.pointer a0] (Zbp a0) Zbp.out := by
 refine J.Fn Tryz.func230 ?_
 unfold Zbp
 refine SJ.sr 1 <| J.z 1 <| SJ.seq <| SJ.sr 7 <| J.C 1 F248 (Zfx _) fun r1 => J.z 5 <| SJ.sr 2 <| J.z 2 <| J.f ?_ ?_
 ·exact SJ.sr 2 <| J.z 2 <| J.r
 exact SJ.skip <| SJ.sr 6 <| J.n 1 fun p2 => J.l 1 Ty3 fun x3 => J.z 2 <| SJ.block (id := 0) <| J.L (Zbp.L1_ok a0)

/-! ### (*weir/addr.six).bytes: function 231 -/
noncomputable def ZaK.B : Code := bod Tryz.f231
noncomputable def ZaK.cx : Fx := ⟨Tryz.prog, 231, Tryz.f231, none⟩
noncomputable def ZaK.out (r_ : (Vec Int 16)) : Value := ((cI .u8).arr 16).val r_
noncomputable def ZaK.F1 (a0 : (Option Addr)) (b1 : Nat) (b2 : Nat) (x4 : Sl) : LF (Int × (Vec Int 16)) (Vec Int 16) := ⟨[.inBlock 0, .code (c2 (c2 (c2 ZaK.B)))], c1 (c2 (c1 (c2 (c2 ZaK.B)))), fun s_ => [(0, .pointer a0), (2, .pointer (some (pt b1 0))), (3, .pointer (some (pt b2 0))), (9, Sl.v x4), (10, .int .i64 (x4.len : Int)), (11, .int .i64 s_.1)], fun s_ => [(b2, ((cI .u8).arr 16).enc s_.2), (b1, ((cI .u8).arr 16).enc (Vec.rep 16 0))], (rt ZaK.out)⟩
noncomputable def ZaK.K1 (s5 : Int) (s6 : (Vec Int 16)) (x26 : Int) (j34 : Int) : M (LS (Int × (Vec Int 16)) (Vec Int 16)) :=
 chk ((0 : Int) ≤ (IntKind.wrap .i64 (2 * j34)) ∧ (IntKind.wrap .i64 (2 * j34)) < (16 : Nat)) >>= fun _ =>
 chk ((0 : Int) ≤ (IntKind.wrap .i64 ((IntKind.wrap .i64 (2 * j34)) + 1)) ∧ (IntKind.wrap .i64 ((IntKind.wrap .i64 (2 * j34)) + 1)) < (16 : Nat)) >>= fun _ =>
 pure (LS.next (IntKind.wrap .i64 (s5 + 1), (Vec.s (Vec.s s6 (IntKind.wrap .i64 (2 * j34)) (IntKind.wrap .u8 (Int.fdiv x26 (2 ^ 8)))) (IntKind.wrap .i64 ((IntKind.wrap .i64 (2 * j34)) + 1)) (IntKind.wrap .u8 x26))))
theorem ZaK.K1_ok (a0 : (Option Addr)) (b1 : Nat) (b2 : Nat) (x4 : Sl) (s5 : Int) (s6 : (Vec Int 16)) (x26 : Int) (j34 : Int) :
  SJ ZaK.cx [.code (c2 (c2 (c1 (c1 (c2 (c2 (c1 (c1 (c2 (c1 (c2 (c2 ZaK.B)))))))))))), .inBlock 1, .code (c2 (c2 (c2 (c1 (c1 (c2 (c1 (c2 (c2 ZaK.B))))))))), .inLoop (c1 (c1 (c2 (c1 (c2 (c2 ZaK.B)))))), .inBlock 0, .code (c2 (c2 (c2 ZaK.B)))] [(0, .pointer a0), (2, .pointer (some (pt b1 0))), (3, .pointer (some (pt b2 0))), (9, Sl.v x4), (10, .int .i64 (x4.len : Int)), (11, .int .i64 s5), (4, .int .i64 j34), (5, .int .i64 x26)] [(b2, ((cI .u8).arr 16).enc s6), (b1, ((cI .u8).arr 16).enc (Vec.rep 16 0))] (ZaK.K1 s5 s6 x26 j34) (ZaK.F1 a0 b1 b2 x4).f := by
 unfold ZaK.K1
 exact SJ.rg 14 <| J.y 10 fun hb35 hb36 => J.s (u := (IntKind.wrap .u8 (Int.fdiv x26 (2 ^ 8)))) 0 0 rfl Ty5 (Upd.zero (Upd.arr hb35 hb36)) <| J.y 0 fun hb37 hb38 => J.s (u := (IntKind.wrap .u8 x26)) 0 0 rfl Ty5 (Upd.zero (Upd.arr hb37 hb38)) <| J.z 0 <| SJ.inBlock <| SJ.rg 2 <| J.z 2 <| J.o rfl
noncomputable def ZaK.L1 (a0 : (Option Addr)) (x4 : Sl) (s5 : Int) (s6 : (Vec Int 16)) : M (LS (Int × (Vec Int 16)) (Vec Int 16)) :=
 if s5 < (x4.len : Int) then
  idx x4.a x4.len s5 1 >>= fun p25 =>
  ld (cI .i64) p25 >>= fun x26 =>
  nilck a0 >>= fun p27 =>
  ld (cI .i64) (Addr.add p27 3) >>= fun x28 =>
  (if x28 ≥ 0 then
    nilck a0 >>= fun p29 =>
    ld (cI .i64) (Addr.add p29 3) >>= fun x30 =>
    pure (decide (s5 ≥ x30))
   else
    pure false) >>= fun y31 =>
  if y31 = true then
   nilck a0 >>= fun p39 =>
   ld cL (Addr.add p39 2) >>= fun x40 =>
   ZaK.K1 s5 s6 x26 (IntKind.wrap .i64 (s5 + (IntKind.wrap .i64 (8 - (x40.len : Int)))))
  else
   ZaK.K1 s5 s6 x26 s5
 else
  pure (LS.done s6)
theorem ZaK.L1_ok (a0 : (Option Addr)) (b1 : Nat) (b2 : Nat) (x4 : Sl) : LJ ZaK.cx (ZaK.F1 a0 b1 b2 x4) (fun s_ => ZaK.L1 a0 x4 s_.1 s_.2) := by
 rintro ⟨s5, s6⟩
 show SJ _ _ _ _ (ZaK.L1 a0 x4 s5 s6) _
 unfold ZaK.L1
 refine SJ.sr 1 <| J.z 1 <| SJ.seq <| J.f ?_ ?_
 ·refine SJ.skip <| SJ.seq <| SJ.block (id := 1) <| SJ.sr 5 <| J.i 1 fun p25 => J.l 0 Ty3 fun x26 => J.z 2 <| SJ.seq <| SJ.sr 13 <| J.n 1 fun p27 => J.l 1 Ty3 fun x28 => J.j 2 6 .bool ?_ ?_ fun y31 => ?_
  ·exact J.n 2 fun p29 => J.l 1 Ty3 fun x30 => J.e 2
  ·exact J.e 7
  refine J.z 0 <| J.f ?_ ?_
  ·exact SJ.rg 9 <| J.n 2 fun p39 => J.l 1 Ty92 fun x40 => J.z 4 <| J.q <| ZaK.K1_ok a0 b1 b2 x4 s5 s6 x26 (IntKind.wrap .i64 (s5 + (IntKind.wrap .i64 (8 - (x40.len : Int)))))
  exact SJ.skip <| J.q <| ZaK.K1_ok a0 b1 b2 x4 s5 s6 x26 s5
 exact SJ.exit (id := 0) (by rfl) <| SJ.sr 2 <| J.k 0 0 rfl Ty64 (At.whole _) <| J.s 0 1 rfl Ty64 (Upd.w s6) <| J.z 0 <| J.rc (.c 1 rfl Ty64 .n)
noncomputable def ZaK (a0 : (Option Addr)) : M (Vec Int 16) :=
 slot 64 >>= fun b1 =>
 slot 64 >>= fun b2 =>
 nilck a0 >>= fun p3 =>
 ld cL (Addr.add p3 2) >>= fun x4 =>
 Zb9 (fun s_ : (Int × (Vec Int 16)) => ZaK.L1 a0 x4 s_.1 s_.2) (0, (Vec.rep 16 0))
theorem ZiM (a0 : (Option Addr)) : Ref Tryz.prog 231 [.pointer a0] (ZaK a0) ZaK.out := by
 refine J.Fn Tryz.func231 ?_
 unfold ZaK
 exact SJ.sr 1 <| J.a 0 Ty64 fun b1 => J.z 0 <| SJ.sr 1 <| J.a 0 Ty64 fun b2 => J.z 0 <| SJ.seq <| SJ.sr 6 <| J.n 1 fun p3 => J.l 1 Ty92 fun x4 => J.z 2 <| SJ.block (id := 0) <| J.L (ZaK.L1_ok a0 b1 b2 x4)

/-! ### weir/addr.parse: function 210 -/
noncomputable def Zel.out (r_ : (Zbe × (Option Addr))) : Value := .tuple #[Zbo.val r_.1, .pointer r_.2]
noncomputable def Zel (a0 : ByteArray) : M (Zbe × (Option Addr)) :=
 slot 66 >>= fun b1 =>
 if (a0.size : Int) > 45 then
  newv 304 Zbt (⟨2, 45⟩ : ZbK) >>= fun b3 =>
  pure (ZdR, (some (pt b3 0)))
 else
  ZcM a0 Znm >>= fun r4 =>
  if ¬ (r4 = true) then
   Za4 a0 0 >>= fun r8 =>
   slot 327 >>= fun b9 =>
   if ¬ (r8.2 = none) then
    pure (ZdR, r8.2)
   else
    pure ((⟨4, (⟨[(Vec.g r8.1 0 0), (Vec.g r8.1 1 0), (Vec.g r8.1 2 0), (Vec.g r8.1 3 0), 0, 0, 0, 0, 0, 0, 0, 0, 0, 0, 0, 0], rfl⟩ : (Vec Int 16))⟩ : Zbe), none)
  else
   newv 332 ZcA (⟨a0, ZgY.at_, ZgY.groups, (-1)⟩ : Zds) >>= fun b11 =>
   Zbp (some (pt b11 0)) >>= fun r12 =>
   if ¬ (r12 = none) then
    pure (ZdR, r12)
   else
    ZaK (some (pt b11 0)) >>= fun r13 =>
    pure ((⟨6, r13⟩ : Zbe), none)
theorem Zii (a0 : ByteArray) : Ref Tryz.prog 210 [.string a0] (Zel a0) Zel.out := by
 refine J.Fn Tryz.func210 ?_
 unfold Zel
 refine SJ.sr 2 <| J.a 0 Ty66 fun b1 => J.z 1 <| SJ.seq <| SJ.sr 3 <| J.z 3 <| J.f ?_ ?_
 ·exact SJ.sr 5 <| J.u 0 Ty66 .nil <| J.u 0 Zil (.f 0 (Zbv _ 2) (.f 1 (Zbw _ 45) .nil)) <| J.B 0 fun b3 => J.s 0 0 rfl Ty66 (Upd.w ZdR) <| J.z 1 <| J.rc (.c 0 rfl Ty66 .n)
 refine SJ.skip <| SJ.seq <| SJ.sr 3 <| J.C 1 F228 (Zhv _ _) fun r4 => J.z 1 <| J.f ?_ ?_
 ·refine SJ.sr 8 <| J.C 1 F229 (Zi8 _ _) fun r8 => J.a 3 Zf9 fun b9 => J.s 0 0 rfl Zf9 (Upd.w r8.1) <| J.z 1 <| SJ.seq <| SJ.sr 2 <| J.z 2 <| J.f ?_ ?_
  ·exact SJ.sr 4 <| J.u 0 Ty66 .nil <| J.s 1 1 rfl Ty66 (Upd.w ZdR) <| J.z 1 <| J.rc (.c 1 rfl Ty66 .n)
  exact SJ.skip <| SJ.sr 12 <| J.k 1 0 rfl Ty5 (At.zero (At.arr (z := 0) (i := 0) (n := 4) (by decide) (by decide))) <| J.k 1 0 rfl Ty5 (At.zero (At.arr (z := 0) (i := 1) (n := 4) (by decide) (by decide))) <| J.k 1 0 rfl Ty5 (At.zero (At.arr (z := 0) (i := 2) (n := 4) (by decide) (by decide))) <| J.k 1 0 rfl Ty5 (At.zero (At.arr (z := 0) (i := 3) (n := 4) (by decide) (by decide))) <| OJ.build (d := 34) (T := 64) (parts := [(0, .tmp 27), (1, .tmp 29), (2, .tmp 31), (3, .tmp 33)]) (ps := [(0, (cI .u8).val (Vec.g r8.1 0 0)), (1, (cI .u8).val (Vec.g r8.1 1 0)), (2, (cI .u8).val (Vec.g r8.1 2 0)), (3, (cI .u8).val (Vec.g r8.1 3 0))]) (cd := ((cI .u8).arr 16)) (z0 := (Vec.rep 16 0)) (⟨[(Vec.g r8.1 0 0), (Vec.g r8.1 1 0), (Vec.g r8.1 2 0), (Vec.g r8.1 3 0), 0, 0, 0, 0, 0, 0, 0, 0, 0, 0, 0, 0], rfl⟩ : (Vec Int 16)) Ty64 rfl (Zb4.cons (cd := (cI .u8)) (q := (Vec.g r8.1 0 0)) (o := 0) (by kernel_rfl) (Upd.arr (i := 0) (by decide) (by decide)) (Zb4.cons (cd := (cI .u8)) (q := (Vec.g r8.1 1 0)) (o := 1) (by kernel_rfl) (Upd.arr (i := 1) (by decide) (by decide)) (Zb4.cons (cd := (cI .u8)) (q := (Vec.g r8.1 2 0)) (o := 2) (by kernel_rfl) (Upd.arr (i := 2) (by decide) (by decide)) (Zb4.cons (cd := (cI .u8)) (q := (Vec.g r8.1 3 0)) (o := 3) (by kernel_rfl) (Upd.arr (i := 3) (by decide) (by decide)) Zb4.nil)))) <| J.u 0 Ty66 (.f 0 (ZhM _ 4) (.f 1 (ZhN _ (⟨[(Vec.g r8.1 0 0), (Vec.g r8.1 1 0), (Vec.g r8.1 2 0), (Vec.g r8.1 3 0), 0, 0, 0, 0, 0, 0, 0, 0, 0, 0, 0, 0], rfl⟩ : (Vec Int 16))) .nil)) <| J.s 0 1 rfl Ty66 (Upd.w (⟨4, (⟨[(Vec.g r8.1 0 0), (Vec.g r8.1 1 0), (Vec.g r8.1 2 0), (Vec.g r8.1 3 0), 0, 0, 0, 0, 0, 0, 0, 0, 0, 0, 0, 0], rfl⟩ : (Vec Int 16))⟩ : Zbe)) <| J.z 1 <| J.rc (.c 1 rfl Ty66 .n)
 refine SJ.skip <| SJ.sr 4 <| J.u 1 Zuv (.f 0 (Zl1 _ a0) (.f 3 (ZgX _ (-1)) .nil)) <| J.B 0 fun b11 => J.z 1 <| SJ.seq <| SJ.sr 3 <| J.C 1 F230 (Zjg _) fun r12 => J.z 1 <| SJ.sr 2 <| J.z 2 <| J.f ?_ ?_
 ·exact SJ.sr 4 <| J.u 0 Ty66 .nil <| J.s 1 0 rfl Ty66 (Upd.w ZdR) <| J.z 1 <| J.rc (.c 0 rfl Ty66 .n)
 exact SJ.skip <| SJ.sr 5 <| J.C 1 F231 (ZiM _) fun r13 => J.u 0 Ty66 (.f 0 (ZhM _ 6) (.f 1 (ZhN _ r13) .nil)) <| J.s 0 0 rfl Ty66 (Upd.w (⟨6, r13⟩ : Zbe)) <| J.z 1 <| J.rc (.c 0 rfl Ty66 .n)

/-! ### weir/addr.ParsePrefix: function 176 -/
noncomputable def Zas.B : Code := bod Tryz.f176
noncomputable def Zas.cx : Fx := ⟨Tryz.prog, 176, Tryz.f176, none⟩
noncomputable def Zas.out (r_ : (Zap × Int × Int)) : Value := .tuple #[ZaF.val r_.1, .int .i64 r_.2.1, .int .i64 r_.2.2]
noncomputable def Zas.K1 (r3 : (Zbe × (Option Addr))) (j8 : Int) (j17 : (Option Addr)) : M (Zap × Int × Int) :=
 if ¬ (j17 = none) then
  draw >>= fun _ =>
  nilck j17 >>= fun p22 =>
  ld (cI .i64) p22 >>= fun x23 =>
  nilck j17 >>= fun p24 =>
  ld (cI .i64) (Addr.add p24 1) >>= fun x25 =>
  same (cI .i64) (Addr.add p24 1) x25 >>= fun _ =>
  same (cI .i64) p22 x23 >>= fun _ =>
  pure (Zbl, x23, x25)
 else
  pure ((⟨r3.1, j8⟩ : Zap), 0, 0)
theorem Zas.K1_ok (b1 : Nat) (r3 : (Zbe × (Option Addr))) (j8 : Int) (b13 : Nat) (j17 : (Option Addr)) :
  SJ Zas.cx [.code (c2 (c2 (c2 (c2 (c2 (c2 (c2 (c2 (c2 (c2 Zas.B))))))))))] [(2, .pointer (some (pt b1 0))), (9, .pointer j17), (12, .pointer (some (pt b13 0)))] [(b13, ZaF.enc (⟨r3.1, j8⟩ : Zap)), (b1, ZaF.enc Zbl)] (Zas.K1 r3 j8 j17) (rt Zas.out) := by
 unfold Zas.K1
 refine SJ.seq <| SJ.sr 2 <| J.z 2 <| J.f ?_ ?_
 ·exact SJ.seq <| J.R 12 ZcR <| J.u 0 Zcb .nil <| J.n 1 fun p22 => J.l 1 Ty29 fun x23 => J.n 1 fun p24 => J.l 1 Ty3 fun x25 => OJ.kst (y := .tmp 2) (z := .tmp 71) (cd := ZaF) (u := Zbl) (j := 1) (b := b1) (o := 0) (ZaF.enc Zbl) (owed := [⟨8, 3, (Addr.add p24 1), (cI .i64).val x25⟩, ⟨4, 29, p22, (cI .i64).val x23⟩]) Zcb rfl (Upd.whole ((Cod.len _ _).trans (Cod.len _ _).symm)) rfl <| OW.same Ty3 <| OW.same Ty29 <| OW.nil <| J.z 2 <| J.rc (.c 1 rfl Zcb .n)
 exact SJ.skip <| SJ.sr 4 <| J.k 0 0 rfl Zcb (At.whole _) <| J.s 0 1 rfl Zcb (Upd.w (⟨r3.1, j8⟩ : Zap)) <| J.z 2 <| J.rc (.c 1 rfl Zcb .n)
noncomputable def Zas.K2 (r3 : (Zbe × (Option Addr))) (j8 : Int) (j12 : (Option Addr)) : M (Zap × Int × Int) :=
 slot 117 >>= fun b13 =>
 (if j12 = none then
   Zcg (⟨r3.1, j8⟩ : Zap) >>= fun r14 =>
   pure (r14 != 0)
  else
   pure false) >>= fun y15 =>
 if y15 = true then
  newv 304 Zbt (⟨46, 0⟩ : ZbK) >>= fun b27 =>
  Zas.K1 r3 j8 (some (pt b27 0))
 else
  Zas.K1 r3 j8 j12
theorem Zas.K2_ok (b1 : Nat) (r3 : (Zbe × (Option Addr))) (b4 : Nat) (j8 : Int) (j12 : (Option Addr)) :
  SJ Zas.cx [.code (c2 (c2 (c2 (c2 (c2 (c2 (c2 (c2 Zas.B))))))))] [(2, .pointer (some (pt b1 0))), (8, .pointer (some (pt b4 0))), (9, .pointer j12), (10, .int .i64 j8)] [(b4, Zbo.enc r3.1), (b1, ZaF.enc Zbl)] (Zas.K2 r3 j8 j12) (rt Zas.out) := by
 unfold Zas.K2
 refine SJ.sr 5 <| J.k 0 0 rfl Ty66 (At.whole _) <| J.u 1 Zcb (.f 0 (ZeU _ r3.1) (.f 1 (ZcZ _ j8) .nil)) <| J.a 0 Zcb fun b13 => J.s 0 0 rfl Zcb (Upd.w (⟨r3.1, j8⟩ : Zap)) <| J.z 0 <| SJ.seq <| SJ.sr 7 <| J.j 3 3 .bool ?_ ?_ fun y15 => ?_
 ·exact J.k 0 0 rfl Zcb (At.whole _) <| J.C 0 F152 (Zeh _) fun r14 => J.e 2
 ·exact J.e 4
 refine J.z 0 <| J.f ?_ ?_
 ·exact SJ.rg 3 <| J.u 0 Zil (.f 0 (Zbv _ 46) (.f 1 (Zbw _ 0) .nil)) <| J.B 0 fun b27 => J.z 1 <| SJ.forget (List.Sublist.cons_cons _ (List.Sublist.cons _ (List.Sublist.cons_cons _ List.Sublist.slnil))) <| J.q <| Zas.K1_ok b1 r3 j8 b13 (some (pt b27 0))
 exact SJ.skip <| SJ.forget (List.Sublist.cons_cons _ (List.Sublist.cons _ (List.Sublist.cons_cons _ List.Sublist.slnil))) <| J.q <| Zas.K1_ok b1 r3 j8 b13 j12
noncomputable def Zas.K3 (a0 : ByteArray) (r3 : (Zbe × (Option Addr))) (j7 : (Option Addr)) (j8 : Int) (j9 : Int) : M (Zap × Int × Int) :=
 (if j7 = none then
   pure (decide (j9 < (a0.size : Int)))
  else
   pure false) >>= fun y10 =>
 if y10 = true then
  newv 304 Zbt (⟨41, j9⟩ : ZbK) >>= fun b29 =>
  Zas.K2 r3 j8 (some (pt b29 0))
 else
  Zas.K2 r3 j8 j7
theorem Zas.K3_ok (a0 : ByteArray) (b1 : Nat) (r3 : (Zbe × (Option Addr))) (b4 : Nat) (j7 : (Option Addr)) (j8 : Int) (j9 : Int) :
  SJ Zas.cx [.code (c2 (c2 (c2 (c2 (c2 (c2 (c2 Zas.B)))))))] [(0, .string a0), (2, .pointer (some (pt b1 0))), (8, .pointer (some (pt b4 0))), (9, .pointer j7), (10, .int .i64 j8), (11, .int .i64 j9)] [(b4, Zbo.enc r3.1), (b1, ZaF.enc Zbl)] (Zas.K3 a0 r3 j7 j8 j9) (rt Zas.out) := by
 unfold Zas.K3
 refine SJ.seq <| SJ.sr 8 <| J.j 3 4 .bool ?_ ?_ fun y10 => ?_
 ·exact J.e 5
 ·exact J.e 5
 refine J.z 0 <| J.f ?_ ?_
 ·exact SJ.rg 4 <| J.u 1 Zil (.f 0 (Zbv _ 41) (.f 1 (Zbw _ j9) .nil)) <| J.B 0 fun b29 => J.z 1 <| J.q <| Zas.K2_ok b1 r3 b4 j8 (some (pt b29 0))
 exact SJ.skip <| J.q <| Zas.K2_ok b1 r3 b4 j8 j7
noncomputable def Zas (a0 : ByteArray) : M (Zap × Int × Int) :=
 slot 117 >>= fun b1 =>
 if (a0.size : Int) > 49 then
  pure (Zbl, 2, 49)
 else
  Zc3 a0 Zkt >>= fun r2 =>
  if ¬ (r2.2.2 = true) then
   pure (Zbl, 42, (a0.size : Int))
  else
   Zel r2.1 >>= fun r3 =>
   slot 66 >>= fun b4 =>
   if r3.2 = none then
    Zex r3.1 >>= fun r31 =>
    ZaS a0 (IntKind.wrap .i64 ((r2.1.size : Int) + 1)) r31 45 >>= fun r32 =>
    Zas.K3 a0 r3 r32.2.2 r32.1 r32.2.1
   else
    Zas.K3 a0 r3 r3.2 0 0
theorem ZhJ (a0 : ByteArray) : Ref Tryz.prog 176 [.string a0] (Zas a0) Zas.out := by
 refine J.Fn Tryz.func176 ?_
 unfold Zas
 refine SJ.sr 3 <| J.a 0 Zcb fun b1 => J.z 2 <| SJ.seq <| SJ.sr 3 <| J.z 3 <| J.f ?_ ?_
 ·exact SJ.sr 4 <| J.u 0 Zcb .nil <| J.s 0 0 rfl Zcb (Upd.w Zbl) <| J.z 2 <| J.rc (.c 0 rfl Zcb .n)
 refine SJ.skip <| SJ.sr 9 <| J.C 1 F178 (Zhm _ _) fun r2 => J.z 7 <| SJ.seq <| SJ.sr 2 <| J.z 2 <| J.f ?_ ?_
 ·exact SJ.sr 6 <| J.u 0 Zcb .nil <| J.s 2 0 rfl Zcb (Upd.w Zbl) <| J.z 2 <| J.rc (.c 0 rfl Zcb .n)
 refine SJ.skip <| SJ.sr 8 <| J.C 1 F210 (Zii _) fun r3 => J.a 3 Ty66 fun b4 => J.s 0 0 rfl Ty66 (Upd.w r3.1) <| J.z 1 <| SJ.sr 2 <| J.z 2 <| SJ.seq <| SJ.sr 2 <| J.z 2 <| J.f ?_ ?_
 ·exact SJ.rg 14 <| J.k 4 0 rfl Ty66 (At.whole _) <| J.C 0 F181 (ZgS _) fun r31 => J.C 0 F211 (Zhr _ _ _ _) fun r32 => J.z 7 <| J.q <| Zas.K3_ok a0 b1 r3 b4 r32.2.2 r32.1 r32.2.1
 exact SJ.skip <| J.q <| Zas.K3_ok a0 b1 r3 b4 r3.2 0 0

/-! ### weir/addr.ParseIP: function 177 -/
noncomputable def ZdC.out (r_ : (Zbe × Int × Int)) : Value := .tuple #[Zbo.val r_.1, .int .i64 r_.2.1, .int .i64 r_.2.2]
noncomputable def ZdC (a0 : ByteArray) : M (Zbe × Int × Int) :=
 slot 66 >>= fun b1 =>
 Zel a0 >>= fun r2 =>
 slot 66 >>= fun b3 =>
 if ¬ (r2.2 = none) then
  draw >>= fun _ =>
  nilck r2.2 >>= fun p8 =>
  ld (cI .i64) p8 >>= fun x9 =>
  nilck r2.2 >>= fun p10 =>
  ld (cI .i64) (Addr.add p10 1) >>= fun x11 =>
  same (cI .i64) (Addr.add p10 1) x11 >>= fun _ =>
  same (cI .i64) p8 x9 >>= fun _ =>
  pure (ZdR, x9, x11)
 else
  pure (r2.1, 0, 0)
theorem Zkm (a0 : ByteArray) : Ref Tryz.prog 177 [.string a0] (ZdC a0) ZdC.out := by
 refine J.Fn Tryz.func177 ?_
 unfold ZdC
 refine SJ.sr 3 <| J.a 0 Ty66 fun b1 => J.z 2 <| SJ.sr 8 <| J.C 1 F210 (Zii _) fun r2 => J.a 3 Ty66 fun b3 => J.s 0 0 rfl Ty66 (Upd.w r2.1) <| J.z 1 <| SJ.seq <| SJ.sr 2 <| J.z 2 <| J.f ?_ ?_
 ·exact SJ.seq <| J.R 12 ZcR <| J.u 0 Ty66 .nil <| J.n 1 fun p8 => J.l 1 Ty29 fun x9 => J.n 1 fun p10 => J.l 1 Ty3 fun x11 => OJ.kst (y := .tmp 2) (z := .tmp 14) (cd := Zbo) (u := ZdR) (j := 1) (b := b1) (o := 0) (Zbo.enc ZdR) (owed := [⟨8, 3, (Addr.add p10 1), (cI .i64).val x11⟩, ⟨4, 29, p8, (cI .i64).val x9⟩]) Ty66 rfl (Upd.whole ((Cod.len _ _).trans (Cod.len _ _).symm)) rfl <| OW.same Ty3 <| OW.same Ty29 <| OW.nil <| J.z 2 <| J.rc (.c 1 rfl Ty66 .n)
 exact SJ.skip <| SJ.sr 4 <| J.k 0 0 rfl Ty66 (At.whole _) <| J.s 0 1 rfl Ty66 (Upd.w r2.1) <| J.z 2 <| J.rc (.c 1 rfl Ty66 .n)

/-! ### (*weir/rules.reader).net: function 144 -/
noncomputable def ZaC.B : Code := bod Tryz.f144
noncomputable def ZaC.cx : Fx := ⟨Tryz.prog, 144, Tryz.f144, none⟩
noncomputable def ZaC.out (r_ : Zap) : Value := ZaF.val r_
noncomputable def ZaC.K1 (a0 : (Option Addr)) (a1 : Int) (r2 : ZaI) (j10 : Int) (j11 : Zap) : M Zap :=
 draw >>= fun _ =>
 nilck a0 >>= fun p12 =>
 ld (cI .i64) (Addr.add p12 19) >>= fun x13 =>
 (if x13 = 0 then
   (if j10 ≠ 0 then
     pure true
    else
     pure (a1 == 16)) >>= fun y14 =>
   (if y14 = true then
     pure true
    else
     nilck a0 >>= fun p15 =>
     ld (cI .i64) (Addr.add (Addr.add p15 3) 2) >>= fun x16 =>
     Zde j11 x16 >>= fun r17 =>
     pure (!r17)) >>= fun y18 =>
   pure y18
  else
   pure false) >>= fun y19 =>
 if y19 = true then
  ZaX a0 163 r2.at_ >>= fun r21 =>
  pure j11
 else
  pure j11
theorem ZaC.K1_ok (a0 : (Option Addr)) (a1 : Int) (b1 : Nat) (r2 : ZaI) (b3 : Nat) (b5 : Nat) (j10 : Int) (j11 : Zap) :
  SJ ZaC.cx [.code (c2 (c2 (c2 (c2 ZaC.B))))] [(0, .pointer a0), (1, .int .i64 a1), (4, .pointer (some (pt b1 0))), (5, .pointer (some (pt b3 0))), (6, .pointer (some (pt b5 0))), (7, .int .i64 j10)] [(b5, ZaF.enc j11), (b3, Zbm.enc r2), (b1, ZaF.enc Zbl)] (ZaC.K1 a0 a1 r2 j10 j11) (rt ZaC.out) := by
 unfold ZaC.K1
 refine SJ.seq <| SJ.seq <| J.R 23 ZcR <| J.n 1 fun p12 => J.l 1 Ty29 fun x13 => J.g 2 <| OJ.join (b := (x13 == 0)) [6, 7, 8, 9, 10, 11, 12, 13, 14, 15, 16, 17, 18, 19, 20, 21, 22] [] [0, 4, 5, 6, 59] (fun y19 => [(0, .pointer a0), (4, .pointer (some (pt b1 0))), (5, .pointer (some (pt b3 0))), (6, .pointer (some (pt b5 0))), (59, .bool y19)]) [⟨3, 29, (Addr.add p12 19), (cI .i64).val x13⟩] [13, 18] (t := 42) beq_iff_eq (fun hp_ => ?_) (fun hp_ => ?_) (fun _ _ _ _ _ _ h_ => h_) fun y19 => ?_
 ·refine J.g 3 <| OJ.join (b := (j10 != 0)) [9, 10, 11] [12, 13, 14, 15, 16, 17, 18, 19, 20, 21, 22] [0, 4, 5, 6, 42, 48] (fun y14 => [(0, .pointer a0), (4, .pointer (some (pt b1 0))), (5, .pointer (some (pt b3 0))), (6, .pointer (some (pt b5 0))), (42, .bool true), (48, .bool y14)]) [⟨3, 29, (Addr.add p12 19), (cI .i64).val x13⟩] [] (t := 45) bne_iff_ne (fun hp_ => ?_) (fun hp_ => ?_) (fun _ _ _ _ _ hq_ h_ => ⟨fun e_ he_ => (hq_ e_ he_).elim (fun h => h_.1 e_ h) (fun h => nomatch h), h_.2⟩) fun y14 => ?_
  ·exact J.g 3 <| OJ.nil ⟨(Cov.mem (Cov.keep (List.mem_of_getElem? (i := 0) rfl) Cov.nil)), rfl, _, rfl, by kernel_rfl⟩
  ·exact J.g 3 <| OJ.nil ⟨(Cov.mem (Cov.keep (List.mem_of_getElem? (i := 0) rfl) Cov.nil)), rfl, _, rfl, by kernel_rfl⟩
  refine J.g 1 <| OJ.join (b := y14) [13, 14, 15, 16, 17, 18, 19, 20, 21] [22] [0, 4, 5, 6, 42, 58] (fun y18 => [(0, .pointer a0), (4, .pointer (some (pt b1 0))), (5, .pointer (some (pt b3 0))), (6, .pointer (some (pt b5 0))), (42, .bool true), (58, .bool y18)]) [⟨3, 29, (Addr.add p12 19), (cI .i64).val x13⟩] [13, 18] (t := 49) Iff.rfl (fun hp_ => ?_) (fun hp_ => ?_) (fun _ _ _ _ _ hq_ h_ => ⟨fun e_ he_ => by rcases hq_ e_ he_ with h | h; exact h_.1 e_ h; exact .inr ((by decide : ∀ i ∈ [13, 18], i ∈ [13, 18]) _ h), h_.2⟩) fun y18 => ?_
  ·exact J.g 9 <| OJ.nil ⟨(Cov.mem (Cov.keep (List.mem_of_getElem? (i := 0) rfl) Cov.nil)), rfl, _, rfl, by kernel_rfl⟩
  ·exact J.k 0 0 rfl Zcb (At.whole _) <| J.n 1 fun p15 => J.l 2 Ty3 fun x16 => J.C 0 F110 (Zge _ _) fun r17 => J.g 2 <| OJ.nil ⟨(Cov.mem (Cov.drop (List.mem_of_getElem? (i := 1) rfl) (Cov.drop (List.mem_of_getElem? (i := 0) rfl) (Cov.keep (List.mem_of_getElem? (i := 0) rfl) Cov.nil)))), rfl, _, rfl, by kernel_rfl⟩
  exact J.g 1 <| OJ.nil ⟨(Cov.mem (Cov.keep (List.mem_of_getElem? (i := 0) rfl) Cov.nil)), rfl, _, rfl, by kernel_rfl⟩
 ·exact J.g 17 <| OJ.nil ⟨(Cov.mem (Cov.keep (List.mem_of_getElem? (i := 0) rfl) Cov.nil)), rfl, _, rfl, by kernel_rfl⟩
 refine J.z 0 <| J.f ?_ ?_
 ·exact SJ.rg 4 <| J.k 2 1 rfl Ty3 (ZbF _) <| J.C 0 F49 (Zbf _ _ _) fun r21 => J.z 0 <| SJ.sr 2 <| J.k 0 0 rfl Zcb (At.whole _) <| J.s 0 2 rfl Zcb (Upd.w j11) <| J.z 0 <| J.rc (.c 2 rfl Zcb .n)
 exact SJ.skip <| SJ.sr 2 <| J.k 0 0 rfl Zcb (At.whole _) <| J.s 0 2 rfl Zcb (Upd.w j11) <| J.z 0 <| J.rc (.c 2 rfl Zcb .n)
noncomputable def ZaC.K2 (a0 : (Option Addr)) (a1 : Int) (r2 : ZaI) (r23 : (Zbe × Int × Int)) (j25 : Zap) : M Zap :=
 ZaC.K1 a0 a1 r2 r23.2.1 j25
theorem ZaC.K2_ok (a0 : (Option Addr)) (a1 : Int) (b1 : Nat) (r2 : ZaI) (b3 : Nat) (b5 : Nat) (r23 : (Zbe × Int × Int)) (j25 : Zap) :
  SJ ZaC.cx [.code (c2 (c2 (c2 (c2 ZaC.B))))] [(0, .pointer a0), (1, .int .i64 a1), (4, .pointer (some (pt b1 0))), (5, .pointer (some (pt b3 0))), (6, .pointer (some (pt b5 0))), (7, .int .i64 r23.2.1)] [(b5, ZaF.enc j25), (b3, Zbm.enc r2), (b1, ZaF.enc Zbl)] (ZaC.K2 a0 a1 r2 r23 j25) (rt ZaC.out) := by
 unfold ZaC.K2
 exact J.q <| ZaC.K1_ok a0 a1 b1 r2 b3 b5 r23.2.1 j25
noncomputable def ZaC (a0 : (Option Addr)) (a1 : Int) : M Zap :=
 slot 117 >>= fun b1 =>
 ZbO a0 >>= fun r2 =>
 slot 129 >>= fun b3 =>
 Zas r2.s >>= fun r4 =>
 slot 117 >>= fun b5 =>
 if r4.2.1 ≠ 0 then
  ZdC r2.s >>= fun r23 =>
  slot 66 >>= fun b24 =>
  if r23.1.V = 6 then
   ZaC.K2 a0 a1 r2 r23 (⟨r23.1, 128⟩ : Zap)
  else
   ZaC.K2 a0 a1 r2 r23 (⟨r23.1, 32⟩ : Zap)
 else
  ZaC.K1 a0 a1 r2 r4.2.1 r4.1
theorem Zhz (a0 : (Option Addr)) (a1 : Int) : Ref Tryz.prog 144 [.pointer a0, .int .i64 a1] (ZaC a0 a1) ZaC.out := by
 refine J.Fn Tryz.func144 ?_
 unfold ZaC
 refine SJ.sr 1 <| J.a 0 Zcb fun b1 => J.z 0 <| SJ.sr 4 <| J.C 1 F140 (ZcQ _) fun r2 => J.a 0 Zdz fun b3 => J.s 0 0 rfl Zdz (Upd.w r2) <| J.z 0 <| SJ.sr 11 <| J.k 1 0 rfl Ty9 (Zbj _) <| J.C 0 F176 (ZhJ _) fun r4 => J.a 4 Zcb fun b5 => J.s 0 0 rfl Zcb (Upd.w r4.1) <| J.z 2 <| SJ.seq <| SJ.sr 2 <| J.z 2 <| J.f ?_ ?_
 ·refine SJ.sr 11 <| J.k 1 1 rfl Ty9 (Zbj _) <| J.C 0 F177 (Zkm _) fun r23 => J.a 4 Ty66 fun b24 => J.s 0 0 rfl Ty66 (Upd.w r23.1) <| J.z 2 <| SJ.sr 5 <| J.k 0 0 rfl Ty66 (At.whole _) <| J.u 0 Zcb (.f 0 (ZeU _ r23.1) (.f 1 (ZcZ _ 32) .nil)) <| J.s 1 1 rfl Zcb (Upd.w (⟨r23.1, 32⟩ : Zap)) <| J.z 1 <| SJ.sr 3 <| J.k 1 0 rfl Ty3 (Zcp _) <| J.z 1 <| J.f ?_ ?_
  ·exact SJ.rg 2 <| J.s 1 1 rfl Ty3 (ZcZ _ 128) <| J.z 0 <| SJ.forget (List.Sublist.cons _ (List.Sublist.cons_cons _ (List.Sublist.cons_cons _ (List.Sublist.cons_cons _ List.Sublist.slnil)))) <| J.q <| ZaC.K2_ok a0 a1 b1 r2 b3 b5 r23 (⟨r23.1, 128⟩ : Zap)
  exact SJ.skip <| SJ.forget (List.Sublist.cons _ (List.Sublist.cons_cons _ (List.Sublist.cons_cons _ (List.Sublist.cons_cons _ List.Sublist.slnil)))) <| J.q <| ZaC.K2_ok a0 a1 b1 r2 b3 b5 r23 (⟨r23.1, 32⟩ : Zap)
 exact SJ.skip <| J.q <| ZaC.K1_ok a0 a1 b1 r2 b3 b5 r4.2.1 r4.1

/-! ### (*weir/rules.reader).ports: function 145 -/
noncomputable def ZaT.B : Code := bod Tryz.f145
noncomputable def ZaT.cx : Fx := ⟨Tryz.prog, 145, Tryz.f145, none⟩
noncomputable def ZaT.out (r_ : ZaZ) : Value := Zbb.val r_
noncomputable def ZaT.K1 (a0 : (Option Addr)) (a1 : Int) (r2 : ZaI) (r4 : (ByteArray × ByteArray × Bool)) (j5 : ByteArray) : M ZaZ :=
 Zbc r4.1 0 65535 >>= fun r6 =>
 Zbc j5 0 65535 >>= fun r7 =>
 nilck a0 >>= fun p8 =>
 ld (cI .i64) (Addr.add p8 19) >>= fun x9 =>
 (if x9 = 0 then
   (if ¬ (r6.2 = true) then
     pure true
    else
     pure (!r7.2)) >>= fun y10 =>
   (if y10 = true then
     pure true
    else
     pure (decide (r6.1 > r7.1))) >>= fun y11 =>
   (if y11 = true then
     pure true
    else
     pure (a1 == 16)) >>= fun y12 =>
   pure y12
  else
   pure false) >>= fun y13 =>
 if y13 = true then
  ZaX a0 164 r2.at_ >>= fun r15 =>
  pure (⟨r6.1, r7.1⟩ : ZaZ)
 else
  pure (⟨r6.1, r7.1⟩ : ZaZ)
theorem ZaT.K1_ok (a0 : (Option Addr)) (a1 : Int) (b1 : Nat) (r2 : ZaI) (b3 : Nat) (r4 : (ByteArray × ByteArray × Bool)) (j5 : ByteArray) :
  SJ ZaT.cx [.code (c2 (c2 (c2 (c2 ZaT.B))))] [(0, .pointer a0), (1, .int .i64 a1), (4, .pointer (some (pt b1 0))), (5, .pointer (some (pt b3 0))), (6, .string r4.1), (7, .string j5)] [(b3, Zbm.enc r2), (b1, Zbb.enc ZeD)] (ZaT.K1 a0 a1 r2 r4 j5) (rt ZaT.out) := by
 unfold ZaT.K1
 refine SJ.sr 7 <| J.C 1 F141 (Zes _ _ _) fun r6 => J.z 5 <| SJ.sr 7 <| J.C 1 F141 (Zes _ _ _) fun r7 => J.z 5 <| SJ.seq <| SJ.sr 22 <| J.n 1 fun p8 => J.l 1 Ty29 fun x9 => J.g 2 <| OJ.join (b := (x9 == 0)) [6, 7, 8, 9, 10, 11, 12, 13, 14, 15, 16, 17, 18, 19, 20, 21] [] [0, 4, 5, 9, 11, 56] (fun y13 => [(0, .pointer a0), (4, .pointer (some (pt b1 0))), (5, .pointer (some (pt b3 0))), (9, .int .i64 r6.1), (11, .int .i64 r7.1), (56, .bool y13)]) [] [] (t := 40) beq_iff_eq (fun hp_ => ?_) (fun hp_ => ?_) (fun _ _ _ _ _ _ h_ => h_) fun y13 => ?_
 ·refine J.g 3 <| OJ.join (b := (!r6.2)) [9, 10, 11] [12, 13, 14, 15, 16, 17, 18, 19, 20, 21] [0, 1, 4, 5, 9, 11, 40, 46] (fun y10 => [(0, .pointer a0), (1, .int .i64 a1), (4, .pointer (some (pt b1 0))), (5, .pointer (some (pt b3 0))), (9, .int .i64 r6.1), (11, .int .i64 r7.1), (40, .bool true), (46, .bool y10)]) [] [] (t := 43) (ZlW Iff.rfl) (fun hp_ => ?_) (fun hp_ => ?_) (fun _ _ _ _ _ hq_ h_ => ⟨fun e_ he_ => (hq_ e_ he_).elim (fun h => h_.1 e_ h) (fun h => nomatch h), h_.2⟩) fun y10 => ?_
  ·exact J.g 3 <| OJ.nil ⟨(Cov.mem Cov.nil), rfl, _, rfl, by kernel_rfl⟩
  ·exact J.g 3 <| OJ.nil ⟨(Cov.mem Cov.nil), rfl, _, rfl, by kernel_rfl⟩
  refine J.g 1 <| OJ.join (b := y10) [13, 14, 15, 16] [17, 18, 19, 20, 21] [0, 1, 4, 5, 9, 11, 40, 51] (fun y11 => [(0, .pointer a0), (1, .int .i64 a1), (4, .pointer (some (pt b1 0))), (5, .pointer (some (pt b3 0))), (9, .int .i64 r6.1), (11, .int .i64 r7.1), (40, .bool true), (51, .bool y11)]) [] [] (t := 47) Iff.rfl (fun hp_ => ?_) (fun hp_ => ?_) (fun _ _ _ _ _ hq_ h_ => ⟨fun e_ he_ => (hq_ e_ he_).elim (fun h => h_.1 e_ h) (fun h => nomatch h), h_.2⟩) fun y11 => ?_
  ·exact J.g 4 <| OJ.nil ⟨(Cov.mem Cov.nil), rfl, _, rfl, by kernel_rfl⟩
  ·exact J.g 4 <| OJ.nil ⟨(Cov.mem Cov.nil), rfl, _, rfl, by kernel_rfl⟩
  refine J.g 1 <| OJ.join (b := y11) [18, 19, 20] [21] [0, 4, 5, 9, 11, 40, 55] (fun y12 => [(0, .pointer a0), (4, .pointer (some (pt b1 0))), (5, .pointer (some (pt b3 0))), (9, .int .i64 r6.1), (11, .int .i64 r7.1), (40, .bool true), (55, .bool y12)]) [] [] (t := 52) Iff.rfl (fun hp_ => ?_) (fun hp_ => ?_) (fun _ _ _ _ _ hq_ h_ => ⟨fun e_ he_ => (hq_ e_ he_).elim (fun h => h_.1 e_ h) (fun h => nomatch h), h_.2⟩) fun y12 => ?_
  ·exact J.g 3 <| OJ.nil ⟨(Cov.mem Cov.nil), rfl, _, rfl, by kernel_rfl⟩
  ·exact J.g 3 <| OJ.nil ⟨(Cov.mem Cov.nil), rfl, _, rfl, by kernel_rfl⟩
  exact J.g 1 <| OJ.nil ⟨(Cov.mem Cov.nil), rfl, _, rfl, by kernel_rfl⟩
 ·exact J.g 16 <| OJ.nil ⟨(Cov.mem Cov.nil), rfl, _, rfl, by kernel_rfl⟩
 refine J.z 0 <| J.f ?_ ?_
 ·exact SJ.rg 4 <| J.k 2 0 rfl Ty3 (ZbF _) <| J.C 0 F49 (Zbf _ _ _) fun r15 => J.z 0 <| SJ.sr 4 <| J.u 2 ZeJ (.f 0 (Zdw _ r6.1) (.f 1 (Zdx _ r7.1) .nil)) <| J.s 0 1 rfl ZeJ (Upd.w (⟨r6.1, r7.1⟩ : ZaZ)) <| J.z 0 <| J.rc (.c 1 rfl ZeJ .n)
 exact SJ.skip <| SJ.sr 4 <| J.u 2 ZeJ (.f 0 (Zdw _ r6.1) (.f 1 (Zdx _ r7.1) .nil)) <| J.s 0 1 rfl ZeJ (Upd.w (⟨r6.1, r7.1⟩ : ZaZ)) <| J.z 0 <| J.rc (.c 1 rfl ZeJ .n)
noncomputable def ZaT (a0 : (Option Addr)) (a1 : Int) : M ZaZ :=
 slot 147 >>= fun b1 =>
 ZbO a0 >>= fun r2 =>
 slot 129 >>= fun b3 =>
 Zc3 r2.s ZjF >>= fun r4 =>
 if ¬ (r4.2.2 = true) then
  ZaT.K1 a0 a1 r2 r4 r4.1
 else
  ZaT.K1 a0 a1 r2 r4 r4.2.1
theorem Zgw (a0 : (Option Addr)) (a1 : Int) : Ref Tryz.prog 145 [.pointer a0, .int .i64 a1] (ZaT a0 a1) ZaT.out := by
 refine J.Fn Tryz.func145 ?_
 unfold ZaT
 refine SJ.sr 1 <| J.a 0 ZeJ fun b1 => J.z 0 <| SJ.sr 4 <| J.C 1 F140 (ZcQ _) fun r2 => J.a 0 Zdz fun b3 => J.s 0 0 rfl Zdz (Upd.w r2) <| J.z 0 <| SJ.sr 10 <| J.k 1 0 rfl Ty9 (Zbj _) <| J.C 0 F178 (Zhm _ _) fun r4 => J.z 7 <| SJ.seq <| SJ.sr 2 <| J.z 2 <| J.f ?_ ?_
 ·exact SJ.rg 2 <| J.z 2 <| J.q <| ZaT.K1_ok a0 a1 b1 r2 b3 r4 r4.1
 exact SJ.skip <| J.q <| ZaT.K1_ok a0 a1 b1 r2 b3 r4 r4.2.1

/-! ### (*weir/rules.reader).side: function 95 -/
noncomputable def Zac.B : Code := bod Tryz.f95
noncomputable def Zac.cx : Fx := ⟨Tryz.prog, 95, Tryz.f95, none⟩
noncomputable def Zac.out (r_ : Zae) : Value := Zaw.val r_
noncomputable def Zac.F1 (a0 : (Option Addr)) (b1 : Nat) (b2 : Nat) : LF (Bool × Zae) Zae := ⟨[.inBlock 2, .code (c2 (c2 (c2 (c2 (c2 (c2 Zac.B))))))], c1 (c2 (c1 (c2 (c2 (c2 (c2 (c2 Zac.B))))))), fun s_ => [(0, .pointer a0), (2, .pointer (some (pt b1 0))), (3, .pointer (some (pt b2 0))), (5, .bool s_.1)], fun s_ => [(b2, Zaw.enc s_.2), (b1, Zaw.enc Za0)], (rt Zac.out)⟩
noncomputable def Zac.L1 (a0 : (Option Addr)) (s35 : Bool) (s36 : Zae) : M (LS (Bool × Zae) Zae) :=
 (if s35 = true then
   nilck a0 >>= fun p45 =>
   ld (cI .i64) (Addr.add p45 19) >>= fun x46 =>
   pure (x46 == 0)
  else
   pure false) >>= fun y47 =>
 if y47 = true then
  draw >>= fun _ =>
  ZaT a0 (s36.Ports.len : Int) >>= fun r48 =>
  slot 147 >>= fun b49 =>
  appl Zbb 147 16 ZeD s36.Ports [r48] >>= fun r50 =>
  Zbh a0 ZeE >>= fun r51 =>
  pure (LS.next (r51, (⟨s36.Not, s36.Nets, r50⟩ : Zae)))
 else
  pure (LS.done s36)
theorem Zac.L1_ok (a0 : (Option Addr)) (b1 : Nat) (b2 : Nat) : LJ Zac.cx (Zac.F1 a0 b1 b2) (fun s_ => Zac.L1 a0 s_.1 s_.2) := by
 rintro ⟨s35, s36⟩
 show SJ _ _ _ _ (Zac.L1 a0 s35 s36) _
 unfold Zac.L1
 refine SJ.seq <| SJ.sr 8 <| J.j 2 5 .bool ?_ ?_ fun y47 => ?_
 ·exact J.n 1 fun p45 => J.l 1 Ty29 fun x46 => J.e 2
 ·exact J.e 6
 refine J.z 0 <| J.f ?_ ?_
 ·exact SJ.skip <| SJ.seq <| SJ.block (id := 3) <| J.R 11 ZcR <| J.k 1 0 rfl Ty24 (ZaH _) <| J.k 2 0 rfl Ty24 (ZaH _) <| J.g 1 <| OJ.call (d := 73) (g := 145) (ats := #[124, 3]) (args := [.tmp 69, .tmp 72]) (owed := [⟨1, 24, (pt b2 2), cL.val s36.Ports⟩]) F145 (Zgw a0 (s36.Ports.len : Int)) fun r48 => OW.known (j := 0) (q := s36.Ports) Ty24 rfl (ZaH s36) <| OW.nil <| OJ.rowSlot (d := 74) (t := 24) (parts := [(0, .tmp 73)]) (ps := [(0, Zbb.val r48)]) (cd := Zbb) (⟨[r48], rfl⟩ : Vec ZaZ 1) (owed := [⟨1, 24, (pt b2 2), cL.val s36.Ports⟩]) ZeJ (Zb4.cons (cd := Zbb) (q := r48) (o := 0) rfl (Upd.arr (i := 0) (by decide) (by decide)) Zb4.nil) fun b49 => OW.known (j := 1) (q := s36.Ports) Ty24 rfl (ZaH s36) <| OW.nil <| J.p 0 0 rfl ZeJ fun r50 => J.s 1 1 rfl Ty24 (Zdv _ r50) <| J.z 0 <| SJ.inBlock <| SJ.rg 3 <| J.C 1 F90 (Zb8 _ _) fun r51 => J.z 1 <| SJ.forget (List.Sublist.cons _ (List.Sublist.cons_cons _ (List.Sublist.cons_cons _ List.Sublist.slnil))) <| J.o rfl
 exact SJ.exit (id := 2) (by rfl) <| SJ.sr 2 <| J.k 0 0 rfl Ty26 (At.whole _) <| J.s 0 1 rfl Ty26 (Upd.w s36) <| J.z 0 <| J.rc (.c 1 rfl Ty26 .n)
noncomputable def Zac.K1 (a0 : (Option Addr)) (j23 : Zae) : M Zae :=
 Zb9 (fun s_ : (Bool × Zae) => Zac.L1 a0 s_.1 s_.2) (true, j23)
theorem Zac.K1_ok (a0 : (Option Addr)) (b1 : Nat) (b2 : Nat) (j23 : Zae) :
  SJ Zac.cx [.code (c2 (c2 (c2 (c2 (c2 Zac.B)))))] [(0, .pointer a0), (2, .pointer (some (pt b1 0))), (3, .pointer (some (pt b2 0)))] [(b2, Zaw.enc j23), (b1, Zaw.enc Za0)] (Zac.K1 a0 j23) (rt Zac.out) := by
 unfold Zac.K1
 exact SJ.seq <| SJ.sr 1 <| J.z 1 <| SJ.block (id := 2) <| J.L (Zac.L1_ok a0 b1 b2)
noncomputable def Zac.K2 (a0 : (Option Addr)) (j23 : Zae) : M Zae :=
 Zbh a0 Ztr >>= fun r24 =>
 if ¬ (r24 = true) then
  pure j23
 else
  nilck a0 >>= fun p25 =>
  ld (cI .i64) (Addr.add (Addr.add p25 3) 3) >>= fun x26 =>
  ZdB x26 >>= fun r27 =>
  if ¬ (r27 = true) then
   draw >>= fun _ =>
   nilck a0 >>= fun p53 =>
   ld cL p53 >>= fun x54 =>
   nilck a0 >>= fun p55 =>
   ld (cI .i64) (Addr.add p55 1) >>= fun x56 =>
   idx x54.a x54.len (IntKind.wrap .i64 (x56 - 1)) 2 >>= fun p57 =>
   ld (cI .i64) (Addr.add p57 1) >>= fun x58 =>
   ZaX a0 165 x58 >>= fun r59 =>
   Zac.K1 a0 j23
  else
   Zac.K1 a0 j23
theorem Zac.K2_ok (a0 : (Option Addr)) (b1 : Nat) (b2 : Nat) (j23 : Zae) :
  SJ Zac.cx [.code (c2 (c2 (c2 Zac.B)))] [(0, .pointer a0), (2, .pointer (some (pt b1 0))), (3, .pointer (some (pt b2 0)))] [(b2, Zaw.enc j23), (b1, Zaw.enc Za0)] (Zac.K2 a0 j23) (rt Zac.out) := by
 unfold Zac.K2
 refine SJ.seq <| SJ.sr 3 <| J.C 1 F90 (Zb8 _ _) fun r24 => J.z 1 <| J.f ?_ ?_
 ·exact SJ.sr 2 <| J.k 0 0 rfl Ty26 (At.whole _) <| J.s 0 1 rfl Ty26 (Upd.w j23) <| J.z 0 <| J.rc (.c 1 rfl Ty26 .n)
 refine SJ.skip <| SJ.seq <| SJ.sr 7 <| J.n 1 fun p25 => J.l 2 Ty3 fun x26 => J.C 0 F111 (Zgy _) fun r27 => J.z 1 <| J.f ?_ ?_
 ·exact J.R 14 ZcR <| J.n 2 fun p53 => J.l 1 ZnU fun x54 => J.n 1 fun p55 => J.l 1 Ty3 fun x56 => J.i 1 fun p57 => J.l 1 Ty3 fun x58 => J.C 0 F49 (Zbf _ _ _) fun r59 => J.z 0 <| J.q <| Zac.K1_ok a0 b1 b2 j23
 exact SJ.skip <| J.q <| Zac.K1_ok a0 b1 b2 j23
noncomputable def Zac.K3 (a0 : (Option Addr)) (s64 : Zae) : M Zae :=
 Zac.K2 a0 s64
theorem Zac.K3_ok (a0 : (Option Addr)) (b1 : Nat) (b2 : Nat) (s64 : Zae) :
  SJ Zac.cx [.code (c2 (c2 (c2 Zac.B)))] [(0, .pointer a0), (2, .pointer (some (pt b1 0))), (3, .pointer (some (pt b2 0)))] [(b2, Zaw.enc s64), (b1, Zaw.enc Za0)] (Zac.K3 a0 s64) (rt Zac.out) := by
 unfold Zac.K3
 exact J.q <| Zac.K2_ok a0 b1 b2 s64
noncomputable def Zac.F2 (a0 : (Option Addr)) (b1 : Nat) (b2 : Nat) : LF (Bool × Zae) Zae := ⟨[.inBlock 0, .code (c2 (c2 (c2 Zac.B)))], c1 (c2 (c2 (c1 (c2 (c1 (c2 (c2 Zac.B))))))), fun s_ => [(0, .pointer a0), (2, .pointer (some (pt b1 0))), (3, .pointer (some (pt b2 0))), (4, .bool s_.1)], fun s_ => [(b2, Zaw.enc s_.2), (b1, Zaw.enc Za0)], (rt Zac.out)⟩
noncomputable def Zac.L2 (a0 : (Option Addr)) (s63 : Bool) (s64 : Zae) : M (LS (Bool × Zae) Zae) :=
 (if s63 = true then
   nilck a0 >>= fun p73 =>
   ld (cI .i64) (Addr.add p73 19) >>= fun x74 =>
   pure (x74 == 0)
  else
   pure false) >>= fun y75 =>
 if y75 = true then
  draw >>= fun _ =>
  ZaC a0 (s64.Nets.len : Int) >>= fun r76 =>
  slot 117 >>= fun b77 =>
  appl ZaF 117 32 Zbl s64.Nets [r76] >>= fun r78 =>
  Zbh a0 ZeE >>= fun r79 =>
  pure (LS.next (r79, (⟨s64.Not, r78, s64.Ports⟩ : Zae)))
 else
  (Zac.K3 a0 s64) >>= fun b => pure (LS.done b)
theorem Zac.L2_ok (a0 : (Option Addr)) (b1 : Nat) (b2 : Nat) : LJ Zac.cx (Zac.F2 a0 b1 b2) (fun s_ => Zac.L2 a0 s_.1 s_.2) := by
 rintro ⟨s63, s64⟩
 show SJ _ _ _ _ (Zac.L2 a0 s63 s64) _
 unfold Zac.L2
 refine SJ.seq <| SJ.sr 8 <| J.j 2 5 .bool ?_ ?_ fun y75 => ?_
 ·exact J.n 1 fun p73 => J.l 1 Ty29 fun x74 => J.e 2
 ·exact J.e 6
 refine J.z 0 <| J.f ?_ ?_
 ·exact SJ.skip <| SJ.seq <| SJ.block (id := 1) <| J.R 11 ZcR <| J.k 1 0 rfl Ty23 (ZaY _) <| J.k 2 0 rfl Ty23 (ZaY _) <| J.g 1 <| OJ.call (d := 28) (g := 144) (ats := #[124, 3]) (args := [.tmp 24, .tmp 27]) (owed := [⟨1, 23, (pt b2 1), cL.val s64.Nets⟩]) F144 (Zhz a0 (s64.Nets.len : Int)) fun r76 => OW.known (j := 0) (q := s64.Nets) Ty23 rfl (ZaY s64) <| OW.nil <| OJ.rowSlot (d := 29) (t := 23) (parts := [(0, .tmp 28)]) (ps := [(0, ZaF.val r76)]) (cd := ZaF) (⟨[r76], rfl⟩ : Vec Zap 1) (owed := [⟨1, 23, (pt b2 1), cL.val s64.Nets⟩]) Zcb (Zb4.cons (cd := ZaF) (q := r76) (o := 0) rfl (Upd.arr (i := 0) (by decide) (by decide)) Zb4.nil) fun b77 => OW.known (j := 1) (q := s64.Nets) Ty23 rfl (ZaY s64) <| OW.nil <| J.p 0 0 rfl Zcb fun r78 => J.s 1 1 rfl Ty23 (ZdM _ r78) <| J.z 0 <| SJ.inBlock <| SJ.rg 3 <| J.C 1 F90 (Zb8 _ _) fun r79 => J.z 1 <| SJ.forget (List.Sublist.cons _ (List.Sublist.cons_cons _ (List.Sublist.cons_cons _ List.Sublist.slnil))) <| J.o rfl
 exact SJ.exit (id := 0) (by rfl) <| J.q <| SJ.done <| Zac.K3_ok a0 b1 b2 s64
noncomputable def Zac (a0 : (Option Addr)) : M Zae :=
 slot 26 >>= fun b1 =>
 slot 26 >>= fun b2 =>
 Zbh a0 Zlt >>= fun r3 =>
 if ¬ (r3 = true) then
  Zbh a0 Zts >>= fun r62 =>
  Zb9 (fun s_ : (Bool × Zae) => Zac.L2 a0 s_.1 s_.2) (true, (⟨r62, Za0.Nets, Za0.Ports⟩ : Zae))
 else
  Zac.K2 a0 Za0
theorem ZeY (a0 : (Option Addr)) : Ref Tryz.prog 95 [.pointer a0] (Zac a0) Zac.out := by
 refine J.Fn Tryz.func95 ?_
 unfold Zac
 refine SJ.sr 1 <| J.a 0 Ty26 fun b1 => J.z 0 <| SJ.sr 1 <| J.a 0 Ty26 fun b2 => J.z 0 <| SJ.seq <| SJ.sr 3 <| J.C 1 F90 (Zb8 _ _) fun r3 => J.z 1 <| J.f ?_ ?_
 ·exact SJ.sr 4 <| J.C 1 F90 (Zb8 _ _) fun r62 => J.s 1 0 rfl Ty4 (ZgV _ r62) <| J.z 0 <| SJ.sr 1 <| J.z 1 <| SJ.block (id := 0) <| J.L (Zac.L2_ok a0 b1 b2)
 exact SJ.skip <| J.q <| Zac.K2_ok a0 b1 b2 Za0

/-! ### (*weir/rules.reader).flags: function 96 -/
noncomputable def Zaq.B : Code := bod Tryz.f96
noncomputable def Zaq.cx : Fx := ⟨Tryz.prog, 96, Tryz.f96, none⟩
noncomputable def Zaq.out (r_ : Unit) : Value := .tuple #[]
noncomputable def Zaq.F1 (a0 : (Option Addr)) : LF Bool Unit := ⟨[.inBlock 0], c1 (c2 Zaq.B), fun s_ => [(0, .pointer a0), (2, .bool s_)], fun s_ => [], (rt Zaq.out)⟩
noncomputable def Zaq.K1 (a0 : (Option Addr)) : M (LS Bool Unit) :=
 Zbh a0 ZeE >>= fun r99 =>
 pure (LS.next r99)
theorem Zaq.K1_ok (a0 : (Option Addr)) :
  SJ Zaq.cx [.inBlock 2, .inBlock 1, .code (c2 (c2 (c1 (c1 (c2 Zaq.B))))), .inLoop (c1 (c1 (c2 Zaq.B))), .inBlock 0] [(0, .pointer a0)] [] (Zaq.K1 a0) (Zaq.F1 a0).f := by
 unfold Zaq.K1
 exact SJ.inBlock <| SJ.inBlock <| SJ.rg 3 <| J.C 1 F90 (Zb8 _ _) fun r99 => J.z 1 <| J.o rfl
noncomputable def Zaq.L1 (a0 : (Option Addr)) (s1 : Bool) : M (LS Bool Unit) :=
 (if s1 = true then
   nilck a0 >>= fun p2 =>
   ld (cI .i64) (Addr.add p2 19) >>= fun x3 =>
   pure (x3 == 0)
  else
   pure false) >>= fun y4 =>
 if y4 = true then
  ZbO a0 >>= fun r5 =>
  slot 129 >>= fun b6 =>
  Zb0 r5.s Zlp >>= fun r7 =>
  ld cL ⟨2, 0, none⟩ >>= fun x8 =>
  Zat x8 r7.1 >>= fun r9 =>
  nilck a0 >>= fun p10 =>
  ld (cI .i64) (Addr.add p10 19) >>= fun x11 =>
  if x11 ≠ 0 then
   Zaq.K1 a0
  else
   if r9 < 0 then
    ZaX a0 160 r5.at_ >>= fun r143 =>
    Zaq.K1 a0
   else
    draw >>= fun _ =>
    nilck a0 >>= fun p144 =>
    ld (cI .i64) (Addr.add (Addr.add p144 3) 12) >>= fun x145 =>
    nilck a0 >>= fun p146 =>
    ld (cI .i64) (Addr.add (Addr.add p146 3) 13) >>= fun x147 =>
    chk (0 ≤ (IntKind.wrap .u64 r9)) >>= fun _ =>
    if (band .i64 (Int.fdiv (bor .i64 x145 x147) (2 ^ min (Int.toNat (IntKind.wrap .u64 r9)) 64)) 1) = 1 then
     ZaX a0 165 r5.at_ >>= fun r166 =>
     Zaq.K1 a0
    else
     if r7.2 = true then
      nilck a0 >>= fun p175 =>
      ld (cI .i64) (Addr.add (Addr.add p175 3) 13) >>= fun x176 =>
      chk (0 ≤ (IntKind.wrap .u64 r9)) >>= fun _ =>
      nilck a0 >>= fun p177 =>
      st (cI .i64) (Addr.add (Addr.add p177 3) 13) (bor .i64 x176 (IntKind.wrap .i64 (1 * 2 ^ min (Int.toNat (IntKind.wrap .u64 r9)) 64))) >>= fun _ =>
      Zaq.K1 a0
     else
      nilck a0 >>= fun p179 =>
      ld (cI .i64) (Addr.add (Addr.add p179 3) 12) >>= fun x180 =>
      chk (0 ≤ (IntKind.wrap .u64 r9)) >>= fun _ =>
      nilck a0 >>= fun p181 =>
      st (cI .i64) (Addr.add (Addr.add p181 3) 12) (bor .i64 x180 (IntKind.wrap .i64 (1 * 2 ^ min (Int.toNat (IntKind.wrap .u64 r9)) 64))) >>= fun _ =>
      Zaq.K1 a0
 else
  pure (LS.done ())
theorem Zaq.L1_ok (a0 : (Option Addr)) : LJ Zaq.cx (Zaq.F1 a0) (fun s_ => Zaq.L1 a0 s_) := by
 rintro s1
 show SJ _ _ _ _ (Zaq.L1 a0 s1) _
 unfold Zaq.L1
 refine SJ.seq <| SJ.sr 8 <| J.j 2 5 .bool ?_ ?_ fun y4 => ?_
 ·exact J.n 1 fun p2 => J.l 1 Ty29 fun x3 => J.e 2
 ·exact J.e 6
 refine J.z 0 <| J.f ?_ ?_
 ·refine SJ.skip <| SJ.seq <| SJ.block (id := 1) <| SJ.sr 4 <| J.C 1 F140 (ZcQ _) fun r5 => J.a 0 Zdz fun b6 => J.s 0 0 rfl Zdz (Upd.w r5) <| J.z 0 <| SJ.sr 8 <| J.k 1 0 rfl Ty9 (Zbj _) <| J.C 0 F143 (ZeW _ _) fun r7 => J.z 5 <| SJ.sr 4 <| J.l 0 Ty22 fun x8 => J.C 1 F89 (ZcN _ _) fun r9 => J.z 1 <| SJ.block (id := 2) <| SJ.sr 6 <| J.n 1 fun p10 => J.l 1 Ty29 fun x11 => J.z 2 <| J.f ?_ ?_
  ·exact SJ.skip <| SJ.forget (List.Sublist.cons _ List.Sublist.slnil) <| J.q <| Zaq.K1_ok a0
  refine SJ.sr 3 <| J.z 3 <| J.f ?_ ?_
  ·exact SJ.rg 4 <| J.k 2 0 rfl Ty3 (ZbF _) <| J.C 0 F49 (Zbf _ _ _) fun r143 => J.z 0 <| SJ.forget (List.Sublist.cons _ List.Sublist.slnil) <| J.q <| Zaq.K1_ok a0
  refine SJ.seq <| J.R 17 ZcR <| J.n 1 fun p144 => J.l 2 Ty3 fun x145 => J.n 1 fun p146 => J.l 2 Ty3 fun x147 => J.g 3 <| OJ.shr (d := 67) (T := 3) (yT := 194) (y := .tmp 64) (z := .tmp 66) (k := .i64) (yk := .u64) (p := (bor .i64 x145 x147)) (q := (IntKind.wrap .u64 r9)) fun hq185 => J.z 3 <| J.f ?_ ?_
  ·exact SJ.rg 4 <| J.k 2 0 rfl Ty3 (ZbF _) <| J.C 0 F49 (Zbf _ _ _) fun r166 => J.z 0 <| SJ.forget (List.Sublist.cons _ List.Sublist.slnil) <| J.q <| Zaq.K1_ok a0
  refine SJ.sr 2 <| J.z 2 <| J.f ?_ ?_
  ·exact SJ.rg 13 <| J.n 1 fun p175 => J.l 2 Ty3 fun x176 => J.g 2 <| OJ.shl (d := 83) (T := 3) (yT := 194) (y := .const (.int .i64 1)) (z := .tmp 82) (k := .i64) (yk := .u64) (p := 1) (q := (IntKind.wrap .u64 r9)) fun hq178 => J.n 1 fun p177 => J.w 2 Ty3 <| J.z 0 <| SJ.forget (List.Sublist.cons _ List.Sublist.slnil) <| J.q <| Zaq.K1_ok a0
  exact SJ.rg 13 <| J.n 1 fun p179 => J.l 2 Ty3 fun x180 => J.g 2 <| OJ.shl (d := 35) (T := 3) (yT := 194) (y := .const (.int .i64 1)) (z := .tmp 34) (k := .i64) (yk := .u64) (p := 1) (q := (IntKind.wrap .u64 r9)) fun hq182 => J.n 1 fun p181 => J.w 2 Ty3 <| J.z 0 <| SJ.forget (List.Sublist.cons _ List.Sublist.slnil) <| J.q <| Zaq.K1_ok a0
 exact SJ.exit (id := 0) (by rfl) <| SJ.end_ rfl (Res.run (ys := []) .nil rfl)
noncomputable def Zaq (a0 : (Option Addr)) : M Unit :=
 Zb9 (fun s_ : Bool => Zaq.L1 a0 s_) true
theorem Zgx (a0 : (Option Addr)) : Ref Tryz.prog 96 [.pointer a0] (Zaq a0) Zaq.out := by
 refine J.Fn Tryz.func96 ?_
 unfold Zaq
 exact SJ.sr 1 <| J.z 1 <| SJ.block (id := 0) <| J.L (Zaq.L1_ok a0)

/-! ### (*weir/rules.reader).clause: function 50 -/
noncomputable def ZaB.B : Code := bod Tryz.f50
noncomputable def ZaB.cx : Fx := ⟨Tryz.prog, 50, Tryz.f50, none⟩
noncomputable def ZaB.out (r_ : Bool) : Value := .bool r_
noncomputable def ZaB.K1  : M Bool :=
 pure true
theorem ZaB.K1_ok  :
  SJ ZaB.cx [.inBlock 0, .code (c2 (c2 ZaB.B))] [] [] (ZaB.K1) (rt ZaB.out) := by
 unfold ZaB.K1
 exact SJ.inBlock <| SJ.sr 1 <| J.z 1 <| J.r
noncomputable def ZaB (a0 : (Option Addr)) (a1 : ByteArray) : M Bool :=
 if a1.toList = Zsu.toList then
  Zcz a0 >>= fun r238 =>
  nilck a0 >>= fun p239 =>
  st (cI .i64) (Addr.add (Addr.add p239 3) 4) (IntKind.wrap .i64 (r238 + 1)) >>= fun _ =>
  pure true
 else
  if a1.toList = Zst.toList then
   ZbI a0 1 4094 >>= fun r357 =>
   nilck a0 >>= fun p358 =>
   st (cI .i64) (Addr.add (Addr.add p358 3) 5) r357 >>= fun _ =>
   pure true
  else
   if a1.toList = Zks.toList then
    Zac a0 >>= fun r416 =>
    nilck a0 >>= fun p417 =>
    st Zaw (Addr.add (Addr.add p417 3) 6) r416 >>= fun _ =>
    ZaB.K1
   else
    if a1.toList = Zmd.toList then
     Zac a0 >>= fun r445 =>
     nilck a0 >>= fun p446 =>
     st Zaw (Addr.add (Addr.add p446 3) 9) r445 >>= fun _ =>
     ZaB.K1
    else
     if a1.toList = Znh.toList then
      Zaq a0 >>= fun r459 =>
      ZaB.K1
     else
      if a1.toList = Zng.toList then
       ZbI a0 0 255 >>= fun r465 =>
       nilck a0 >>= fun p466 =>
       st (cI .i64) (Addr.add (Addr.add p466 3) 14) (IntKind.wrap .i64 (r465 + 1)) >>= fun _ =>
       ZaB.K1
      else
       if a1.toList = Zss.toList then
        nilck a0 >>= fun p468 =>
        st cB (Addr.add (Addr.add p468 3) 15) true >>= fun _ =>
        ZaB.K1
       else
        pure false
theorem Zgn (a0 : (Option Addr)) (a1 : ByteArray) : Ref Tryz.prog 50 [.pointer a0, .string a1] (ZaB a0 a1) ZaB.out := by
 refine J.Fn Tryz.func50 ?_
 unfold ZaB
 refine SJ.sr 1 <| J.z 1 <| SJ.seq <| SJ.sr 1 <| J.z 1 <| SJ.block (id := 0) <| SJ.sr 2 <| J.z 2 <| J.f ?_ ?_
 ·exact SJ.rg 8 <| J.C 2 F94 (Zhh _) fun r238 => J.n 1 fun p239 => J.w 2 Ty3 <| J.z 0 <| SJ.inBlock <| SJ.sr 1 <| J.z 1 <| J.r
 refine SJ.sr 2 <| J.z 2 <| J.f ?_ ?_
 ·exact SJ.rg 7 <| J.C 2 F91 (Zc7 _ _ _) fun r357 => J.n 0 fun p358 => J.w 2 Ty3 <| J.z 0 <| SJ.inBlock <| SJ.sr 1 <| J.z 1 <| J.r
 refine SJ.sr 2 <| J.z 2 <| J.f ?_ ?_
 ·exact SJ.rg 7 <| J.C 2 F95 (ZeY _) fun r416 => J.n 0 fun p417 => J.w 2 Ty26 <| J.z 0 <| J.q <| ZaB.K1_ok 
 refine SJ.sr 2 <| J.z 2 <| J.f ?_ ?_
 ·exact SJ.rg 7 <| J.C 2 F95 (ZeY _) fun r445 => J.n 0 fun p446 => J.w 2 Ty26 <| J.z 0 <| J.q <| ZaB.K1_ok 
 refine SJ.sr 2 <| J.z 2 <| J.f ?_ ?_
 ·exact SJ.rg 2 <| J.C 1 F96 (Zgx _) fun r459 => J.z 0 <| J.q <| ZaB.K1_ok 
 refine SJ.sr 2 <| J.z 2 <| J.f ?_ ?_
 ·exact SJ.rg 8 <| J.C 2 F91 (Zc7 _ _ _) fun r465 => J.n 1 fun p466 => J.w 2 Ty3 <| J.z 0 <| J.q <| ZaB.K1_ok 
 refine SJ.sr 2 <| J.z 2 <| J.f ?_ ?_
 ·exact SJ.rg 5 <| J.n 1 fun p468 => J.w 2 Ty4 <| J.z 0 <| J.q <| ZaB.K1_ok 
 exact SJ.sr 1 <| J.z 1 <| J.r

/-! ### weir/rules.ParseRule: function 14 -/
noncomputable def Zao.B : Code := bod Tryz.f14
noncomputable def Zao.cx : Fx := ⟨Tryz.prog, 14, Tryz.f14, none⟩
noncomputable def Zao.out (r_ : (Zag × Int × Int)) : Value := .tuple #[Zak.val r_.1, .int .i64 r_.2.1, .int .i64 r_.2.2]
noncomputable def Zao.K1 (b3 : Nat) : M (Zag × Int × Int) :=
 ld (cI .i64) (Addr.add (pt b3 0) 19) >>= fun x28 =>
 if x28 ≠ 0 then
  draw >>= fun _ =>
  ld (cI .i64) (Addr.add (pt b3 0) 19) >>= fun x31 =>
  ld (cI .i64) (Addr.add (pt b3 0) 20) >>= fun x32 =>
  same (cI .i64) (Addr.add (pt b3 0) 20) x32 >>= fun _ =>
  same (cI .i64) (Addr.add (pt b3 0) 19) x31 >>= fun _ =>
  pure (ZaP, x31, x32)
 else
  ld Zak (Addr.add (pt b3 0) 3) >>= fun x33 =>
  pure (x33, 0, 0)
theorem Zao.K1_ok (b1 : Nat) (b3 : Nat) :
  SJ Zao.cx [.code (c2 (c2 (c2 (c2 (c2 (c2 (c2 (c2 Zao.B))))))))] [(2, .pointer (some (pt b1 0))), (7, .pointer (some (pt b3 0)))] [(b1, Zak.enc ZaP)] (Zao.K1 b3) (rt Zao.out) := by
 unfold Zao.K1
 refine SJ.seq <| SJ.sr 5 <| J.l 3 Ty29 fun x28 => J.z 1 <| J.f ?_ ?_
 ·exact SJ.seq <| J.R 12 ZcR <| J.u 0 Ty28 .nil <| J.l 3 Ty29 fun x31 => J.l 3 Ty3 fun x32 => OJ.kst (y := .tmp 2) (z := .tmp 104) (cd := Zak) (u := ZaP) (j := 0) (b := b1) (o := 0) (Zak.enc ZaP) (owed := [⟨8, 3, (Addr.add (pt b3 0) 20), (cI .i64).val x32⟩, ⟨4, 29, (Addr.add (pt b3 0) 19), (cI .i64).val x31⟩]) Ty28 rfl (Upd.whole ((Cod.len _ _).trans (Cod.len _ _).symm)) rfl <| OW.same Ty3 <| OW.same Ty29 <| OW.nil <| J.z 2 <| J.rc (.c 0 rfl Ty28 .n)
 exact SJ.skip <| SJ.sr 7 <| J.l 3 Ty28 fun x33 => J.s 0 0 rfl Ty28 (Upd.w x33) <| J.z 2 <| J.rc (.c 0 rfl Ty28 .n)
noncomputable def Zao.F1 (b1 : Nat) (r2 : (Sl × Int)) (b3 : Nat) (b5 : Nat) : LF Unit (Zag × Int × Int) := ⟨[.inBlock 0, .code (c2 (c2 (c2 (c2 (c2 (c2 (c2 (c2 Zao.B))))))))], c1 (c1 (c2 (c2 (c2 (c2 (c2 (c2 (c2 Zao.B)))))))), fun s_ => [(2, .pointer (some (pt b1 0))), (5, Sl.v r2.1), (7, .pointer (some (pt b3 0))), (8, .map (some b5))], fun s_ => [(b1, Zak.enc ZaP)], (rt Zao.out)⟩
noncomputable def Zao.K2 (b3 : Nat) (b5 : Nat) (r38 : ZaI) : M (LS Unit (Zag × Int × Int)) :=
 draw >>= fun _ =>
 ld (cI .i64) (Addr.add (pt b3 0) 1) >>= fun x52 =>
 mset cS (cI .i64) (some b5) r38.s x52 >>= fun _ =>
 pure (LS.next ())
theorem Zao.K2_ok (b1 : Nat) (r2 : (Sl × Int)) (b3 : Nat) (b5 : Nat) (r38 : ZaI) (b39 : Nat) :
  SJ Zao.cx [.code (c2 (c2 (c2 (c1 (c2 (c1 (c1 (c1 (c2 (c2 (c2 (c2 (c2 (c2 (c2 Zao.B))))))))))))))), .inBlock 1, .inLoop (c1 (c1 (c1 (c2 (c2 (c2 (c2 (c2 (c2 (c2 Zao.B)))))))))), .inBlock 0, .code (c2 (c2 (c2 (c2 (c2 (c2 (c2 (c2 Zao.B))))))))] [(2, .pointer (some (pt b1 0))), (5, Sl.v r2.1), (7, .pointer (some (pt b3 0))), (8, .map (some b5)), (9, .pointer (some (pt b39 0)))] [(b39, Zbm.enc r38), (b1, Zak.enc ZaP)] (Zao.K2 b3 b5 r38) (Zao.F1 b1 r2 b3 b5).f := by
 unfold Zao.K2
 exact J.R 8 ZcR <| J.k 2 0 rfl Ty9 (Zbj _) <| J.l 3 Ty3 fun x52 => OJ.mset (x := .tmp 92) (y := .tmp 94) (q := .tmp 98) (owed := []) Zuc <| OW.nil <| J.z 0 <| SJ.inBlock <| SJ.forget (List.Sublist.cons _ (List.Sublist.cons_cons _ List.Sublist.slnil)) <| J.o rfl
noncomputable def Zao.L1 (r2 : (Sl × Int)) (b3 : Nat) (b5 : Nat) : M (LS Unit (Zag × Int × Int)) :=
 ld (cI .i64) (Addr.add (pt b3 0) 19) >>= fun x35 =>
 (if x35 = 0 then
   ld (cI .i64) (Addr.add (pt b3 0) 1) >>= fun x36 =>
   pure (decide (x36 < (r2.1.len : Int)))
  else
   pure false) >>= fun y37 =>
 if y37 = true then
  ZaN (some (pt b3 0)) >>= fun r38 =>
  slot 129 >>= fun b39 =>
  mget cS (cI .i64) 0 (some b5) r38.s >>= fun r40 =>
  (if r40.1 > 0 then
    pure true
   else
    (if r38.s.toList = Znh.toList then
      ld (cI .i64) (Addr.add (Addr.add (pt b3 0) 3) 3) >>= fun x41 =>
      pure (x41 != 6)
     else
      pure false) >>= fun y42 =>
    pure y42) >>= fun y43 =>
  (if y43 = true then
    pure true
   else
    (if r38.s.toList = Zng.toList then
      ld (cI .i64) (Addr.add (Addr.add (pt b3 0) 3) 3) >>= fun x44 =>
      ZdF x44 >>= fun r45 =>
      pure (!r45)
     else
      pure false) >>= fun y46 =>
    pure y46) >>= fun y47 =>
  if y47 = true then
   ZaX (some (pt b3 0)) 165 r38.at_ >>= fun r49 =>
   (Zao.K1 b3) >>= fun b => pure (LS.done b)
  else
   ZaB (some (pt b3 0)) r38.s >>= fun r50 =>
   if ¬ (r50 = true) then
    ZaX (some (pt b3 0)) 160 r38.at_ >>= fun r53 =>
    Zao.K2 b3 b5 r38
   else
    Zao.K2 b3 b5 r38
 else
  (Zao.K1 b3) >>= fun b => pure (LS.done b)
theorem Zao.L1_ok (b1 : Nat) (r2 : (Sl × Int)) (b3 : Nat) (b5 : Nat) : LJ Zao.cx (Zao.F1 b1 r2 b3 b5) (fun s_ => Zao.L1 r2 b3 b5) := by
 rintro _
 show SJ _ _ _ _ (Zao.L1 r2 b3 b5) _
 unfold Zao.L1
 refine SJ.seq <| SJ.sr 14 <| J.l 3 Ty29 fun x35 => J.j 2 7 .bool ?_ ?_ fun y37 => ?_
 ·exact J.l 3 Ty3 fun x36 => J.e 4
 ·exact J.e 8
 refine J.z 0 <| J.f ?_ ?_
 ·refine SJ.skip <| SJ.block (id := 1) <| SJ.sr 4 <| J.C 1 F47 (ZcP _) fun r38 => J.a 0 Zdz fun b39 => J.s 0 0 rfl Zdz (Upd.w r38) <| J.z 0 <| SJ.seq <| SJ.sr 32 <| J.k 2 0 rfl Ty9 (Zbj _) <| OJ.get0 (d := 50) (x := .tmp 47) (y := .tmp 49) (owed := []) Zuc fun r40 => OW.nil <| J.g 2 <| OJ.join (b := decide (r40.1 > 0)) [6, 7, 8, 9, 10, 11, 12, 13, 14, 15, 16, 17] [18, 19, 20, 21, 22, 23, 24, 25, 26, 27, 28, 29, 30, 31] [2, 5, 7, 8, 9, 64] (fun y43 => [(2, .pointer (some (pt b1 0))), (5, Sl.v r2.1), (7, .pointer (some (pt b3 0))), (8, .map (some b5)), (9, .pointer (some (pt b39 0))), (64, .bool y43)]) [] [] (t := 52) decide_eq_true_iff (fun hp_ => ?_) (fun hp_ => ?_) (fun _ _ _ _ _ _ h_ => h_) fun y43 => ?_
  ·exact J.g 12 <| OJ.nil ⟨(Cov.mem Cov.nil), rfl, _, rfl, by kernel_rfl⟩
  ·refine J.k 1 0 rfl Ty9 (Zbj _) <| J.g 2 <| OJ.join (b := (r38.s.toList == Znh.toList)) [10, 11, 12, 13, 14, 15, 16] [17] [2, 5, 7, 8, 9, 52, 63] (fun y42 => [(2, .pointer (some (pt b1 0))), (5, Sl.v r2.1), (7, .pointer (some (pt b3 0))), (8, .map (some b5)), (9, .pointer (some (pt b39 0))), (52, .bool false), (63, .bool y42)]) [] [] (t := 56) beq_iff_eq (fun hp_ => ?_) (fun hp_ => ?_) (fun _ _ _ _ _ hq_ h_ => ⟨fun e_ he_ => (hq_ e_ he_).elim (fun h => h_.1 e_ h) (fun h => nomatch h), h_.2⟩) fun y42 => ?_
   ·exact J.l 4 Ty3 fun x41 => J.g 2 <| OJ.nil ⟨(Cov.mem Cov.nil), rfl, _, rfl, by kernel_rfl⟩
   ·exact J.g 7 <| OJ.nil ⟨(Cov.mem Cov.nil), rfl, _, rfl, by kernel_rfl⟩
   exact J.g 1 <| OJ.nil ⟨(Cov.mem Cov.nil), rfl, _, rfl, by kernel_rfl⟩
  refine J.g 1 <| OJ.join (b := y43) [19, 20, 21, 22, 23, 24, 25, 26, 27, 28, 29, 30, 31] [] [2, 5, 7, 8, 9, 78] (fun y47 => [(2, .pointer (some (pt b1 0))), (5, Sl.v r2.1), (7, .pointer (some (pt b3 0))), (8, .map (some b5)), (9, .pointer (some (pt b39 0))), (78, .bool y47)]) [] [] (t := 65) Iff.rfl (fun hp_ => ?_) (fun hp_ => ?_) (fun _ _ _ _ _ _ h_ => h_) fun y47 => ?_
  ·exact J.g 13 <| OJ.nil ⟨(Cov.mem Cov.nil), rfl, _, rfl, by kernel_rfl⟩
  ·refine J.k 1 0 rfl Ty9 (Zbj _) <| J.g 2 <| OJ.join (b := (r38.s.toList == Zng.toList)) [23, 24, 25, 26, 27, 28, 29, 30] [31] [2, 5, 7, 8, 9, 65, 77] (fun y46 => [(2, .pointer (some (pt b1 0))), (5, Sl.v r2.1), (7, .pointer (some (pt b3 0))), (8, .map (some b5)), (9, .pointer (some (pt b39 0))), (65, .bool false), (77, .bool y46)]) [] [] (t := 69) beq_iff_eq (fun hp_ => ?_) (fun hp_ => ?_) (fun _ _ _ _ _ hq_ h_ => ⟨fun e_ he_ => (hq_ e_ he_).elim (fun h => h_.1 e_ h) (fun h => nomatch h), h_.2⟩) fun y46 => ?_
   ·exact J.l 4 Ty3 fun x44 => J.C 0 F48 (Zhn _) fun r45 => J.g 2 <| OJ.nil ⟨(Cov.mem Cov.nil), rfl, _, rfl, by kernel_rfl⟩
   ·exact J.g 8 <| OJ.nil ⟨(Cov.mem Cov.nil), rfl, _, rfl, by kernel_rfl⟩
   exact J.g 1 <| OJ.nil ⟨(Cov.mem Cov.nil), rfl, _, rfl, by kernel_rfl⟩
  refine J.z 0 <| J.f ?_ ?_
  ·exact SJ.sr 4 <| J.k 2 0 rfl Ty3 (ZbF _) <| J.C 0 F49 (Zbf _ _ _) fun r49 => J.z 0 <| SJ.exit (id := 0) (by rfl) <| SJ.forget (List.Sublist.cons _ (List.Sublist.cons_cons _ List.Sublist.slnil)) <| J.q <| SJ.done <| Zao.K1_ok b1 b3
  refine SJ.skip <| SJ.seq <| SJ.sr 5 <| J.k 2 0 rfl Ty9 (Zbj _) <| J.C 0 F50 (Zgn _ _) fun r50 => J.z 1 <| J.f ?_ ?_
  ·exact SJ.rg 4 <| J.k 2 0 rfl Ty3 (ZbF _) <| J.C 0 F49 (Zbf _ _ _) fun r53 => J.z 0 <| J.q <| Zao.K2_ok b1 r2 b3 b5 r38 b39
  exact SJ.skip <| J.q <| Zao.K2_ok b1 r2 b3 b5 r38 b39
 exact SJ.exit (id := 0) (by rfl) <| J.q <| SJ.done <| Zao.K1_ok b1 b3
noncomputable def Zao (a0 : ByteArray) : M (Zag × Int × Int) :=
 slot 28 >>= fun b1 =>
 if (a0.size : Int) > 1024 then
  pure (ZaP, 2, 1024)
 else
  ZaO a0 >>= fun r2 =>
  if r2.2 ≥ 0 then
   pure (ZaP, 160, r2.2)
  else
   newv 126 Zbg (⟨r2.1, ZdO.i, (a0.size : Int), ZdO.rule, ZdO.err, ZdO.at_⟩ : Zbi) >>= fun b3 =>
   Zay (some (pt b3 0)) >>= fun r4 =>
   mkMap >>= fun b5 =>
   Zb9 (fun s_ : Unit => Zao.L1 r2 b3 b5) ()
theorem ZhY (a0 : ByteArray) : Ref Tryz.prog 14 [.string a0] (Zao a0) Zao.out := by
 refine J.Fn Tryz.func14 ?_
 unfold Zao
 refine SJ.sr 3 <| J.a 0 Ty28 fun b1 => J.z 2 <| SJ.seq <| SJ.sr 3 <| J.z 3 <| J.f ?_ ?_
 ·exact SJ.sr 4 <| J.u 0 Ty28 .nil <| J.s 0 0 rfl Ty28 (Upd.w ZaP) <| J.z 2 <| J.rc (.c 0 rfl Ty28 .n)
 refine SJ.skip <| SJ.sr 7 <| J.C 1 F45 (Zkv _) fun r2 => J.z 5 <| SJ.seq <| SJ.sr 2 <| J.z 2 <| J.f ?_ ?_
 ·exact SJ.sr 5 <| J.u 0 Ty28 .nil <| J.s 1 0 rfl Ty28 (Upd.w ZaP) <| J.z 2 <| J.rc (.c 0 rfl Ty28 .n)
 exact SJ.skip <| SJ.sr 6 <| J.u 3 Zuz (.f 0 (ZiN _ r2.1) (.f 2 (Zhk _ (a0.size : Int)) .nil)) <| J.B 0 fun b3 => J.z 1 <| SJ.sr 2 <| J.C 1 F46 (Zhi _) fun r4 => J.z 0 <| SJ.sr 2 <| OJ.mkMap (d := 30) (t := 127) (owed := []) fun b5 => OW.nil <| J.z 1 <| SJ.seq <| SJ.block (id := 0) <| J.L (Zao.L1_ok b1 r2 b3 b5)

/-! ### weir/weirlaw16.started: function 19 -/
noncomputable def Zcv.out (r_ : Bool) : Value := .bool r_
noncomputable def Zcv  : M Bool :=
 ZcC >>= fun r1 =>
 slot 28 >>= fun b2 =>
 Zao r1.1 >>= fun r3 =>
 slot 28 >>= fun b4 =>
 Zco r1.2 >>= fun r5 =>
 ZcB r3.2.1 >>= fun r6 =>
 (if r6 = 0 then
   pure (r3.2.2 == 0)
  else
   pure false) >>= fun y7 =>
 (if y7 = true then
   ZcU r3.1 r1.2 >>= fun r8 =>
   pure r8
  else
   pure false) >>= fun y9 =>
 (if y9 = true then
   ZcB r5.2 >>= fun r10 =>
   pure (r10 == 0)
  else
   pure false) >>= fun y11 =>
 (if y11 = true then
   pure (r5.1.toList == r1.1.toList)
  else
   pure false) >>= fun y12 =>
 (if y12 = true then
   Za2 r1.2 >>= fun r13 =>
   ZcB r13 >>= fun r14 =>
   pure (r14 == 0)
  else
   pure false) >>= fun y15 =>
 pure y15
theorem Zhc  : Ref Tryz.prog 19 [] (Zcv) Zcv.out := by
 refine J.Fn Tryz.func19 ?_
 unfold Zcv
 refine SJ.sr 1 <| J.z 1 <| SJ.sr 7 <| J.C 0 F59 Zir fun r1 => J.a 3 Ty28 fun b2 => J.s 1 0 rfl Ty28 (Upd.w r1.2) <| J.z 0 <| SJ.sr 10 <| J.C 1 F14 (ZhY _) fun r3 => J.a 4 Ty28 fun b4 => J.s 0 0 rfl Ty28 (Upd.w r3.1) <| J.z 2 <| SJ.sr 7 <| J.k 0 1 rfl Ty28 (At.whole _) <| J.C 0 F22 (Zfo _) fun r5 => J.z 5 <| SJ.sr 29 <| J.C 1 F16 (ZdK _) fun r6 => J.j 2 2 .bool ?_ ?_ fun y7 => ?_
 ·exact J.e 3
 ·exact J.e 3
 refine J.j 1 3 .bool ?_ ?_ fun y9 => ?_
 ·exact J.k 0 0 rfl Ty28 (At.whole _) <| J.k 0 1 rfl Ty28 (At.whole _) <| J.C 0 F17 (ZfL _ _) fun r8 => J.e 1
 ·exact J.e 4
 refine J.j 1 3 .bool ?_ ?_ fun y11 => ?_
 ·exact J.C 1 F16 (ZdK _) fun r10 => J.e 2
 ·exact J.e 4
 refine J.j 1 3 .bool ?_ ?_ fun y12 => ?_
 ·exact J.e 4
 ·exact J.e 4
 refine J.j 1 4 .bool ?_ ?_ fun y15 => ?_
 ·exact J.k 0 1 rfl Ty28 (At.whole _) <| J.C 0 F21 (ZfA _) fun r13 => J.C 0 F16 (ZdK _) fun r14 => J.e 2
 ·exact J.e 5
 exact J.z 1 <| J.r

/-! ### weir/weirlaw16.RulesPrints: function 4 -/
noncomputable def ZaL.B : Code := bod Tryz.f4
noncomputable def ZaL.cx : Fx := ⟨Tryz.prog, 4, Tryz.f4, none⟩
noncomputable def ZaL.out (r_ : Bool) : Value := .bool r_
noncomputable def ZaL.F1 (a0 : Sl) : LF Int Bool := ⟨[.inBlock 0, .code (c2 (c2 ZaL.B))], c1 (c2 (c1 (c2 ZaL.B))), fun s_ => [(0, Sl.v a0), (3, .int .i64 s_)], fun s_ => [], (rt ZaL.out)⟩
noncomputable def ZaL.L1 (a0 : Sl) (s1 : Int) : M (LS Int Bool) :=
 if s1 < (a0.len : Int) then
  idx a0.a a0.len s1 16 >>= fun p25 =>
  ld Zak p25 >>= fun x26 =>
  Zdn x26 >>= fun r27 =>
  slot 28 >>= fun b28 =>
  Za2 r27 >>= fun r29 =>
  Zco r27 >>= fun r30 =>
  idx a0.a a0.len s1 16 >>= fun p31 =>
  ld Zak p31 >>= fun x32 =>
  Zal x32 >>= fun r33 =>
  draw >>= fun _ =>
  idx a0.a a0.len s1 16 >>= fun p34 =>
  ld Zak p34 >>= fun x35 =>
  ZcB r29 >>= fun r36 =>
  same Zak p34 x35 >>= fun _ =>
  ZcG x35 >>= fun r37 =>
  (if r36 ≠ r37 then
    pure true
   else
    ZcB r30.2 >>= fun r38 =>
    pure (r38 != r33.2)) >>= fun y39 =>
  (if y39 = true then
    pure true
   else
    pure (!(r30.1.toList == r33.1.toList))) >>= fun y40 =>
  (if y40 = true then
    pure true
   else
    idx a0.a a0.len s1 16 >>= fun p41 =>
    ld Zak p41 >>= fun x42 =>
    Zc1 r27 x42 >>= fun r43 =>
    pure (!r43)) >>= fun y44 =>
  if y44 = true then
   pure (LS.done false)
  else
   pure (LS.next (IntKind.wrap .i64 (s1 + 1)))
 else
  Zcv >>= fun r46 =>
  pure (LS.done r46)
theorem ZaL.L1_ok (a0 : Sl) : LJ ZaL.cx (ZaL.F1 a0) (fun s_ => ZaL.L1 a0 s_) := by
 rintro s1
 show SJ _ _ _ _ (ZaL.L1 a0 s1) _
 unfold ZaL.L1
 refine SJ.seq <| SJ.sr 4 <| J.z 4 <| J.f ?_ ?_
 ·refine SJ.skip <| SJ.seq <| SJ.block (id := 1) <| SJ.sr 7 <| J.i 2 fun p25 => J.l 0 Ty28 fun x26 => J.C 0 F20 (Zis _) fun r27 => J.a 0 Ty28 fun b28 => J.s 0 0 rfl Ty28 (Upd.w r27) <| J.z 0 <| SJ.sr 3 <| J.k 0 0 rfl Ty28 (At.whole _) <| J.C 0 F21 (ZfA _) fun r29 => J.z 1 <| SJ.sr 7 <| J.k 0 0 rfl Ty28 (At.whole _) <| J.C 0 F22 (Zfo _) fun r30 => J.z 5 <| SJ.sr 10 <| J.i 2 fun p31 => J.l 0 Ty28 fun x32 => J.C 0 F23 (Zgj _) fun r33 => J.z 5 <| SJ.seq <| J.D [0, 2, 3, 4, 5, 1, 6, 7, 8, 9, 10, 11, 12, 13, 14, 15, 16, 17, 18, 19, 20, 21, 22, 23, 24, 25, 26, 27] ZcR <| J.i 3 fun p34 => J.l 0 Ty28 fun x35 => OJ.call (d := 37) (g := 16) (ats := #[29]) (args := [.tmp 36]) (owed := [⟨5, 28, p34, Zak.val x35⟩]) F16 (ZdK r29) fun r36 => OW.same Ty28 <| OW.nil <| J.C 0 F24 (Zfl _) fun r37 => J.j 2 4 .bool ?_ ?_ fun y39 => ?_
  ·exact J.e 5
  ·exact J.C 1 F16 (ZdK _) fun r38 => J.e 3
  refine J.j 1 3 .bool ?_ ?_ fun y40 => ?_
  ·exact J.e 4
  ·exact J.e 4
  refine J.j 1 7 .bool ?_ ?_ fun y44 => ?_
  ·exact J.e 8
  ·exact J.k 0 0 rfl Ty28 (At.whole _) <| J.i 2 fun p41 => J.l 0 Ty28 fun x42 => J.C 0 F25 (ZhR _ _) fun r43 => J.e 2
  refine J.z 0 <| J.f ?_ ?_
  ·exact SJ.sr 1 <| J.z 1 <| J.r
  exact SJ.skip <| SJ.inBlock <| SJ.rg 3 <| J.z 3 <| SJ.forget (List.Sublist.cons _ List.Sublist.slnil) <| J.o rfl
 exact SJ.exit (id := 0) (by rfl) <| SJ.sr 2 <| J.C 0 F19 Zhc fun r46 => J.z 1 <| J.r
noncomputable def ZaL (a0 : Sl) : M Bool :=
 Zb9 (fun s_ : Int => ZaL.L1 a0 s_) 0
theorem ZfM (a0 : Sl) : Ref Tryz.prog 4 [Sl.v a0] (ZaL a0) ZaL.out := by
 refine J.Fn Tryz.func4 ?_
 unfold ZaL
 exact SJ.sr 1 <| J.z 1 <| SJ.seq <| SJ.sr 1 <| J.z 1 <| SJ.block (id := 0) <| J.L (ZaL.L1_ok a0)
end Go.Proofs.YtpmhinidiplhiaaGreatDoor.Lx
