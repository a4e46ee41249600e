/- Programs of the M-world for Go functions, each with the proof that the Go text does what it says. Printed by lxgen.py. -/
import Derived.Test.YtddmmgcfanpmmaaGreatDoorLxT
import Derived.Test.YtddmmgcfanpmmaaGreatDoorLxP0
set_option linter.unusedVariables false
set_option linter.unusedSimpArgs false
namespace Go.Proofs.YtddmmgcfanpmmaaGreatDoor.Lx
open Go Go.Proofs
/-! ### internal/strconv.small: function 90 -/
noncomputable def strconv_small.B : Code := (Tryz.f90.body).getD .skip
noncomputable def strconv_small.cx : Fx := ⟨Tryz.prog, 90, Tryz.f90⟩
noncomputable def strconv_small.out (r_ : ByteArray) : Value := .string r_
noncomputable def strconv_small.F0 (r_ : ByteArray) : Reach := .ret (strconv_small.out r_)
noncomputable def strconv_small (a0 : Int) : M ByteArray :=
 if a0 < 10 then
  chk (0 ≤ (a0 : Int) ∧ (a0 : Int) ≤ (IntKind.wrap .i64 (a0 + 1)) ∧ (IntKind.wrap .i64 (a0 + 1)) ≤ (str2.size : Int)) >>= fun _ =>
  pure (ByteArray.extract str2 (Int.toNat a0) (Int.toNat (IntKind.wrap .i64 (a0 + 1))))
 else
  chk (0 ≤ ((IntKind.wrap .i64 (a0 * 2)) : Int) ∧ ((IntKind.wrap .i64 (a0 * 2)) : Int) ≤ (IntKind.wrap .i64 ((IntKind.wrap .i64 (a0 * 2)) + 2)) ∧ (IntKind.wrap .i64 ((IntKind.wrap .i64 (a0 * 2)) + 2)) ≤ (str3.size : Int)) >>= fun _ =>
  pure (ByteArray.extract str3 (Int.toNat (IntKind.wrap .i64 (a0 * 2))) (Int.toNat (IntKind.wrap .i64 ((IntKind.wrap .i64 (a0 * 2)) + 2))))
theorem strconv_small_ok (a0 : Int) : Ref Tryz.prog 90 [.int .i64 a0] (strconv_small a0) strconv_small.out := by
 refine Ref.of (cd := strconv_small.B) Tryz.func90 ?_
 show SJ strconv_small.cx [.code strconv_small.B] [(0, .int .i64 a0)] [] (strconv_small a0) strconv_small.F0
 unfold strconv_small
 refine SJ.sr 1 <| OJ.go 1 [(2, .string ByteArray.empty)] <| OJ.nil <| SJ.seq <| SJ.sr 2 <| OJ.go 2 [(4, .bool (decide (a0 < 10))), (3, .int .i64 a0)] <| OJ.nil <| SJ.cond (t := (.tmp 4)) (b := decide (a0 < 10)) decide_eq_true_iff (fun hc1 => ?_) (fun hc1 => ?_)
 ·refine SJ.sr 5 <| OJ.go 3 [(7, .int .i64 (IntKind.wrap .i64 (a0 + 1))), (6, .int .i64 a0), (5, .int .i64 a0)] <| OJ.cutT (d := 8) (t := 9) (y := .const (.string str2)) (lo := (some (.tmp 5))) (hi := (some (.tmp 7))) (lo' := some (.i64, a0)) (hi' := some (.i64, IntKind.wrap .i64 (a0 + 1))) ?_
  exact OJ.go 1 [(2, .string (ByteArray.extract str2 (Int.toNat a0) (Int.toNat (IntKind.wrap .i64 (a0 + 1)))))] <| OJ.nil <| SJ.r1 (.string (ByteArray.extract str2 (Int.toNat a0) (Int.toNat (IntKind.wrap .i64 (a0 + 1))))) rfl rfl
 ·refine SJ.skip <| SJ.sr 7 <| OJ.go 5 [(13, .int .i64 (IntKind.wrap .i64 ((IntKind.wrap .i64 (a0 * 2)) + 2))), (12, .int .i64 (IntKind.wrap .i64 (a0 * 2))), (11, .int .i64 a0), (10, .int .i64 (IntKind.wrap .i64 (a0 * 2))), (9, .int .i64 a0)] <| OJ.cutT (d := 14) (t := 9) (y := .const (.string str3)) (lo := (some (.tmp 10))) (hi := (some (.tmp 13))) (lo' := some (.i64, IntKind.wrap .i64 (a0 * 2))) (hi' := some (.i64, IntKind.wrap .i64 ((IntKind.wrap .i64 (a0 * 2)) + 2))) ?_
  exact OJ.go 1 [(2, .string (ByteArray.extract str3 (Int.toNat (IntKind.wrap .i64 (a0 * 2))) (Int.toNat (IntKind.wrap .i64 ((IntKind.wrap .i64 (a0 * 2)) + 2)))))] <| OJ.nil <| SJ.r1 (.string (ByteArray.extract str3 (Int.toNat (IntKind.wrap .i64 (a0 * 2))) (Int.toNat (IntKind.wrap .i64 ((IntKind.wrap .i64 (a0 * 2)) + 2))))) rfl rfl

/-! ### math/bits.Len64: function 107 -/
noncomputable def bits_Len64.B : Code := (Tryz.f107.body).getD .skip
noncomputable def bits_Len64.cx : Fx := ⟨Tryz.prog, 107, Tryz.f107⟩
noncomputable def bits_Len64.out (r_ : Int) : Value := .int .i64 r_
noncomputable def bits_Len64.F0 (r_ : Int) : Reach := .ret (bits_Len64.out r_)
noncomputable def bits_Len64.K1 (j3 : Int) (j4 : Int) : M Int :=
 if j3 ≥ 256 then
  chk ((0 : Int) ≤ (IntKind.wrap .u8 (Int.fdiv j3 (2 ^ 8))) ∧ (IntKind.wrap .u8 (Int.fdiv j3 (2 ^ 8))) < (str4.size : Int)) >>= fun _ =>
  pure (IntKind.wrap .i64 ((IntKind.wrap .i64 (j4 + 8)) + (IntKind.wrap .i64 (sb str4 (IntKind.wrap .u8 (Int.fdiv j3 (2 ^ 8)))))))
 else
  chk ((0 : Int) ≤ (IntKind.wrap .u8 j3) ∧ (IntKind.wrap .u8 j3) < (str4.size : Int)) >>= fun _ =>
  pure (IntKind.wrap .i64 (j4 + (IntKind.wrap .i64 (sb str4 (IntKind.wrap .u8 j3)))))
theorem bits_Len64.K1_ok (j3 : Int) (j4 : Int) :
  SJ bits_Len64.cx [.code (c2 (c2 (c2 bits_Len64.B)))] [(0, .int .u64 j3), (2, .int .i64 j4)] [] (bits_Len64.K1 j3 j4) bits_Len64.F0 := by
 unfold bits_Len64.K1
 refine SJ.seq <| SJ.sr 2 <| OJ.go 2 [(14, .bool (decide (j3 ≥ 256))), (13, .int .u64 j3)] <| OJ.nil <| SJ.cond (t := (.tmp 14)) (b := decide (j3 ≥ 256)) decide_eq_true_iff (fun hc9 => ?_) (fun hc9 => ?_)
 ·refine SJ.sr 3 <| OJ.go 3 [(0, .int .u64 (Int.fdiv j3 (2 ^ 8))), (16, .int .u64 (Int.fdiv j3 (2 ^ 8))), (15, .int .u64 j3)] <| OJ.nil <| SJ.rg 3 <| OJ.go 3 [(2, .int .i64 (IntKind.wrap .i64 (j4 + 8))), (18, .int .i64 (IntKind.wrap .i64 (j4 + 8))), (17, .int .i64 j4)] <| OJ.nil <| SJ.sr 7 <| OJ.go 3 [(21, .int .u8 (IntKind.wrap .u8 (Int.fdiv j3 (2 ^ 8)))), (20, .int .u64 (Int.fdiv j3 (2 ^ 8))), (19, .int .i64 (IntKind.wrap .i64 (j4 + 8)))] <| OJ.idxT (d := 22) (T := 9) (y := .const (.string str4)) (j := .tmp 21) (k := .u8) (fun hb5 hb6 => ?_)
  exact OJ.go 3 [(2, .int .i64 (IntKind.wrap .i64 ((IntKind.wrap .i64 (j4 + 8)) + (IntKind.wrap .i64 (sb str4 (IntKind.wrap .u8 (Int.fdiv j3 (2 ^ 8)))))))), (24, .int .i64 (IntKind.wrap .i64 ((IntKind.wrap .i64 (j4 + 8)) + (IntKind.wrap .i64 (sb str4 (IntKind.wrap .u8 (Int.fdiv j3 (2 ^ 8)))))))), (23, .int .i64 (IntKind.wrap .i64 (sb str4 (IntKind.wrap .u8 (Int.fdiv j3 (2 ^ 8))))))] <| OJ.nil <| SJ.r1 (.int .i64 (IntKind.wrap .i64 ((IntKind.wrap .i64 (j4 + 8)) + (IntKind.wrap .i64 (sb str4 (IntKind.wrap .u8 (Int.fdiv j3 (2 ^ 8)))))))) rfl rfl
 ·refine SJ.skip <| SJ.sr 7 <| OJ.go 3 [(21, .int .u8 (IntKind.wrap .u8 j3)), (20, .int .u64 j3), (19, .int .i64 j4)] <| OJ.idxT (d := 22) (T := 9) (y := .const (.string str4)) (j := .tmp 21) (k := .u8) (fun hb7 hb8 => ?_)
  exact OJ.go 3 [(2, .int .i64 (IntKind.wrap .i64 (j4 + (IntKind.wrap .i64 (sb str4 (IntKind.wrap .u8 j3)))))), (24, .int .i64 (IntKind.wrap .i64 (j4 + (IntKind.wrap .i64 (sb str4 (IntKind.wrap .u8 j3)))))), (23, .int .i64 (IntKind.wrap .i64 (sb str4 (IntKind.wrap .u8 j3))))] <| OJ.nil <| SJ.r1 (.int .i64 (IntKind.wrap .i64 (j4 + (IntKind.wrap .i64 (sb str4 (IntKind.wrap .u8 j3)))))) rfl rfl
noncomputable def bits_Len64.K2 (j1 : Int) (j2 : Int) : M Int :=
 if j1 ≥ 65536 then
  bits_Len64.K1 (Int.fdiv j1 (2 ^ 16)) (IntKind.wrap .i64 (j2 + 16))
 else
  bits_Len64.K1 j1 j2
theorem bits_Len64.K2_ok (j1 : Int) (j2 : Int) :
  SJ bits_Len64.cx [.code (c2 (c2 bits_Len64.B))] [(0, .int .u64 j1), (2, .int .i64 j2)] [] (bits_Len64.K2 j1 j2) bits_Len64.F0 := by
 unfold bits_Len64.K2
 refine SJ.seq <| SJ.sr 2 <| OJ.go 2 [(8, .bool (decide (j1 ≥ 65536))), (7, .int .u64 j1)] <| OJ.nil <| SJ.cond (t := (.tmp 8)) (b := decide (j1 ≥ 65536)) decide_eq_true_iff (fun hc10 => ?_) (fun hc10 => ?_)
 ·refine SJ.sr 3 <| OJ.go 3 [(0, .int .u64 (Int.fdiv j1 (2 ^ 16))), (10, .int .u64 (Int.fdiv j1 (2 ^ 16))), (9, .int .u64 j1)] <| OJ.nil <| SJ.rg 3 <| OJ.go 3 [(2, .int .i64 (IntKind.wrap .i64 (j2 + 16))), (12, .int .i64 (IntKind.wrap .i64 (j2 + 16))), (11, .int .i64 j2)] <| OJ.nil <| SJ.less [0, 2] (m' := [(0, .int .u64 (Int.fdiv j1 (2 ^ 16))), (2, .int .i64 (IntKind.wrap .i64 (j2 + 16)))]) ?_
  exact bits_Len64.K1_ok (Int.fdiv j1 (2 ^ 16)) (IntKind.wrap .i64 (j2 + 16))
 ·refine SJ.skip <| SJ.less [0, 2] (m' := [(0, .int .u64 j1), (2, .int .i64 j2)]) ?_
  exact bits_Len64.K1_ok j1 j2
noncomputable def bits_Len64 (a0 : Int) : M Int :=
 if a0 ≥ 4294967296 then
  bits_Len64.K2 (Int.fdiv a0 (2 ^ 32)) 32
 else
  bits_Len64.K2 a0 0
theorem bits_Len64_ok (a0 : Int) : Ref Tryz.prog 107 [.int .u64 a0] (bits_Len64 a0) bits_Len64.out := by
 refine Ref.of (cd := bits_Len64.B) Tryz.func107 ?_
 show SJ bits_Len64.cx [.code bits_Len64.B] [(0, .int .u64 a0)] [] (bits_Len64 a0) bits_Len64.F0
 unfold bits_Len64
 refine SJ.sr 1 <| OJ.go 1 [(2, .int .i64 0)] <| OJ.nil <| SJ.seq <| SJ.sr 2 <| OJ.go 2 [(4, .bool (decide (a0 ≥ 4294967296))), (3, .int .u64 a0)] <| OJ.nil <| SJ.cond (t := (.tmp 4)) (b := decide (a0 ≥ 4294967296)) decide_eq_true_iff (fun hc11 => ?_) (fun hc11 => ?_)
 ·refine SJ.sr 3 <| OJ.go 3 [(0, .int .u64 (Int.fdiv a0 (2 ^ 32))), (6, .int .u64 (Int.fdiv a0 (2 ^ 32))), (5, .int .u64 a0)] <| OJ.nil <| SJ.rg 1 <| OJ.go 1 [(2, .int .i64 32)] <| OJ.nil <| SJ.less [0, 2] (m' := [(0, .int .u64 (Int.fdiv a0 (2 ^ 32))), (2, .int .i64 32)]) ?_
  exact bits_Len64.K2_ok (Int.fdiv a0 (2 ^ 32)) 32
 ·refine SJ.skip <| SJ.less [0, 2] (m' := [(0, .int .u64 a0), (2, .int .i64 0)]) ?_
  exact bits_Len64.K2_ok a0 0

/-! ### internal/strconv.log10Pow2: function 106 -/
noncomputable def strconv_log10Pow2.B : Code := (Tryz.f106.body).getD .skip
noncomputable def strconv_log10Pow2.cx : Fx := ⟨Tryz.prog, 106, Tryz.f106⟩
noncomputable def strconv_log10Pow2.out (r_ : Int) : Value := .int .i64 r_
noncomputable def strconv_log10Pow2.F0 (r_ : Int) : Reach := .ret (strconv_log10Pow2.out r_)
noncomputable def strconv_log10Pow2 (a0 : Int) : M Int :=
 pure (Int.fdiv (IntKind.wrap .i64 (a0 * 78913)) (2 ^ 18))
theorem strconv_log10Pow2_ok (a0 : Int) : Ref Tryz.prog 106 [.int .i64 a0] (strconv_log10Pow2 a0) strconv_log10Pow2.out := by
 refine Ref.of (cd := strconv_log10Pow2.B) Tryz.func106 ?_
 show SJ strconv_log10Pow2.cx [.code strconv_log10Pow2.B] [(0, .int .i64 a0)] [] (strconv_log10Pow2 a0) strconv_log10Pow2.F0
 unfold strconv_log10Pow2
 exact SJ.sr 1 <| OJ.go 1 [(2, .int .i64 0)] <| OJ.nil <| SJ.sr 4 <| OJ.go 4 [(2, .int .i64 (Int.fdiv (IntKind.wrap .i64 (a0 * 78913)) (2 ^ 18))), (5, .int .i64 (Int.fdiv (IntKind.wrap .i64 (a0 * 78913)) (2 ^ 18))), (4, .int .i64 (IntKind.wrap .i64 (a0 * 78913))), (3, .int .i64 a0)] <| OJ.nil <| SJ.r1 (.int .i64 (Int.fdiv (IntKind.wrap .i64 (a0 * 78913)) (2 ^ 18))) rfl rfl

/-! ### internal/strconv.bool2[int]: function 108 -/
noncomputable def strconv_bool2_int.B : Code := (Tryz.f108.body).getD .skip
noncomputable def strconv_bool2_int.cx : Fx := ⟨Tryz.prog, 108, Tryz.f108⟩
noncomputable def strconv_bool2_int.out (r_ : Int) : Value := .int .i64 r_
noncomputable def strconv_bool2_int.F0 (r_ : Int) : Reach := .ret (strconv_bool2_int.out r_)
noncomputable def strconv_bool2_int (a0 : Bool) : M Int :=
 if a0 = true then
  pure 1
 else
  pure 0
theorem strconv_bool2_int_ok (a0 : Bool) : Ref Tryz.prog 108 [.bool a0] (strconv_bool2_int a0) strconv_bool2_int.out := by
 refine Ref.of (cd := strconv_bool2_int.B) Tryz.func108 ?_
 show SJ strconv_bool2_int.cx [.code strconv_bool2_int.B] [(0, .bool a0)] [] (strconv_bool2_int a0) strconv_bool2_int.F0
 unfold strconv_bool2_int
 refine SJ.sr 1 <| OJ.go 1 [(2, .int .i64 0)] <| OJ.nil <| SJ.seq <| SJ.sr 1 <| OJ.go 1 [(3, .bool a0)] <| OJ.nil <| SJ.cond (t := (.tmp 3)) (b := a0) Iff.rfl (fun hc1 => ?_) (fun hc1 => ?_)
 ·exact SJ.sr 1 <| OJ.go 1 [(2, .int .i64 1)] <| OJ.nil <| SJ.r1 (.int .i64 1) rfl rfl
 ·exact SJ.skip <| SJ.sr 1 <| OJ.go 1 [(2, .int .i64 0)] <| OJ.nil <| SJ.r1 (.int .i64 0) rfl rfl

/-! ### internal/strconv.numDigits: function 91 -/
noncomputable def strconv_numDigits.B : Code := (Tryz.f91.body).getD .skip
noncomputable def strconv_numDigits.cx : Fx := ⟨Tryz.prog, 91, Tryz.f91⟩
noncomputable def strconv_numDigits.out (r_ : Int) : Value := .int .i64 r_
noncomputable def strconv_numDigits.F0 (r_ : Int) : Reach := .ret (strconv_numDigits.out r_)
noncomputable def strconv_numDigits (a0 : Int) : M Int :=
 bits_Len64 a0 >>= fun r1 =>
 strconv_log10Pow2 r1 >>= fun r2 =>
 idx (some ⟨2, 0, none⟩) 20 r2 1 >>= fun p3 =>
 ld (cI .u64) p3 >>= fun x4 =>
 strconv_bool2_int (decide (a0 ≥ x4)) >>= fun r5 =>
 pure (IntKind.wrap .i64 (r2 + r5))
theorem strconv_numDigits_ok (a0 : Int) : Ref Tryz.prog 91 [.int .u64 a0] (strconv_numDigits a0) strconv_numDigits.out := by
 refine Ref.of (cd := strconv_numDigits.B) Tryz.func91 ?_
 show SJ strconv_numDigits.cx [.code strconv_numDigits.B] [(0, .int .u64 a0)] [] (strconv_numDigits a0) strconv_numDigits.F0
 unfold strconv_numDigits
 refine SJ.sr 1 <| OJ.go 1 [(2, .int .i64 0)] <| OJ.nil <| SJ.sr 4 <| OJ.go 1 [(4, .int .u64 a0)] <| OJ.call (d := 5) (g := 107) (ats := #[140]) (args := [.tmp 4]) (owed := []) F107 (bits_Len64_ok a0) (fun r1 => ?_)
 refine OW.nil <| OJ.call (d := 6) (g := 106) (ats := #[3]) (args := [.tmp 5]) (owed := []) F106 (strconv_log10Pow2_ok r1) (fun r2 => ?_)
 refine OW.nil <| OJ.go 1 [(3, .int .i64 r2)] <| OJ.nil <| SJ.sr 9 <| OJ.go 3 [(9, .int .i64 r2), (8, .int .u64 a0), (7, .int .i64 r2)] <| OJ.idxA (d := 10) (T := 156) (y := .global 2) (j := .tmp 9) (E := 140) (k := .i64) (fun p3 => ?_)
 refine OJ.ld (d := 11) (y := .tmp 10) (pend2 := fun x4 => []) Ty140 (fun _ => rfl) (fun x4 => ?_)
 refine OJ.go 1 [(12, .bool (decide (a0 ≥ x4)))] <| OJ.call (d := 13) (g := 108) (ats := #[4]) (args := [.tmp 12]) (owed := []) F108 (strconv_bool2_int_ok (decide (a0 ≥ x4))) (fun r5 => ?_)
 exact OW.nil <| OJ.go 2 [(2, .int .i64 (IntKind.wrap .i64 (r2 + r5))), (14, .int .i64 (IntKind.wrap .i64 (r2 + r5)))] <| OJ.nil <| SJ.r1 (.int .i64 (IntKind.wrap .i64 (r2 + r5))) rfl rfl

/-! ### internal/strconv.formatBase10: function 92 -/
noncomputable def strconv_formatBase10.B : Code := (Tryz.f92.body).getD .skip
noncomputable def strconv_formatBase10.cx : Fx := ⟨Tryz.prog, 92, Tryz.f92⟩
noncomputable def strconv_formatBase10.out (r_ : Unit) : Value := .tuple #[]
noncomputable def strconv_formatBase10.F0 (r_ : Unit) : Reach := .ret (strconv_formatBase10.out r_)
noncomputable def strconv_formatBase10.K1 (a0 : Sl) (j10 : Int) (j11 : Int) : M Unit :=
 if j10 > 0 then
  idx a0.a a0.len 0 1 >>= fun p13 =>
  st (cI .u8) p13 (IntKind.wrap .u8 (IntKind.wrap .u32 (48 + j11))) >>= fun _ =>
  pure ()
 else
  pure ()
theorem strconv_formatBase10.K1_ok (a0 : Sl) (j10 : Int) (j11 : Int) :
  SJ strconv_formatBase10.cx [.code (c2 (c2 (c2 (c2 (c2 strconv_formatBase10.B)))))] [(0, Sl.v a0), (4, .int .i64 j10), (12, .int .u32 j11)] [] (strconv_formatBase10.K1 a0 j10 j11) strconv_formatBase10.F0 := by
 unfold strconv_formatBase10.K1
 refine SJ.sr 2 <| OJ.go 2 [(161, .bool (decide (j10 > 0))), (160, .int .i64 j10)] <| OJ.nil <| SJ.cond (t := (.tmp 161)) (b := decide (j10 > 0)) decide_eq_true_iff (fun hc14 => ?_) (fun hc14 => ?_)
 ·refine SJ.rg 6 <| OJ.go 4 [(165, .int .u8 (IntKind.wrap .u8 (IntKind.wrap .u32 (48 + j11)))), (164, .int .u32 (IntKind.wrap .u32 (48 + j11))), (163, .int .u32 j11), (162, Sl.v a0)] <| OJ.idxS (d := 166) (T := 51) (y := .tmp 162) (j := .const (.int .i64 0)) (E := 5) (cap := a0.cap) (k := .i64) (fun p13 => ?_)
  refine OJ.st (y := .tmp 166) (z := .tmp 165) (owed := []) Ty5 ?_
  exact OW.nil <| OJ.nil <| SJ.end_ rfl (Res.run (ys := []) .nil rfl)
 ·exact SJ.skip <| SJ.end_ rfl (Res.run (ys := []) .nil rfl)
noncomputable def strconv_formatBase10.K2 (a0 : Sl) (s1 : Int) (s2 : Int) : M Unit :=
 if s2 ≥ 4 then
  fail
 else
  if s2 ≥ 2 then
   draw >>= fun _ =>
   chk ((0 : Int) ≤ (IntKind.wrap .u32 ((IntKind.wrap .u32 ((Int.tmod (IntKind.wrap .u32 s1) 100) * 2)) + 1)) ∧ (IntKind.wrap .u32 ((IntKind.wrap .u32 ((Int.tmod (IntKind.wrap .u32 s1) 100) * 2)) + 1)) < (str3.size : Int)) >>= fun _ =>
   chk ((0 : Int) ≤ (IntKind.wrap .u32 ((Int.tmod (IntKind.wrap .u32 s1) 100) * 2)) ∧ (IntKind.wrap .u32 ((Int.tmod (IntKind.wrap .u32 s1) 100) * 2)) < (str3.size : Int)) >>= fun _ =>
   idx a0.a a0.len (IntKind.wrap .i64 (s2 - 1)) 1 >>= fun p19 =>
   st (cI .u8) p19 (sb str3 (IntKind.wrap .u32 ((IntKind.wrap .u32 ((Int.tmod (IntKind.wrap .u32 s1) 100) * 2)) + 1))) >>= fun _ =>
   idx a0.a a0.len (IntKind.wrap .i64 (s2 - 2)) 1 >>= fun p20 =>
   st (cI .u8) p20 (sb str3 (IntKind.wrap .u32 ((Int.tmod (IntKind.wrap .u32 s1) 100) * 2))) >>= fun _ =>
   strconv_formatBase10.K1 a0 (IntKind.wrap .i64 (s2 - 2)) (IntKind.wrap .u32 (Int.tdiv (IntKind.wrap .u32 s1) 100))
  else
   strconv_formatBase10.K1 a0 s2 (IntKind.wrap .u32 s1)
theorem strconv_formatBase10.K2_ok (a0 : Sl) (s1 : Int) (s2 : Int) :
  SJ strconv_formatBase10.cx [.code (c2 (c2 strconv_formatBase10.B))] [(0, Sl.v a0), (1, .int .u64 s1), (4, .int .i64 s2)] [] (strconv_formatBase10.K2 a0 s1 s2) strconv_formatBase10.F0 := by
 unfold strconv_formatBase10.K2
 refine SJ.sr 3 <| OJ.go 3 [(12, .int .u32 (IntKind.wrap .u32 s1)), (97, .int .u32 (IntKind.wrap .u32 s1)), (96, .int .u64 s1)] <| OJ.nil <| SJ.seq <| SJ.sr 2 <| OJ.go 2 [(99, .bool (decide (s2 ≥ 4))), (98, .int .i64 s2)] <| OJ.nil <| SJ.cond (t := (.tmp 99)) (b := decide (s2 ≥ 4)) decide_eq_true_iff (fun hc22 => ?_) (fun hc22 => ?_)
 ·exact SJ.fail
 ·refine SJ.skip <| SJ.seq <| SJ.sr 2 <| OJ.go 2 [(139, .bool (decide (s2 ≥ 2))), (138, .int .i64 s2)] <| OJ.nil <| SJ.cond (t := (.tmp 139)) (b := decide (s2 ≥ 2)) decide_eq_true_iff (fun hc21 => ?_) (fun hc21 => ?_)
  ·refine SJ.sr 4 <| OJ.go 4 [(16, .int .u32 (IntKind.wrap .u32 ((Int.tmod (IntKind.wrap .u32 s1) 100) * 2))), (142, .int .u32 (IntKind.wrap .u32 ((Int.tmod (IntKind.wrap .u32 s1) 100) * 2))), (141, .int .u32 (Int.tmod (IntKind.wrap .u32 s1) 100)), (140, .int .u32 (IntKind.wrap .u32 s1))] <| OJ.nil <| SJ.sr 3 <| OJ.go 3 [(12, .int .u32 (IntKind.wrap .u32 (Int.tdiv (IntKind.wrap .u32 s1) 100))), (144, .int .u32 (IntKind.wrap .u32 (Int.tdiv (IntKind.wrap .u32 s1) 100))), (143, .int .u32 (IntKind.wrap .u32 s1))] <| OJ.nil <| SJ.seq <| SJ.draw (id := 23) (kd := [0, 0, 0, 0, 0, 0, 0, 0, 0, 0, 0, 0, 2, 0, 2]) (bef := [0, 0, 2, 0, 0, 16, 0, 64, 192, 0, 512, 455, 2503, 8191, 16383]) (ord := [0, 1, 2, 3, 4, 5, 6, 7, 8, 9, 10, 11, 12, 13, 14]) mixed ?_
   refine OJ.go 8 [(152, .int .u32 (IntKind.wrap .u32 ((IntKind.wrap .u32 ((Int.tmod (IntKind.wrap .u32 s1) 100) * 2)) + 1))), (151, .int .u32 (IntKind.wrap .u32 ((Int.tmod (IntKind.wrap .u32 s1) 100) * 2))), (150, .int .i64 (IntKind.wrap .i64 (s2 - 2))), (149, .int .i64 s2), (148, Sl.v a0), (147, .int .i64 (IntKind.wrap .i64 (s2 - 1))), (146, .int .i64 s2), (145, Sl.v a0)] <| OJ.idxT (d := 153) (T := 9) (y := .const (.string str3)) (j := .tmp 152) (k := .u32) (fun hb15 hb16 => ?_)
   refine OJ.go 1 [(154, .int .u32 (IntKind.wrap .u32 ((Int.tmod (IntKind.wrap .u32 s1) 100) * 2)))] <| OJ.idxT (d := 155) (T := 9) (y := .const (.string str3)) (j := .tmp 154) (k := .u32) (fun hb17 hb18 => ?_)
   refine OJ.idxS (d := 156) (T := 51) (y := .tmp 145) (j := .tmp 147) (E := 5) (cap := a0.cap) (k := .i64) (fun p19 => ?_)
   refine OJ.st (y := .tmp 156) (z := .tmp 153) (owed := []) Ty5 ?_
   refine OW.nil <| OJ.idxS (d := 157) (T := 51) (y := .tmp 148) (j := .tmp 150) (E := 5) (cap := a0.cap) (k := .i64) (fun p20 => ?_)
   refine OJ.st (y := .tmp 157) (z := .tmp 155) (owed := []) Ty5 ?_
   refine OW.nil <| OJ.nil <| SJ.rg 3 <| OJ.go 3 [(4, .int .i64 (IntKind.wrap .i64 (s2 - 2))), (159, .int .i64 (IntKind.wrap .i64 (s2 - 2))), (158, .int .i64 s2)] <| OJ.nil <| SJ.less [0, 4, 12] (m' := [(0, Sl.v a0), (4, .int .i64 (IntKind.wrap .i64 (s2 - 2))), (12, .int .u32 (IntKind.wrap .u32 (Int.tdiv (IntKind.wrap .u32 s1) 100)))]) ?_
   exact strconv_formatBase10.K1_ok a0 (IntKind.wrap .i64 (s2 - 2)) (IntKind.wrap .u32 (Int.tdiv (IntKind.wrap .u32 s1) 100))
  ·refine SJ.skip <| SJ.less [0, 4, 12] (m' := [(0, Sl.v a0), (4, .int .i64 s2), (12, .int .u32 (IntKind.wrap .u32 s1))]) ?_
   exact strconv_formatBase10.K1_ok a0 s2 (IntKind.wrap .u32 s1)
noncomputable def strconv_formatBase10.F1 (a0 : Sl) : (LS (Int × Int) Unit) → Reach := loopF [.inLoop (c1 (c1 (c1 (c2 strconv_formatBase10.B)))), .inBlock 0, .code (c2 (c2 strconv_formatBase10.B))] (fun s_ : (Int × Int) => [(0, Sl.v a0), (1, .int .u64 s_.1), (4, .int .i64 s_.2)]) (fun s_ : (Int × Int) => []) strconv_formatBase10.F0
noncomputable def strconv_formatBase10.L1 (a0 : Sl) (s1 : Int) (s2 : Int) : M (LS (Int × Int) Unit) :=
 if s2 ≥ 8 then
  fail
 else
  (strconv_formatBase10.K2 a0 s1 s2) >>= fun b => pure (LS.done b)
theorem strconv_formatBase10.L1_ok (a0 : Sl) (s1 : Int) (s2 : Int) :
  SJ strconv_formatBase10.cx [.code (c1 (c1 (c1 (c2 strconv_formatBase10.B)))), .inLoop (c1 (c1 (c1 (c2 strconv_formatBase10.B)))), .inBlock 0, .code (c2 (c2 strconv_formatBase10.B))] [(0, Sl.v a0), (1, .int .u64 s1), (4, .int .i64 s2)] [] (strconv_formatBase10.L1 a0 s1 s2) (strconv_formatBase10.F1 a0) := by
 unfold strconv_formatBase10.L1
 refine SJ.seq <| SJ.sr 2 <| OJ.go 2 [(20, .bool (decide (s2 ≥ 8))), (19, .int .i64 s2)] <| OJ.nil <| SJ.cond (t := (.tmp 20)) (b := decide (s2 ≥ 8)) decide_eq_true_iff (fun hc23 => ?_) (fun hc23 => ?_)
 ·exact SJ.fail
 ·refine SJ.exit (id := 0) (by rfl) <| SJ.less [0, 1, 4] (m' := [(0, Sl.v a0), (1, .int .u64 s1), (4, .int .i64 s2)]) ?_
  refine SJ.done ?_
  exact strconv_formatBase10.K2_ok a0 s1 s2
noncomputable def strconv_formatBase10 (a0 : Sl) (a1 : Int) : M Unit :=
 loopM (fun s_ : (Int × Int) => strconv_formatBase10.L1 a0 s_.1 s_.2) (a1, (a0.len : Int))
theorem strconv_formatBase10_ok (a0 : Sl) (a1 : Int) : Ref Tryz.prog 92 [Sl.v a0, .int .u64 a1] (strconv_formatBase10 a0 a1) strconv_formatBase10.out := by
 refine Ref.of (cd := strconv_formatBase10.B) Tryz.func92 ?_
 show SJ strconv_formatBase10.cx [.code strconv_formatBase10.B] [(0, Sl.v a0), (1, .int .u64 a1)] [] (strconv_formatBase10 a0 a1) strconv_formatBase10.F0
 unfold strconv_formatBase10
 exact SJ.sr 3 <| OJ.go 3 [(4, .int .i64 (a0.len : Int)), (18, .int .i64 (a0.len : Int)), (17, Sl.v a0)] <| OJ.nil <| SJ.seq <| SJ.block (id := 0) <| SJ.loop (fun s_ : (Int × Int) => [(0, Sl.v a0), (1, .int .u64 s_.1), (4, .int .i64 s_.2)]) (fun s_ : (Int × Int) => []) [0, 1, 4] rfl (fun _ _ => rfl) (fun s_ => strconv_formatBase10.L1_ok a0 s_.1 s_.2)

/-! ### internal/strconv.isPowerOfTwo: function 109 -/
noncomputable def strconv_isPowerOfTwo.B : Code := (Tryz.f109.body).getD .skip
noncomputable def strconv_isPowerOfTwo.cx : Fx := ⟨Tryz.prog, 109, Tryz.f109⟩
noncomputable def strconv_isPowerOfTwo.out (r_ : Bool) : Value := .bool r_
noncomputable def strconv_isPowerOfTwo.F0 (r_ : Bool) : Reach := .ret (strconv_isPowerOfTwo.out r_)
noncomputable def strconv_isPowerOfTwo (a0 : Int) : M Bool :=
 pure ((band .i64 a0 (IntKind.wrap .i64 (a0 - 1))) == 0)
theorem strconv_isPowerOfTwo_ok (a0 : Int) : Ref Tryz.prog 109 [.int .i64 a0] (strconv_isPowerOfTwo a0) strconv_isPowerOfTwo.out := by
 refine Ref.of (cd := strconv_isPowerOfTwo.B) Tryz.func109 ?_
 show SJ strconv_isPowerOfTwo.cx [.code strconv_isPowerOfTwo.B] [(0, .int .i64 a0)] [] (strconv_isPowerOfTwo a0) strconv_isPowerOfTwo.F0
 unfold strconv_isPowerOfTwo
 exact SJ.sr 1 <| OJ.go 1 [(2, .bool false)] <| OJ.nil <| SJ.sr 6 <| OJ.go 6 [(2, .bool ((band .i64 a0 (IntKind.wrap .i64 (a0 - 1))) == 0)), (7, .bool ((band .i64 a0 (IntKind.wrap .i64 (a0 - 1))) == 0)), (6, .int .i64 (band .i64 a0 (IntKind.wrap .i64 (a0 - 1)))), (5, .int .i64 (IntKind.wrap .i64 (a0 - 1))), (4, .int .i64 a0), (3, .int .i64 a0)] <| OJ.nil <| SJ.r1 (.bool ((band .i64 a0 (IntKind.wrap .i64 (a0 - 1))) == 0)) rfl rfl

/-! ### math/bits.TrailingZeros64: function 115 -/
noncomputable def bits_TrailingZeros64.B : Code := (Tryz.f115.body).getD .skip
noncomputable def bits_TrailingZeros64.cx : Fx := ⟨Tryz.prog, 115, Tryz.f115⟩
noncomputable def bits_TrailingZeros64.out (r_ : Int) : Value := .int .i64 r_
noncomputable def bits_TrailingZeros64.F0 (r_ : Int) : Reach := .ret (bits_TrailingZeros64.out r_)
noncomputable def bits_TrailingZeros64 (a0 : Int) : M Int :=
 if a0 = 0 then
  pure 64
 else
  idx (some ⟨4, 0, none⟩) 64 (Int.fdiv (IntKind.wrap .u64 ((band .u64 a0 (IntKind.wrap .u64 (0 - a0))) * 285870213051353865)) (2 ^ 58)) 1 >>= fun p1 =>
  ld (cI .u8) p1 >>= fun x2 =>
  pure (IntKind.wrap .i64 x2)
theorem bits_TrailingZeros64_ok (a0 : Int) : Ref Tryz.prog 115 [.int .u64 a0] (bits_TrailingZeros64 a0) bits_TrailingZeros64.out := by
 refine Ref.of (cd := bits_TrailingZeros64.B) Tryz.func115 ?_
 show SJ bits_TrailingZeros64.cx [.code bits_TrailingZeros64.B] [(0, .int .u64 a0)] [] (bits_TrailingZeros64 a0) bits_TrailingZeros64.F0
 unfold bits_TrailingZeros64
 refine SJ.sr 1 <| OJ.go 1 [(2, .int .i64 0)] <| OJ.nil <| SJ.seq <| SJ.sr 2 <| OJ.go 2 [(4, .bool (a0 == 0)), (3, .int .u64 a0)] <| OJ.nil <| SJ.cond (t := (.tmp 4)) (b := (a0 == 0)) beq_iff_eq (fun hc3 => ?_) (fun hc3 => ?_)
 ·exact SJ.sr 1 <| OJ.go 1 [(2, .int .i64 64)] <| OJ.nil <| SJ.r1 (.int .i64 64) rfl rfl
 ·refine SJ.skip <| SJ.sr 10 <| OJ.go 6 [(10, .int .u64 (Int.fdiv (IntKind.wrap .u64 ((band .u64 a0 (IntKind.wrap .u64 (0 - a0))) * 285870213051353865)) (2 ^ 58))), (9, .int .u64 (IntKind.wrap .u64 ((band .u64 a0 (IntKind.wrap .u64 (0 - a0))) * 285870213051353865))), (8, .int .u64 (band .u64 a0 (IntKind.wrap .u64 (0 - a0)))), (7, .int .u64 (IntKind.wrap .u64 (0 - a0))), (6, .int .u64 a0), (5, .int .u64 a0)] <| OJ.idxA (d := 11) (T := 165) (y := .global 4) (j := .tmp 10) (E := 5) (k := .u64) (fun p1 => ?_)
  refine OJ.ld (d := 12) (y := .tmp 11) (pend2 := fun x2 => []) Ty5 (fun _ => rfl) (fun x2 => ?_)
  exact OJ.go 2 [(2, .int .i64 (IntKind.wrap .i64 x2)), (13, .int .i64 (IntKind.wrap .i64 x2))] <| OJ.nil <| SJ.r1 (.int .i64 (IntKind.wrap .i64 x2)) rfl rfl

/-! ### math/bits.TrailingZeros: function 110 -/
noncomputable def bits_TrailingZeros.B : Code := (Tryz.f110.body).getD .skip
noncomputable def bits_TrailingZeros.cx : Fx := ⟨Tryz.prog, 110, Tryz.f110⟩
noncomputable def bits_TrailingZeros.out (r_ : Int) : Value := .int .i64 r_
noncomputable def bits_TrailingZeros.F0 (r_ : Int) : Reach := .ret (bits_TrailingZeros.out r_)
noncomputable def bits_TrailingZeros (a0 : Int) : M Int :=
 bits_TrailingZeros64 a0 >>= fun r1 =>
 pure r1
theorem bits_TrailingZeros_ok (a0 : Int) : Ref Tryz.prog 110 [.int .u64 a0] (bits_TrailingZeros a0) bits_TrailingZeros.out := by
 refine Ref.of (cd := bits_TrailingZeros.B) Tryz.func110 ?_
 show SJ bits_TrailingZeros.cx [.code bits_TrailingZeros.B] [(0, .int .u64 a0)] [] (bits_TrailingZeros a0) bits_TrailingZeros.F0
 unfold bits_TrailingZeros
 refine SJ.sr 1 <| OJ.go 1 [(2, .int .i64 0)] <| OJ.nil <| SJ.seq <| SJ.cond0 (t := (.const (.bool false))) ?_
 refine SJ.skip <| SJ.sr 3 <| OJ.go 1 [(6, .int .u64 a0)] <| OJ.call (d := 7) (g := 115) (ats := #[140]) (args := [.tmp 6]) (owed := []) F115 (bits_TrailingZeros64_ok a0) (fun r1 => ?_)
 exact OW.nil <| OJ.go 1 [(2, .int .i64 r1)] <| OJ.nil <| SJ.r1 (.int .i64 r1) rfl rfl

/-! ### internal/strconv.formatBits: function 93 -/
noncomputable def strconv_formatBits.B : Code := (Tryz.f93.body).getD .skip
noncomputable def strconv_formatBits.cx : Fx := ⟨Tryz.prog, 93, Tryz.f93⟩
noncomputable def strconv_formatBits.out (r_ : (Sl × ByteArray)) : Value := .tuple #[Sl.v r_.1, .string r_.2]
noncomputable def strconv_formatBits.F0 (r_ : (Sl × ByteArray)) : Reach := .ret (strconv_formatBits.out r_)
noncomputable def strconv_formatBits.K1 (a3 : Bool) (a4 : Bool) (b3 : Nat) (s22 : Int) (s23 : Int) : M (Sl × ByteArray) :=
 chk ((0 : Int) ≤ s22 ∧ s22 < (str2.size : Int)) >>= fun _ =>
 idx (some (pt b3 0)) 65 (IntKind.wrap .i64 (s23 - 1)) 1 >>= fun p31 =>
 st (cI .u8) p31 (sb str2 s22) >>= fun _ =>
 if a3 = true then
  fail
 else
  if a4 = true then
   fail
  else
   cut 1 ⟨some (pt b3 0), 65, 65⟩ (some (IntKind.wrap .i64 (s23 - 1))) none none >>= fun r32 =>
   toStr r32 >>= fun r33 =>
   pure (Sl.nil, r33)
theorem strconv_formatBits.K1_ok (a0 : Sl) (a3 : Bool) (a4 : Bool) (b3 : Nat) (s22 : Int) (s23 : Int) :
  SJ strconv_formatBits.cx [.code (c2 (c2 (c2 (c2 (c1 (c2 (c1 (c2 (c2 (c2 (c2 (c2 strconv_formatBits.B)))))))))))), .code (c2 (c2 (c2 (c2 (c2 (c2 strconv_formatBits.B))))))] [(0, Sl.v a0), (1, .int .u64 s22), (3, .bool a3), (4, .bool a4), (10, Sl.v Sl.nil), (11, .string ByteArray.empty), (12, .pointer (some (pt b3 0))), (13, .int .i64 s23)] [] (strconv_formatBits.K1 a3 a4 b3 s22 s23) strconv_formatBits.F0 := by
 unfold strconv_formatBits.K1
 refine SJ.sr 3 <| OJ.go 3 [(13, .int .i64 (IntKind.wrap .i64 (s23 - 1))), (59, .int .i64 (IntKind.wrap .i64 (s23 - 1))), (58, .int .i64 s23)] <| OJ.nil <| SJ.rg 5 <| OJ.go 2 [(61, .int .u64 s22), (60, .int .i64 (IntKind.wrap .i64 (s23 - 1)))] <| OJ.idxT (d := 62) (T := 9) (y := .const (.string str2)) (j := .tmp 61) (k := .u64) (fun hb29 hb30 => ?_)
 refine OJ.idxA (d := 63) (T := 158) (y := .tmp 12) (j := .tmp 60) (E := 5) (k := .i64) (fun p31 => ?_)
 refine OJ.st (y := .tmp 63) (z := .tmp 62) (owed := []) Ty5 ?_
 refine OW.nil <| OJ.nil <| SJ.seq <| SJ.sr 1 <| OJ.go 1 [(89, .bool a3)] <| OJ.nil <| SJ.cond (t := (.tmp 89)) (b := a3) Iff.rfl (fun hc35 => ?_) (fun hc35 => ?_)
 ·exact SJ.fail
 ·refine SJ.skip <| SJ.seq <| SJ.sr 1 <| OJ.go 1 [(94, .bool a4)] <| OJ.nil <| SJ.cond (t := (.tmp 94)) (b := a4) Iff.rfl (fun hc34 => ?_) (fun hc34 => ?_)
  ·exact SJ.fail
  ·refine SJ.skip <| SJ.sr 4 <| OJ.go 1 [(99, .int .i64 (IntKind.wrap .i64 (s23 - 1)))] <| OJ.cutA (d := 100) (t := 158) (E := 5) (y := .tmp 12) (lo := (some (.tmp 99))) (hi := none) (mx := none) (lo' := some (.i64, IntKind.wrap .i64 (s23 - 1))) (hi' := none) (mx' := none) (fun h => by cases h) (fun r32 => ?_)
   refine OJ.toStr (d := 101) (t := 51) (u := 9) (E := 5) (x := .tmp 100) (owed := []) (fun r33 => ?_)
   exact OW.nil <| OJ.go 1 [(11, .string r33)] <| OJ.nil <| SJ.r2 (Sl.v Sl.nil) (.string r33) rfl rfl
noncomputable def strconv_formatBits.F1 (a0 : Sl) (a2 : Int) (a3 : Bool) (a4 : Bool) (b3 : Nat) (r21 : Int) : (LS (Int × Int) (Sl × ByteArray)) → Reach := loopF [.inLoop (c1 (c1 (c1 (c2 (c2 (c2 (c1 (c2 (c1 (c2 (c2 (c2 (c2 (c2 strconv_formatBits.B)))))))))))))), .inBlock 0, .code (c2 (c2 (c2 (c2 (c1 (c2 (c1 (c2 (c2 (c2 (c2 (c2 strconv_formatBits.B)))))))))))), .code (c2 (c2 (c2 (c2 (c2 (c2 strconv_formatBits.B))))))] (fun s_ : (Int × Int) => [(0, Sl.v a0), (1, .int .u64 s_.1), (3, .bool a3), (4, .bool a4), (10, Sl.v Sl.nil), (11, .string ByteArray.empty), (12, .pointer (some (pt b3 0))), (13, .int .i64 s_.2), (14, .int .u64 (IntKind.wrap .u64 r21)), (15, .int .u64 (IntKind.wrap .u64 a2)), (16, .int .u64 (IntKind.wrap .u64 ((IntKind.wrap .u64 a2) - 1)))]) (fun s_ : (Int × Int) => []) strconv_formatBits.F0
noncomputable def strconv_formatBits.L1 (a2 : Int) (a3 : Bool) (a4 : Bool) (b3 : Nat) (r21 : Int) (s22 : Int) (s23 : Int) : M (LS (Int × Int) (Sl × ByteArray)) :=
 if s22 ≥ (IntKind.wrap .u64 a2) then
  chk ((0 : Int) ≤ (band .u64 s22 (IntKind.wrap .u64 ((IntKind.wrap .u64 a2) - 1))) ∧ (band .u64 s22 (IntKind.wrap .u64 ((IntKind.wrap .u64 a2) - 1))) < (str2.size : Int)) >>= fun _ =>
  idx (some (pt b3 0)) 65 (IntKind.wrap .i64 (s23 - 1)) 1 >>= fun p38 =>
  st (cI .u8) p38 (sb str2 (band .u64 s22 (IntKind.wrap .u64 ((IntKind.wrap .u64 a2) - 1)))) >>= fun _ =>
  chk (0 ≤ (IntKind.wrap .u64 r21)) >>= fun _ =>
  pure (LS.next (Int.fdiv s22 (2 ^ min (Int.toNat (IntKind.wrap .u64 r21)) 64), IntKind.wrap .i64 (s23 - 1)))
 else
  (strconv_formatBits.K1 a3 a4 b3 s22 s23) >>= fun b => pure (LS.done b)
theorem strconv_formatBits.L1_ok (a0 : Sl) (a2 : Int) (a3 : Bool) (a4 : Bool) (b3 : Nat) (r21 : Int) (s22 : Int) (s23 : Int) :
  SJ strconv_formatBits.cx [.code (c1 (c1 (c1 (c2 (c2 (c2 (c1 (c2 (c1 (c2 (c2 (c2 (c2 (c2 strconv_formatBits.B)))))))))))))), .inLoop (c1 (c1 (c1 (c2 (c2 (c2 (c1 (c2 (c1 (c2 (c2 (c2 (c2 (c2 strconv_formatBits.B)))))))))))))), .inBlock 0, .code (c2 (c2 (c2 (c2 (c1 (c2 (c1 (c2 (c2 (c2 (c2 (c2 strconv_formatBits.B)))))))))))), .code (c2 (c2 (c2 (c2 (c2 (c2 strconv_formatBits.B))))))] [(0, Sl.v a0), (1, .int .u64 s22), (3, .bool a3), (4, .bool a4), (10, Sl.v Sl.nil), (11, .string ByteArray.empty), (12, .pointer (some (pt b3 0))), (13, .int .i64 s23), (14, .int .u64 (IntKind.wrap .u64 r21)), (15, .int .u64 (IntKind.wrap .u64 a2)), (16, .int .u64 (IntKind.wrap .u64 ((IntKind.wrap .u64 a2) - 1)))] [] (strconv_formatBits.L1 a2 a3 a4 b3 r21 s22 s23) (strconv_formatBits.F1 a0 a2 a3 a4 b3 r21) := by
 unfold strconv_formatBits.L1
 refine SJ.seq <| SJ.sr 3 <| OJ.go 3 [(46, .bool (decide (s22 ≥ (IntKind.wrap .u64 a2)))), (45, .int .u64 (IntKind.wrap .u64 a2)), (44, .int .u64 s22)] <| OJ.nil <| SJ.cond (t := (.tmp 46)) (b := decide (s22 ≥ (IntKind.wrap .u64 a2))) decide_eq_true_iff (fun hc40 => ?_) (fun hc40 => ?_)
 ·refine SJ.skip <| SJ.block (id := 1) <| SJ.sr 3 <| OJ.go 3 [(13, .int .i64 (IntKind.wrap .i64 (s23 - 1))), (48, .int .i64 (IntKind.wrap .i64 (s23 - 1))), (47, .int .i64 s23)] <| OJ.nil <| SJ.sr 7 <| OJ.go 4 [(52, .int .u64 (band .u64 s22 (IntKind.wrap .u64 ((IntKind.wrap .u64 a2) - 1)))), (51, .int .u64 (IntKind.wrap .u64 ((IntKind.wrap .u64 a2) - 1))), (50, .int .u64 s22), (49, .int .i64 (IntKind.wrap .i64 (s23 - 1)))] <| OJ.idxT (d := 53) (T := 9) (y := .const (.string str2)) (j := .tmp 52) (k := .u64) (fun hb36 hb37 => ?_)
  refine OJ.idxA (d := 54) (T := 158) (y := .tmp 12) (j := .tmp 49) (E := 5) (k := .i64) (fun p38 => ?_)
  refine OJ.st (y := .tmp 54) (z := .tmp 53) (owed := []) Ty5 ?_
  refine OW.nil <| OJ.nil <| SJ.rg 4 <| OJ.go 2 [(56, .int .u64 (IntKind.wrap .u64 r21)), (55, .int .u64 s22)] <| OJ.shr (d := 57) (T := 140) (yT := 54) (y := .tmp 55) (z := .tmp 56) (k := .u64) (yk := .u64) (p := s22) (q := (IntKind.wrap .u64 r21)) (fun hq39 => ?_)
  exact OJ.go 1 [(1, .int .u64 (Int.fdiv s22 (2 ^ min (Int.toNat (IntKind.wrap .u64 r21)) 64)))] <| OJ.nil <| SJ.inBlock <| SJ.at_ [0, 1, 3, 4, 10, 11, 12, 13, 14, 15, 16] rfl
 ·refine SJ.exit (id := 0) (by rfl) <| SJ.less [0, 1, 3, 4, 10, 11, 12, 13] (m' := [(0, Sl.v a0), (1, .int .u64 s22), (3, .bool a3), (4, .bool a4), (10, Sl.v Sl.nil), (11, .string ByteArray.empty), (12, .pointer (some (pt b3 0))), (13, .int .i64 s23)]) ?_
  refine SJ.done ?_
  exact strconv_formatBits.K1_ok a0 a3 a4 b3 s22 s23
noncomputable def strconv_formatBits (a0 : Sl) (a1 : Int) (a2 : Int) (a3 : Bool) (a4 : Bool) : M (Sl × ByteArray) :=
 (if a2 < 2 then
   pure true
  else
   pure (a2 == 10)) >>= fun y1 =>
 (if y1 = true then
   pure true
  else
   pure (decide (a2 > 36))) >>= fun y2 =>
 if y2 = true then
  fail
 else
  newv 158 ((cI .u8).arr 65) (Vec.rep 65 0) >>= fun b3 =>
  if a3 = true then
   fail
  else
   strconv_isPowerOfTwo a2 >>= fun r4 =>
   if r4 = true then
    bits_TrailingZeros (IntKind.wrap .u64 a2) >>= fun r21 =>
    loopM (fun s_ : (Int × Int) => strconv_formatBits.L1 a2 a3 a4 b3 r21 s_.1 s_.2) (a1, 65)
   else
    fail
theorem strconv_formatBits_ok (a0 : Sl) (a1 : Int) (a2 : Int) (a3 : Bool) (a4 : Bool) : Ref Tryz.prog 93 [Sl.v a0, .int .u64 a1, .int .i64 a2, .bool a3, .bool a4] (strconv_formatBits a0 a1 a2 a3 a4) strconv_formatBits.out := by
 refine Ref.of (cd := strconv_formatBits.B) Tryz.func93 ?_
 show SJ strconv_formatBits.cx [.code strconv_formatBits.B] [(0, Sl.v a0), (1, .int .u64 a1), (2, .int .i64 a2), (3, .bool a3), (4, .bool a4)] [] (strconv_formatBits a0 a1 a2 a3 a4) strconv_formatBits.F0
 unfold strconv_formatBits
 refine SJ.sr 2 <| OJ.go 2 [(11, .string ByteArray.empty), (10, Sl.v Sl.nil)] <| OJ.nil <| SJ.seq <| SJ.sr 10 <| OJ.go 3 [(21, .bool (decide (a2 < 2))), (20, .bool (decide (a2 < 2))), (19, .int .i64 a2)] <| OJ.join (b := decide (a2 < 2)) [3, 4, 5] [6, 7, 8, 9] [0, 1, 2, 3, 4, 10, 11, 24] (fun y1 => [(0, Sl.v a0), (1, .int .u64 a1), (2, .int .i64 a2), (3, .bool a3), (4, .bool a4), (10, Sl.v Sl.nil), (11, .string ByteArray.empty), (24, .bool y1)]) [] [] (t := 21) decide_eq_true_iff (fun hp_ => ?_) (fun hp_ => ?_) (fun _ _ _ _ _ _ h_ => h_) (fun y1 => ?_)
 ·exact OJ.go 3 [(24, .bool true), (23, undef), (22, undef)] <| OJ.x0
 ·exact OJ.go 3 [(24, .bool (a2 == 10)), (23, .bool (a2 == 10)), (22, .int .i64 a2)] <| OJ.x0
 ·refine OJ.go 1 [(25, .bool y1)] <| OJ.join (b := y1) [7, 8, 9] [] [0, 1, 2, 3, 4, 10, 11, 28] (fun y2 => [(0, Sl.v a0), (1, .int .u64 a1), (2, .int .i64 a2), (3, .bool a3), (4, .bool a4), (10, Sl.v Sl.nil), (11, .string ByteArray.empty), (28, .bool y2)]) [] [] (t := 25) Iff.rfl (fun hp_ => ?_) (fun hp_ => ?_) (fun _ _ _ _ _ _ h_ => h_) (fun y2 => ?_)
  ·exact OJ.go 3 [(28, .bool true), (27, undef), (26, undef)] <| OJ.x0
  ·exact OJ.go 3 [(28, .bool (decide (a2 > 36))), (27, .bool (decide (a2 > 36))), (26, .int .i64 a2)] <| OJ.x0
  ·refine OJ.nil <| SJ.cond (t := (.tmp 28)) (b := y2) Iff.rfl (fun hc43 => ?_) (fun hc43 => ?_)
   ·exact SJ.rg 2 <| OJ.go 1 [(29, .iface 9 (.string str5))] <| OJ.fail
   ·refine SJ.skip <| SJ.sr 1 <| OJ.newOf (d := 12) (op := (.alloc 158)) (cd := ((cI .u8).arr 65)) (u := (Vec.rep 65 0)) (owed := []) (alloc_run Ty158) (fun b3 => ?_)
    refine OW.nil <| OJ.nil <| SJ.sr 1 <| OJ.go 1 [(13, .int .i64 65)] <| OJ.nil <| SJ.seq <| SJ.sr 1 <| OJ.go 1 [(30, .bool a3)] <| OJ.nil <| SJ.cond (t := (.tmp 30)) (b := a3) Iff.rfl (fun hc42 => ?_) (fun hc42 => ?_)
    ·exact SJ.fail
    ·refine SJ.skip <| SJ.seq <| SJ.sr 2 <| OJ.go 1 [(33, .int .i64 a2)] <| OJ.call (d := 34) (g := 109) (ats := #[3]) (args := [.tmp 33]) (owed := []) F109 (strconv_isPowerOfTwo_ok a2) (fun r4 => ?_)
     refine OW.nil <| OJ.nil <| SJ.cond (t := (.tmp 34)) (b := r4) Iff.rfl (fun hc41 => ?_) (fun hc41 => ?_)
     ·refine SJ.sr 5 <| OJ.go 2 [(36, .int .u64 (IntKind.wrap .u64 a2)), (35, .int .i64 a2)] <| OJ.call (d := 37) (g := 110) (ats := #[54]) (args := [.tmp 36]) (owed := []) F110 (bits_TrailingZeros_ok (IntKind.wrap .u64 a2)) (fun r21 => ?_)
      exact OW.nil <| OJ.go 2 [(14, .int .u64 (IntKind.wrap .u64 r21)), (38, .int .u64 (IntKind.wrap .u64 r21))] <| OJ.nil <| SJ.sr 3 <| OJ.go 3 [(15, .int .u64 (IntKind.wrap .u64 a2)), (40, .int .u64 (IntKind.wrap .u64 a2)), (39, .int .i64 a2)] <| OJ.nil <| SJ.sr 4 <| OJ.go 4 [(16, .int .u64 (IntKind.wrap .u64 ((IntKind.wrap .u64 a2) - 1))), (43, .int .u64 (IntKind.wrap .u64 ((IntKind.wrap .u64 a2) - 1))), (42, .int .u64 (IntKind.wrap .u64 a2)), (41, .int .i64 a2)] <| OJ.nil <| SJ.seq <| SJ.block (id := 0) <| SJ.loop (fun s_ : (Int × Int) => [(0, Sl.v a0), (1, .int .u64 s_.1), (3, .bool a3), (4, .bool a4), (10, Sl.v Sl.nil), (11, .string ByteArray.empty), (12, .pointer (some (pt b3 0))), (13, .int .i64 s_.2), (14, .int .u64 (IntKind.wrap .u64 r21)), (15, .int .u64 (IntKind.wrap .u64 a2)), (16, .int .u64 (IntKind.wrap .u64 ((IntKind.wrap .u64 a2) - 1)))]) (fun s_ : (Int × Int) => []) [0, 1, 3, 4, 10, 11, 12, 13, 14, 15, 16] rfl (fun _ _ => rfl) (fun s_ => strconv_formatBits.L1_ok a0 a2 a3 a4 b3 r21 s_.1 s_.2)
     ·exact SJ.fail

/-! ### internal/strconv.FormatInt: function 65 -/
noncomputable def strconv_FormatInt.B : Code := (Tryz.f65.body).getD .skip
noncomputable def strconv_FormatInt.cx : Fx := ⟨Tryz.prog, 65, Tryz.f65⟩
noncomputable def strconv_FormatInt.out (r_ : ByteArray) : Value := .string r_
noncomputable def strconv_FormatInt.F0 (r_ : ByteArray) : Reach := .ret (strconv_FormatInt.out r_)
noncomputable def strconv_FormatInt (a0 : Int) (a1 : Int) : M ByteArray :=
 if a1 = 10 then
  (if 0 ≤ a0 then
    pure (decide (a0 < 100))
   else
    pure false) >>= fun y13 =>
  if y13 = true then
   strconv_small a0 >>= fun r15 =>
   pure r15
  else
   newv 139 ((cI .u8).arr 24) (Vec.rep 24 0) >>= fun b16 =>
   if a0 < 0 then
    fail
   else
    strconv_numDigits (IntKind.wrap .u64 a0) >>= fun r17 =>
    cut 1 ⟨some (pt b16 0), 24, 24⟩ (some 1) (some (IntKind.wrap .i64 (1 + r17))) none >>= fun r18 =>
    strconv_formatBase10 r18 (IntKind.wrap .u64 a0) >>= fun r19 =>
    if a0 < 0 then
     fail
    else
     cut 1 ⟨some (pt b16 0), 24, 24⟩ (some 1) (some (IntKind.wrap .i64 (1 + r17))) none >>= fun r20 =>
     toStr r20 >>= fun r21 =>
     pure r21
 else
  strconv_formatBits Sl.nil (IntKind.wrap .u64 a0) a1 (decide (a0 < 0)) false >>= fun r25 =>
  pure r25.2
theorem strconv_FormatInt_ok (a0 : Int) (a1 : Int) : Ref Tryz.prog 65 [.int .i64 a0, .int .i64 a1] (strconv_FormatInt a0 a1) strconv_FormatInt.out := by
 refine Ref.of (cd := strconv_FormatInt.B) Tryz.func65 ?_
 show SJ strconv_FormatInt.cx [.code strconv_FormatInt.B] [(0, .int .i64 a0), (1, .int .i64 a1)] [] (strconv_FormatInt a0 a1) strconv_FormatInt.F0
 unfold strconv_FormatInt
 refine SJ.sr 1 <| OJ.go 1 [(4, .string ByteArray.empty)] <| OJ.nil <| SJ.seq <| SJ.sr 2 <| OJ.go 2 [(11, .bool (a1 == 10)), (10, .int .i64 a1)] <| OJ.nil <| SJ.cond (t := (.tmp 11)) (b := (a1 == 10)) beq_iff_eq (fun hc26 => ?_) (fun hc26 => ?_)
 ·refine SJ.seq <| SJ.sr 6 <| OJ.go 3 [(14, .bool (decide (0 ≤ a0))), (13, .bool (decide (0 ≤ a0))), (12, .int .i64 a0)] <| OJ.join (b := decide (0 ≤ a0)) [3, 4, 5] [] [0, 17] (fun y13 => [(0, .int .i64 a0), (17, .bool y13)]) [] [] (t := 14) decide_eq_true_iff (fun hp_ => ?_) (fun hp_ => ?_) (fun _ _ _ _ _ _ h_ => h_) (fun y13 => ?_)
  ·exact OJ.go 3 [(17, .bool (decide (a0 < 100))), (16, .bool (decide (a0 < 100))), (15, .int .i64 a0)] <| OJ.x0
  ·exact OJ.go 3 [(17, .bool false), (16, undef), (15, undef)] <| OJ.x0
  ·refine OJ.nil <| SJ.cond (t := (.tmp 17)) (b := y13) Iff.rfl (fun hc24 => ?_) (fun hc24 => ?_)
   ·refine SJ.sr 3 <| OJ.go 1 [(18, .int .i64 a0)] <| OJ.call (d := 19) (g := 90) (ats := #[3]) (args := [.tmp 18]) (owed := []) F90 (strconv_small_ok a0) (fun r15 => ?_)
    exact OW.nil <| OJ.go 1 [(4, .string r15)] <| OJ.nil <| SJ.r1 (.string r15) rfl rfl
   ·refine SJ.skip <| SJ.sr 1 <| OJ.newOf (d := 5) (op := (.alloc 139)) (cd := ((cI .u8).arr 24)) (u := (Vec.rep 24 0)) (owed := []) (alloc_run Ty139) (fun b16 => ?_)
    refine OW.nil <| OJ.nil <| SJ.sr 3 <| OJ.go 3 [(6, .int .u64 (IntKind.wrap .u64 a0)), (21, .int .u64 (IntKind.wrap .u64 a0)), (20, .int .i64 a0)] <| OJ.nil <| SJ.seq <| SJ.sr 2 <| OJ.go 2 [(23, .bool (decide (a0 < 0))), (22, .int .i64 a0)] <| OJ.nil <| SJ.cond (t := (.tmp 23)) (b := decide (a0 < 0)) decide_eq_true_iff (fun hc23 => ?_) (fun hc23 => ?_)
    ·exact SJ.fail
    ·refine SJ.skip <| SJ.sr 3 <| OJ.go 1 [(26, .int .u64 (IntKind.wrap .u64 a0))] <| OJ.call (d := 27) (g := 91) (ats := #[140]) (args := [.tmp 26]) (owed := []) F91 (strconv_numDigits_ok (IntKind.wrap .u64 a0)) (fun r17 => ?_)
     refine OW.nil <| OJ.go 1 [(7, .int .i64 r17)] <| OJ.nil <| SJ.sr 5 <| OJ.go 2 [(29, .int .i64 (IntKind.wrap .i64 (1 + r17))), (28, .int .i64 r17)] <| OJ.cutA (d := 30) (t := 139) (E := 5) (y := .tmp 5) (lo := (some (.const (.int .i64 1)))) (hi := (some (.tmp 29))) (mx := none) (lo' := some (.i64, 1)) (hi' := some (.i64, IntKind.wrap .i64 (1 + r17))) (mx' := none) (fun h => by cases h) (fun r18 => ?_)
     refine OJ.go 1 [(31, .int .u64 (IntKind.wrap .u64 a0))] <| OJ.call (d := 32) (g := 92) (ats := #[51, 140]) (args := [.tmp 30, .tmp 31]) (owed := []) F92 (strconv_formatBase10_ok r18 (IntKind.wrap .u64 a0)) (fun r19 => ?_)
     refine OW.nil <| OJ.nil <| SJ.seq <| SJ.sr 2 <| OJ.go 2 [(34, .bool (decide (a0 < 0))), (33, .int .i64 a0)] <| OJ.nil <| SJ.cond (t := (.tmp 34)) (b := decide (a0 < 0)) decide_eq_true_iff (fun hc22 => ?_) (fun hc22 => ?_)
     ·exact SJ.fail
     ·refine SJ.skip <| SJ.sr 5 <| OJ.go 2 [(41, .int .i64 (IntKind.wrap .i64 (1 + r17))), (40, .int .i64 r17)] <| OJ.cutA (d := 42) (t := 139) (E := 5) (y := .tmp 5) (lo := (some (.const (.int .i64 1)))) (hi := (some (.tmp 41))) (mx := none) (lo' := some (.i64, 1)) (hi' := some (.i64, IntKind.wrap .i64 (1 + r17))) (mx' := none) (fun h => by cases h) (fun r20 => ?_)
      refine OJ.toStr (d := 43) (t := 51) (u := 9) (E := 5) (x := .tmp 42) (owed := []) (fun r21 => ?_)
      exact OW.nil <| OJ.go 1 [(4, .string r21)] <| OJ.nil <| SJ.r1 (.string r21) rfl rfl
 ·refine SJ.skip <| SJ.sr 11 <| OJ.go 5 [(49, .bool (decide (a0 < 0))), (48, .int .i64 a0), (47, .int .i64 a1), (46, .int .u64 (IntKind.wrap .u64 a0)), (45, .int .i64 a0)] <| OJ.call (d := 50) (g := 93) (ats := #[51, 140, 3, 4, 4]) (args := [.const (.slice none 0 0), .tmp 46, .tmp 47, .tmp 49, .const (.bool false)]) (owed := []) F93 (strconv_formatBits_ok Sl.nil (IntKind.wrap .u64 a0) a1 (decide (a0 < 0)) false) (fun r25 => ?_)
  exact OW.nil <| OJ.go 5 [(9, .string r25.2), (8, Sl.v r25.1), (52, .string r25.2), (51, Sl.v r25.1), (44, .tuple #[Sl.v r25.1, .string r25.2])] <| OJ.nil <| SJ.sr 2 <| OJ.go 2 [(4, .string r25.2), (53, .string r25.2)] <| OJ.nil <| SJ.r1 (.string r25.2) rfl rfl

/-! ### internal/strconv.Itoa: function 61 -/
noncomputable def strconv_Itoa.B : Code := (Tryz.f61.body).getD .skip
noncomputable def strconv_Itoa.cx : Fx := ⟨Tryz.prog, 61, Tryz.f61⟩
noncomputable def strconv_Itoa.out (r_ : ByteArray) : Value := .string r_
noncomputable def strconv_Itoa.F0 (r_ : ByteArray) : Reach := .ret (strconv_Itoa.out r_)
noncomputable def strconv_Itoa (a0 : Int) : M ByteArray :=
 strconv_FormatInt a0 10 >>= fun r1 =>
 pure r1
theorem strconv_Itoa_ok (a0 : Int) : Ref Tryz.prog 61 [.int .i64 a0] (strconv_Itoa a0) strconv_Itoa.out := by
 refine Ref.of (cd := strconv_Itoa.B) Tryz.func61 ?_
 show SJ strconv_Itoa.cx [.code strconv_Itoa.B] [(0, .int .i64 a0)] [] (strconv_Itoa a0) strconv_Itoa.F0
 unfold strconv_Itoa
 refine SJ.sr 1 <| OJ.go 1 [(2, .string ByteArray.empty)] <| OJ.nil <| SJ.sr 3 <| OJ.go 1 [(3, .int .i64 a0)] <| OJ.call (d := 4) (g := 65) (ats := #[2, 3]) (args := [.tmp 3, .const (.int .i64 10)]) (owed := []) F65 (strconv_FormatInt_ok a0 10) (fun r1 => ?_)
 exact OW.nil <| OJ.go 1 [(2, .string r1)] <| OJ.nil <| SJ.r1 (.string r1) rfl rfl

/-! ### strconv.Itoa: function 33 -/
noncomputable def strconv_Itoa_.B : Code := (Tryz.f33.body).getD .skip
noncomputable def strconv_Itoa_.cx : Fx := ⟨Tryz.prog, 33, Tryz.f33⟩
noncomputable def strconv_Itoa_.out (r_ : ByteArray) : Value := .string r_
noncomputable def strconv_Itoa_.F0 (r_ : ByteArray) : Reach := .ret (strconv_Itoa_.out r_)
noncomputable def strconv_Itoa_ (a0 : Int) : M ByteArray :=
 strconv_Itoa a0 >>= fun r1 =>
 pure r1
theorem strconv_Itoa__ok (a0 : Int) : Ref Tryz.prog 33 [.int .i64 a0] (strconv_Itoa_ a0) strconv_Itoa_.out := by
 refine Ref.of (cd := strconv_Itoa_.B) Tryz.func33 ?_
 show SJ strconv_Itoa_.cx [.code strconv_Itoa_.B] [(0, .int .i64 a0)] [] (strconv_Itoa_ a0) strconv_Itoa_.F0
 unfold strconv_Itoa_
 refine SJ.sr 1 <| OJ.go 1 [(2, .string ByteArray.empty)] <| OJ.nil <| SJ.sr 3 <| OJ.go 1 [(3, .int .i64 a0)] <| OJ.call (d := 4) (g := 61) (ats := #[3]) (args := [.tmp 3]) (owed := []) F61 (strconv_Itoa_ok a0) (fun r1 => ?_)
 exact OW.nil <| OJ.go 1 [(2, .string r1)] <| OJ.nil <| SJ.r1 (.string r1) rfl rfl

/-! ### (*strings.Builder).copyCheck: function 88 -/
noncomputable def strings_Builder_copyCheck.B : Code := (Tryz.f88.body).getD .skip
noncomputable def strings_Builder_copyCheck.cx : Fx := ⟨Tryz.prog, 88, Tryz.f88⟩
noncomputable def strings_Builder_copyCheck.out (r_ : Unit) : Value := .tuple #[]
noncomputable def strings_Builder_copyCheck.F0 (r_ : Unit) : Reach := .ret (strings_Builder_copyCheck.out r_)
noncomputable def strings_Builder_copyCheck (a0 : (Option Addr)) : M Unit :=
 nilck a0 >>= fun p1 =>
 ld cP p1 >>= fun x2 =>
 if x2 = none then
  upOf a0 >>= fun r11 =>
  noesc r11 >>= fun r12 =>
  ptOf 113 2 r12 >>= fun r13 =>
  nilck a0 >>= fun p14 =>
  st cP p14 r13 >>= fun _ =>
  pure ()
 else
  nilck a0 >>= fun p15 =>
  ld cP p15 >>= fun x16 =>
  ptrEq x16 a0 >>= fun y17 =>
  if ¬ (y17 = true) then
   fail
  else
   pure ()
theorem strings_Builder_copyCheck_ok (a0 : (Option Addr)) : Ref Tryz.prog 88 [.pointer a0] (strings_Builder_copyCheck a0) strings_Builder_copyCheck.out := by
 refine Ref.of (cd := strings_Builder_copyCheck.B) Tryz.func88 ?_
 show SJ strings_Builder_copyCheck.cx [.code strings_Builder_copyCheck.B] [(0, .pointer a0)] [] (strings_Builder_copyCheck a0) strings_Builder_copyCheck.F0
 unfold strings_Builder_copyCheck
 refine SJ.sr 5 <| OJ.go 1 [(2, .pointer a0)] <| OJ.nilck (d := 3) (y := .tmp 2) (fun p1 => ?_)
 refine OJ.go 1 [(4, .pointer (some p1))] <| OJ.ld (d := 5) (y := .tmp 4) (pend2 := fun x2 => []) Ty111 (fun _ => rfl) (fun x2 => ?_)
 refine OJ.go 1 [(6, .bool (Option.isNone x2))] <| OJ.nil <| SJ.cond (t := (.tmp 6)) (b := (Option.isNone x2)) Option.isNone_iff_eq_none (fun hc19 => ?_) (fun hc19 => ?_)
 ·refine SJ.rg 8 <| OJ.go 2 [(8, .pointer a0), (7, .pointer a0)] <| OJ.upOf (d := 9) (t := 111) (u := 152) (E := 113) (x := .tmp 8) (p := a0) (owed := []) (fun r11 => ?_)
  refine OW.nil <| OJ.ext (d := 10) (g := 104) (ats := #[152]) (args := [.tmp 9]) (out := fun r => .pointer r) (owed := []) Tryz.func104 noesc_run (fun r12 => ?_)
  refine OW.nil <| OJ.ptOf (d := 11) (t := 111) (u := 152) (E := 113) (T := 113) (n := 2) (x := .tmp 10) (p := r12) (owed := []) (by kernel_rfl) (fun r13 => ?_)
  refine OW.nil <| OJ.nilck (d := 12) (y := .tmp 7) (fun p14 => ?_)
  refine OJ.go 1 [(13, .pointer (some p14))] <| OJ.st (y := .tmp 13) (z := .tmp 11) (owed := []) Ty111 ?_
  exact OW.nil <| OJ.nil <| SJ.end_ rfl (Res.run (ys := []) .nil rfl)
 ·refine SJ.sr 6 <| OJ.go 1 [(14, .pointer a0)] <| OJ.nilck (d := 15) (y := .tmp 14) (fun p15 => ?_)
  refine OJ.go 1 [(16, .pointer (some p15))] <| OJ.ld (d := 17) (y := .tmp 16) (pend2 := fun x16 => []) Ty111 (fun _ => rfl) (fun x16 => ?_)
  refine OJ.go 1 [(18, .pointer a0)] <| OJ.pneq (d := 19) (T := 111) (E := 113) (yT := 111) (y := .tmp 17) (z := .tmp 18) (p := x16) (q := a0) (fun y17 => ?_)
  refine OJ.nil <| SJ.cond (t := (.tmp 19)) (b := (!y17)) (bnot_iff Iff.rfl) (fun hc18 => ?_) (fun hc18 => ?_)
  ·exact SJ.fail
  ·exact SJ.skip <| SJ.end_ rfl (Res.run (ys := []) .nil rfl)

/-! ### (*strings.Builder).grow: function 89 -/
noncomputable def strings_Builder_grow.B : Code := (Tryz.f89.body).getD .skip
noncomputable def strings_Builder_grow.cx : Fx := ⟨Tryz.prog, 89, Tryz.f89⟩
noncomputable def strings_Builder_grow.out (r_ : Unit) : Value := .tuple #[]
noncomputable def strings_Builder_grow.F0 (r_ : Unit) : Reach := .ret (strings_Builder_grow.out r_)
noncomputable def strings_Builder_grow (a0 : (Option Addr)) (a1 : Int) : M Unit :=
 draw >>= fun _ =>
 nilck a0 >>= fun p1 =>
 ld cL (Addr.add p1 1) >>= fun x2 =>
 nilck a0 >>= fun p3 =>
 ld cL (Addr.add p3 1) >>= fun x4 =>
 mkNZ 5 (IntKind.wrap .i64 ((IntKind.wrap .i64 (2 * (x2.cap : Int))) + a1)) >>= fun r5 =>
 same cL (Addr.add p3 1) x4 >>= fun _ =>
 cut 1 r5 none (some (x4.len : Int)) none >>= fun r6 =>
 nilck a0 >>= fun p7 =>
 ld cL (Addr.add p7 1) >>= fun x8 =>
 cpyS (cI .u8) r6 x8 >>= fun r9 =>
 nilck a0 >>= fun p10 =>
 st cL (Addr.add p10 1) r6 >>= fun _ =>
 pure ()
theorem strings_Builder_grow_ok (a0 : (Option Addr)) (a1 : Int) : Ref Tryz.prog 89 [.pointer a0, .int .i64 a1] (strings_Builder_grow a0 a1) strings_Builder_grow.out := by
 refine Ref.of (cd := strings_Builder_grow.B) Tryz.func89 ?_
 show SJ strings_Builder_grow.cx [.code strings_Builder_grow.B] [(0, .pointer a0), (1, .int .i64 a1)] [] (strings_Builder_grow a0 a1) strings_Builder_grow.F0
 unfold strings_Builder_grow
 refine SJ.seq <| SJ.draw (id := 0) (kd := [0, 0, 0, 1, 0, 0, 0, 0, 2, 0, 0, 0, 1, 0, 0, 0]) (bef := [0, 1, 3, 7, 15, 31, 0, 127, 255, 0, 512, 1536, 3584, 7680, 16383, 32767]) (ord := [0, 1, 2, 3, 4, 5, 6, 7, 9, 10, 11, 12, 8, 13, 14, 15]) mixed ?_
 refine OJ.go 1 [(5, .pointer a0)] <| OJ.nilck (d := 6) (y := .tmp 5) (fun p1 => ?_)
 refine OJ.go 1 [(7, .pointer (some (Addr.add p1 1)))] <| OJ.ld (d := 8) (y := .tmp 7) (pend2 := fun x2 => [⟨3, 51, (Addr.add p1 1), cL.val x2⟩]) Ty51 (fun _ => rfl) (fun x2 => ?_)
 refine OJ.capS (d := 9) (so := .tmp 8) (t := 51) (E := 5) (s := x2) ?_
 refine OJ.go 4 [(14, .pointer a0), (12, .int .i64 (IntKind.wrap .i64 ((IntKind.wrap .i64 (2 * (x2.cap : Int))) + a1))), (11, .int .i64 a1), (10, .int .i64 (IntKind.wrap .i64 (2 * (x2.cap : Int))))] <| OJ.nilck (d := 15) (y := .tmp 14) (fun p3 => ?_)
 refine OJ.go 1 [(16, .pointer (some (Addr.add p3 1)))] <| OJ.ld (d := 17) (y := .tmp 16) (pend2 := fun x4 => [⟨12, 51, (Addr.add p3 1), cL.val x4⟩, ⟨3, 51, (Addr.add p1 1), cL.val x2⟩]) Ty51 (fun _ => rfl) (fun x4 => ?_)
 refine OJ.ext (d := 13) (g := 105) (ats := #[3]) (args := [.tmp 12]) (out := Sl.v) (owed := [⟨12, 51, (Addr.add p3 1), cL.val x4⟩]) Tryz.func105 (mkNZ_run (t := 51) (E := 5) (ps := #[3]) (by kernel_rfl)) (fun r5 => ?_)
 refine OW.same Ty51 ?_
 refine OW.nil <| OJ.go 1 [(18, .int .i64 (x4.len : Int))] <| OJ.cut (d := 19) (t := 51) (E := 5) (y := .tmp 13) (lo := none) (hi := (some (.tmp 18))) (mx := none) (lo' := none) (hi' := some (.i64, (x4.len : Int))) (mx' := none) (fun h => by cases h) (fun r6 => ?_)
 refine OJ.go 1 [(4, Sl.v r6)] <| OJ.nil <| SJ.sr 6 <| OJ.go 2 [(21, .pointer a0), (20, Sl.v r6)] <| OJ.nilck (d := 22) (y := .tmp 21) (fun p7 => ?_)
 refine OJ.go 1 [(23, .pointer (some (Addr.add p7 1)))] <| OJ.ld (d := 24) (y := .tmp 23) (pend2 := fun x8 => []) Ty51 (fun _ => rfl) (fun x8 => ?_)
 refine OJ.cpy1 (n := 25) (t := 51) (u := 51) (so := .tmp 20) (xo := .tmp 24) (owed := []) Ty5 (fun r9 => ?_)
 refine OW.nil <| OJ.nil <| SJ.rg 5 <| OJ.go 2 [(27, Sl.v r6), (26, .pointer a0)] <| OJ.nilck (d := 28) (y := .tmp 26) (fun p10 => ?_)
 refine OJ.go 1 [(29, .pointer (some (Addr.add p10 1)))] <| OJ.st (y := .tmp 29) (z := .tmp 27) (owed := []) Ty51 ?_
 exact OW.nil <| OJ.nil <| SJ.end_ rfl (Res.run (ys := []) .nil rfl)

/-! ### (*strings.Builder).Grow: function 62 -/
noncomputable def strings_Builder_Grow.B : Code := (Tryz.f62.body).getD .skip
noncomputable def strings_Builder_Grow.cx : Fx := ⟨Tryz.prog, 62, Tryz.f62⟩
noncomputable def strings_Builder_Grow.out (r_ : Unit) : Value := .tuple #[]
noncomputable def strings_Builder_Grow.F0 (r_ : Unit) : Reach := .ret (strings_Builder_Grow.out r_)
noncomputable def strings_Builder_Grow (a0 : (Option Addr)) (a1 : Int) : M Unit :=
 strings_Builder_copyCheck a0 >>= fun r1 =>
 if a1 < 0 then
  fail
 else
  draw >>= fun _ =>
  nilck a0 >>= fun p2 =>
  ld cL (Addr.add p2 1) >>= fun x3 =>
  nilck a0 >>= fun p4 =>
  ld cL (Addr.add p4 1) >>= fun x5 =>
  if (IntKind.wrap .i64 ((x3.cap : Int) - (x5.len : Int))) < a1 then
   strings_Builder_grow a0 a1 >>= fun r7 =>
   pure ()
  else
   pure ()
theorem strings_Builder_Grow_ok (a0 : (Option Addr)) (a1 : Int) : Ref Tryz.prog 62 [.pointer a0, .int .i64 a1] (strings_Builder_Grow a0 a1) strings_Builder_Grow.out := by
 refine Ref.of (cd := strings_Builder_Grow.B) Tryz.func62 ?_
 show SJ strings_Builder_Grow.cx [.code strings_Builder_Grow.B] [(0, .pointer a0), (1, .int .i64 a1)] [] (strings_Builder_Grow a0 a1) strings_Builder_Grow.F0
 unfold strings_Builder_Grow
 refine SJ.sr 2 <| OJ.go 1 [(4, .pointer a0)] <| OJ.call (d := 5) (g := 88) (ats := #[111]) (args := [.tmp 4]) (owed := []) F88 (strings_Builder_copyCheck_ok a0) (fun r1 => ?_)
 refine OW.nil <| OJ.nil <| SJ.seq <| SJ.sr 2 <| OJ.go 2 [(7, .bool (decide (a1 < 0))), (6, .int .i64 a1)] <| OJ.nil <| SJ.cond (t := (.tmp 7)) (b := decide (a1 < 0)) decide_eq_true_iff (fun hc9 => ?_) (fun hc9 => ?_)
 ·exact SJ.rg 2 <| OJ.go 1 [(8, .iface 9 (.string str6))] <| OJ.fail
 ·refine SJ.skip <| SJ.seq <| SJ.draw (id := 3) (kd := [0, 0, 0, 1, 0, 0, 0, 0, 1, 0, 0, 0, 0]) (bef := [0, 1, 3, 7, 15, 0, 32, 96, 224, 480, 1023, 0, 4095]) (ord := [0, 1, 2, 3, 4, 5, 6, 7, 8, 9, 10, 11, 12]) mixed ?_
  refine OJ.go 1 [(9, .pointer a0)] <| OJ.nilck (d := 10) (y := .tmp 9) (fun p2 => ?_)
  refine OJ.go 1 [(11, .pointer (some (Addr.add p2 1)))] <| OJ.ld (d := 12) (y := .tmp 11) (pend2 := fun x3 => [⟨3, 51, (Addr.add p2 1), cL.val x3⟩]) Ty51 (fun _ => rfl) (fun x3 => ?_)
  refine OJ.capS (d := 13) (so := .tmp 12) (t := 51) (E := 5) (s := x3) ?_
  refine OJ.go 1 [(14, .pointer a0)] <| OJ.nilck (d := 15) (y := .tmp 14) (fun p4 => ?_)
  refine OJ.go 1 [(16, .pointer (some (Addr.add p4 1)))] <| OJ.ld (d := 17) (y := .tmp 16) (pend2 := fun x5 => [⟨8, 51, (Addr.add p4 1), cL.val x5⟩, ⟨3, 51, (Addr.add p2 1), cL.val x3⟩]) Ty51 (fun _ => rfl) (fun x5 => ?_)
  refine OJ.go 4 [(21, .bool (decide ((IntKind.wrap .i64 ((x3.cap : Int) - (x5.len : Int))) < a1))), (20, .int .i64 a1), (19, .int .i64 (IntKind.wrap .i64 ((x3.cap : Int) - (x5.len : Int)))), (18, .int .i64 (x5.len : Int))] <| OJ.nil <| SJ.cond (t := (.tmp 21)) (b := decide ((IntKind.wrap .i64 ((x3.cap : Int) - (x5.len : Int))) < a1)) decide_eq_true_iff (fun hc8 => ?_) (fun hc8 => ?_)
  ·refine SJ.rg 3 <| OJ.go 2 [(23, .int .i64 a1), (22, .pointer a0)] <| OJ.call (d := 24) (g := 89) (ats := #[111, 3]) (args := [.tmp 22, .tmp 23]) (owed := []) F89 (strings_Builder_grow_ok a0 a1) (fun r7 => ?_)
   exact OW.nil <| OJ.nil <| SJ.end_ rfl (Res.run (ys := []) .nil rfl)
  ·exact SJ.skip <| SJ.end_ rfl (Res.run (ys := []) .nil rfl)

/-! ### (*strings.Builder).WriteString: function 63 -/
noncomputable def strings_Builder_WriteString.B : Code := (Tryz.f63.body).getD .skip
noncomputable def strings_Builder_WriteString.cx : Fx := ⟨Tryz.prog, 63, Tryz.f63⟩
noncomputable def strings_Builder_WriteString.out (r_ : (Int × Any)) : Value := .tuple #[.int .i64 r_.1, r_.2.v]
noncomputable def strings_Builder_WriteString.F0 (r_ : (Int × Any)) : Reach := .ret (strings_Builder_WriteString.out r_)
noncomputable def strings_Builder_WriteString (a0 : (Option Addr)) (a1 : ByteArray) : M (Int × Any) :=
 strings_Builder_copyCheck a0 >>= fun r1 =>
 nilck a0 >>= fun p2 =>
 ld cL (Addr.add p2 1) >>= fun x3 =>
 appl (cI .u8) 5 1 0 x3 (strI a1) >>= fun r4 =>
 nilck a0 >>= fun p5 =>
 st cL (Addr.add p5 1) r4 >>= fun _ =>
 pure ((a1.size : Int), (⟨.nilIface, rfl⟩ : Any))
theorem strings_Builder_WriteString_ok (a0 : (Option Addr)) (a1 : ByteArray) : Ref Tryz.prog 63 [.pointer a0, .string a1] (strings_Builder_WriteString a0 a1) strings_Builder_WriteString.out := by
 refine Ref.of (cd := strings_Builder_WriteString.B) Tryz.func63 ?_
 show SJ strings_Builder_WriteString.cx [.code strings_Builder_WriteString.B] [(0, .pointer a0), (1, .string a1)] [] (strings_Builder_WriteString a0 a1) strings_Builder_WriteString.F0
 unfold strings_Builder_WriteString
 refine SJ.sr 2 <| OJ.go 2 [(5, (⟨.nilIface, rfl⟩ : Any).v), (4, .int .i64 0)] <| OJ.nil <| SJ.sr 2 <| OJ.go 1 [(6, .pointer a0)] <| OJ.call (d := 7) (g := 88) (ats := #[111]) (args := [.tmp 6]) (owed := []) F88 (strings_Builder_copyCheck_ok a0) (fun r1 => ?_)
 refine OW.nil <| OJ.nil <| SJ.sr 10 <| OJ.go 2 [(9, .pointer a0), (8, .pointer a0)] <| OJ.nilck (d := 10) (y := .tmp 9) (fun p2 => ?_)
 refine OJ.go 1 [(11, .pointer (some (Addr.add p2 1)))] <| OJ.ld (d := 12) (y := .tmp 11) (pend2 := fun x3 => []) Ty51 (fun _ => rfl) (fun x3 => ?_)
 refine OJ.go 1 [(13, .string a1)] <| OJ.appT (d := 14) (t := 51) (u := 9) (so := .tmp 12) (xo := .tmp 13) (y := a1) (owed := []) Ty5 (fun r4 => ?_)
 refine OW.nil <| OJ.nilck (d := 15) (y := .tmp 8) (fun p5 => ?_)
 refine OJ.go 1 [(16, .pointer (some (Addr.add p5 1)))] <| OJ.st (y := .tmp 16) (z := .tmp 14) (owed := []) Ty51 ?_
 exact OW.nil <| OJ.nil <| SJ.sr 4 <| OJ.go 4 [(5, (⟨.nilIface, rfl⟩ : Any).v), (4, .int .i64 (a1.size : Int)), (18, .int .i64 (a1.size : Int)), (17, .string a1)] <| OJ.nil <| SJ.r2 (.int .i64 (a1.size : Int)) ((⟨.nilIface, rfl⟩ : Any).v) rfl rfl

/-! ### (*strings.Builder).String: function 64 -/
noncomputable def strings_Builder_String.B : Code := (Tryz.f64.body).getD .skip
noncomputable def strings_Builder_String.cx : Fx := ⟨Tryz.prog, 64, Tryz.f64⟩
noncomputable def strings_Builder_String.out (r_ : ByteArray) : Value := .string r_
noncomputable def strings_Builder_String.F0 (r_ : ByteArray) : Reach := .ret (strings_Builder_String.out r_)
noncomputable def strings_Builder_String (a0 : (Option Addr)) : M ByteArray :=
 draw >>= fun _ =>
 nilck a0 >>= fun p1 =>
 ld cL (Addr.add p1 1) >>= fun x2 =>
 nilck a0 >>= fun p3 =>
 ld cL (Addr.add p3 1) >>= fun x4 =>
 sdata x2 >>= fun r5 =>
 same cL (Addr.add p3 1) x4 >>= fun _ =>
 ustr 5 r5 (x4.len : Int) >>= fun r6 =>
 pure r6
theorem strings_Builder_String_ok (a0 : (Option Addr)) : Ref Tryz.prog 64 [.pointer a0] (strings_Builder_String a0) strings_Builder_String.out := by
 refine Ref.of (cd := strings_Builder_String.B) Tryz.func64 ?_
 show SJ strings_Builder_String.cx [.code strings_Builder_String.B] [(0, .pointer a0)] [] (strings_Builder_String a0) strings_Builder_String.F0
 unfold strings_Builder_String
 refine SJ.sr 1 <| OJ.go 1 [(2, .string ByteArray.empty)] <| OJ.nil <| SJ.seq <| SJ.draw (id := 1) (kd := [0, 0, 0, 1, 2, 0, 0, 0, 1, 0, 2, 0]) (bef := [0, 1, 3, 7, 15, 0, 32, 96, 224, 480, 1023, 2047]) (ord := [0, 1, 2, 3, 5, 6, 7, 8, 4, 9, 10, 11]) mixed ?_
 refine OJ.go 1 [(3, .pointer a0)] <| OJ.nilck (d := 4) (y := .tmp 3) (fun p1 => ?_)
 refine OJ.go 1 [(5, .pointer (some (Addr.add p1 1)))] <| OJ.ld (d := 6) (y := .tmp 5) (pend2 := fun x2 => [⟨3, 51, (Addr.add p1 1), cL.val x2⟩]) Ty51 (fun _ => rfl) (fun x2 => ?_)
 refine OJ.go 1 [(8, .pointer a0)] <| OJ.nilck (d := 9) (y := .tmp 8) (fun p3 => ?_)
 refine OJ.go 1 [(10, .pointer (some (Addr.add p3 1)))] <| OJ.ld (d := 11) (y := .tmp 10) (pend2 := fun x4 => [⟨8, 51, (Addr.add p3 1), cL.val x4⟩, ⟨3, 51, (Addr.add p1 1), cL.val x2⟩]) Ty51 (fun _ => rfl) (fun x4 => ?_)
 refine OJ.sdata (d := 7) (t := 51) (x := .tmp 6) (s := x2) (owed := [⟨8, 51, (Addr.add p3 1), cL.val x4⟩]) (fun r5 => ?_)
 refine OW.same Ty51 ?_
 refine OW.nil <| OJ.go 1 [(12, .int .i64 (x4.len : Int))] <| OJ.ustr (d := 13) (t := 138) (t2 := 3) (E := 5) (x := .tmp 7) (y := .tmp 12) (p := r5) (n := (x4.len : Int)) (owed := []) (fun r6 => ?_)
 exact OW.nil <| OJ.go 1 [(2, .string r6)] <| OJ.nil <| SJ.r1 (.string r6) rfl rfl

/-! ### strings.Join: function 34 -/
noncomputable def strings_Join.B : Code := (Tryz.f34.body).getD .skip
noncomputable def strings_Join.cx : Fx := ⟨Tryz.prog, 34, Tryz.f34⟩
noncomputable def strings_Join.out (r_ : ByteArray) : Value := .string r_
noncomputable def strings_Join.F0 (r_ : ByteArray) : Reach := .ret (strings_Join.out r_)
noncomputable def strings_Join.F1 (a1 : ByteArray) (b19 : Nat) (r24 : Sl) : (LS Int ByteArray) → Reach := loopF [.inLoop (c1 (c1 (c2 (c1 (c2 (c2 (c2 (c2 (c2 (c2 (c2 (c2 strings_Join.B)))))))))))), .inBlock 3, .code (c2 (c2 (c2 (c2 (c2 (c2 (c2 (c2 (c2 strings_Join.B)))))))))] (fun s_ : Int => [(1, .string a1), (8, .pointer (some (pt b19 0))), (63, Sl.v r24), (64, .int .i64 (r24.len : Int)), (65, .int .i64 s_)]) (fun s_ : Int => []) strings_Join.F0
noncomputable def strings_Join.L1 (a1 : ByteArray) (b19 : Nat) (r24 : Sl) (s25 : Int) : M (LS Int ByteArray) :=
 if s25 < (r24.len : Int) then
  idx r24.a r24.len s25 1 >>= fun p32 =>
  ld cS p32 >>= fun x33 =>
  strings_Builder_WriteString (some (pt b19 0)) a1 >>= fun r34 =>
  strings_Builder_WriteString (some (pt b19 0)) x33 >>= fun r35 =>
  pure (LS.next (IntKind.wrap .i64 (s25 + 1)))
 else
  strings_Builder_String (some (pt b19 0)) >>= fun r36 =>
  pure (LS.done r36)
theorem strings_Join.L1_ok (a1 : ByteArray) (b19 : Nat) (r24 : Sl) (s25 : Int) :
  SJ strings_Join.cx [.code (c1 (c1 (c2 (c1 (c2 (c2 (c2 (c2 (c2 (c2 (c2 (c2 strings_Join.B)))))))))))), .inLoop (c1 (c1 (c2 (c1 (c2 (c2 (c2 (c2 (c2 (c2 (c2 (c2 strings_Join.B)))))))))))), .inBlock 3, .code (c2 (c2 (c2 (c2 (c2 (c2 (c2 (c2 (c2 strings_Join.B)))))))))] [(1, .string a1), (8, .pointer (some (pt b19 0))), (63, Sl.v r24), (64, .int .i64 (r24.len : Int)), (65, .int .i64 s25)] [] (strings_Join.L1 a1 b19 r24 s25) (strings_Join.F1 a1 b19 r24) := by
 unfold strings_Join.L1
 refine SJ.sr 1 <| OJ.go 1 [(66, .bool (decide (s25 < (r24.len : Int))))] <| OJ.nil <| SJ.seq <| SJ.cond (t := (.tmp 66)) (b := decide (s25 < (r24.len : Int))) decide_eq_true_iff (fun hc37 => ?_) (fun hc37 => ?_)
 ·refine SJ.skip <| SJ.seq <| SJ.block (id := 4) <| SJ.sr 3 <| OJ.idxS (d := 67) (T := 80) (y := .tmp 63) (j := .tmp 65) (E := 9) (cap := r24.cap) (k := .i64) (fun p32 => ?_)
  refine OJ.ld (d := 68) (y := .tmp 67) (pend2 := fun x33 => []) Ty9 (fun _ => rfl) (fun x33 => ?_)
  refine OJ.go 1 [(10, .string x33)] <| OJ.nil <| SJ.sr 2 <| OJ.go 1 [(69, .string a1)] <| OJ.call (d := 70) (g := 63) (ats := #[113, 9]) (args := [.tmp 8, .tmp 69]) (owed := []) F63 (strings_Builder_WriteString_ok (some (pt b19 0)) a1) (fun r34 => ?_)
  refine OW.nil <| OJ.nil <| SJ.rg 2 <| OJ.go 1 [(71, .string x33)] <| OJ.call (d := 72) (g := 63) (ats := #[113, 9]) (args := [.tmp 8, .tmp 71]) (owed := []) F63 (strings_Builder_WriteString_ok (some (pt b19 0)) x33) (fun r35 => ?_)
  exact OW.nil <| OJ.nil <| SJ.inBlock <| SJ.rg 2 <| OJ.go 2 [(65, .int .i64 (IntKind.wrap .i64 (s25 + 1))), (73, .int .i64 (IntKind.wrap .i64 (s25 + 1)))] <| OJ.nil <| SJ.at_ [1, 8, 63, 64, 65] rfl
 ·refine SJ.exit (id := 3) (by rfl) <| SJ.sr 2 <| OJ.call (d := 74) (g := 64) (ats := #[113]) (args := [.tmp 8]) (owed := []) F64 (strings_Builder_String_ok (some (pt b19 0))) (fun r36 => ?_)
  exact OW.nil <| OJ.go 1 [(4, .string r36)] <| OJ.nil <| SJ.r1 (.string r36) rfl rfl
noncomputable def strings_Join.K1 (a0 : Sl) (a1 : ByteArray) (s13 : Int) : M ByteArray :=
 newv 113 c_strings_Builder z_strings_Builder >>= fun b19 =>
 strings_Builder_Grow (some (pt b19 0)) s13 >>= fun r20 =>
 idx a0.a a0.len 0 1 >>= fun p21 =>
 ld cS p21 >>= fun x22 =>
 strings_Builder_WriteString (some (pt b19 0)) x22 >>= fun r23 =>
 cut 1 a0 (some 1) none none >>= fun r24 =>
 loopM (fun s_ : Int => strings_Join.L1 a1 b19 r24 s_) 0
theorem strings_Join.K1_ok (a0 : Sl) (a1 : ByteArray) (s13 : Int) :
  SJ strings_Join.cx [.code (c2 (c2 (c2 (c2 (c2 strings_Join.B)))))] [(0, Sl.v a0), (1, .string a1), (5, .int .i64 s13)] [] (strings_Join.K1 a0 a1 s13) strings_Join.F0 := by
 unfold strings_Join.K1
 refine SJ.sr 1 <| OJ.newOf (d := 8) (op := (.alloc 113)) (cd := c_strings_Builder) (u := z_strings_Builder) (owed := []) (alloc_run Ty113) (fun b19 => ?_)
 refine OW.nil <| OJ.nil <| SJ.sr 2 <| OJ.go 1 [(56, .int .i64 s13)] <| OJ.call (d := 57) (g := 62) (ats := #[113, 3]) (args := [.tmp 8, .tmp 56]) (owed := []) F62 (strings_Builder_Grow_ok (some (pt b19 0)) s13) (fun r20 => ?_)
 refine OW.nil <| OJ.nil <| SJ.sr 4 <| OJ.go 1 [(58, Sl.v a0)] <| OJ.idxS (d := 59) (T := 80) (y := .tmp 58) (j := .const (.int .i64 0)) (E := 9) (cap := a0.cap) (k := .i64) (fun p21 => ?_)
 refine OJ.ld (d := 60) (y := .tmp 59) (pend2 := fun x22 => []) Ty9 (fun _ => rfl) (fun x22 => ?_)
 refine OJ.call (d := 61) (g := 63) (ats := #[113, 9]) (args := [.tmp 8, .tmp 60]) (owed := []) F63 (strings_Builder_WriteString_ok (some (pt b19 0)) x22) (fun r23 => ?_)
 refine OW.nil <| OJ.nil <| SJ.seq <| SJ.sr 4 <| OJ.go 1 [(62, Sl.v a0)] <| OJ.cut (d := 63) (t := 80) (E := 9) (y := .tmp 62) (lo := (some (.const (.int .i64 1)))) (hi := none) (mx := none) (lo' := some (.i64, 1)) (hi' := none) (mx' := none) (fun h => by cases h) (fun r24 => ?_)
 exact OJ.go 2 [(65, .int .i64 0), (64, .int .i64 (r24.len : Int))] <| OJ.nil <| SJ.block (id := 3) <| SJ.loop (fun s_ : Int => [(1, .string a1), (8, .pointer (some (pt b19 0))), (63, Sl.v r24), (64, .int .i64 (r24.len : Int)), (65, .int .i64 s_)]) (fun s_ : Int => []) [1, 8, 63, 64, 65] rfl (fun _ _ => rfl) (fun s_ => strings_Join.L1_ok a1 b19 r24 s_)
noncomputable def strings_Join.F2 (a0 : Sl) (a1 : ByteArray) : (LS (Int × Int) ByteArray) → Reach := loopF [.inLoop (c1 (c1 (c2 (c1 (c2 (c2 (c2 (c2 strings_Join.B)))))))), .inBlock 1, .code (c2 (c2 (c2 (c2 (c2 strings_Join.B)))))] (fun s_ : (Int × Int) => [(0, Sl.v a0), (1, .string a1), (5, .int .i64 s_.1), (39, Sl.v a0), (40, .int .i64 (a0.len : Int)), (41, .int .i64 s_.2)]) (fun s_ : (Int × Int) => []) strings_Join.F0
noncomputable def strings_Join.L2 (a0 : Sl) (a1 : ByteArray) (s13 : Int) (s14 : Int) : M (LS (Int × Int) ByteArray) :=
 if s14 < (a0.len : Int) then
  idx a0.a a0.len s14 1 >>= fun p38 =>
  ld cS p38 >>= fun x39 =>
  if (x39.size : Int) > (IntKind.wrap .i64 (9223372036854775807 - s13)) then
   fail
  else
   pure (LS.next (IntKind.wrap .i64 (s13 + (x39.size : Int)), IntKind.wrap .i64 (s14 + 1)))
 else
  (strings_Join.K1 a0 a1 s13) >>= fun b => pure (LS.done b)
theorem strings_Join.L2_ok (a0 : Sl) (a1 : ByteArray) (s13 : Int) (s14 : Int) :
  SJ strings_Join.cx [.code (c1 (c1 (c2 (c1 (c2 (c2 (c2 (c2 strings_Join.B)))))))), .inLoop (c1 (c1 (c2 (c1 (c2 (c2 (c2 (c2 strings_Join.B)))))))), .inBlock 1, .code (c2 (c2 (c2 (c2 (c2 strings_Join.B)))))] [(0, Sl.v a0), (1, .string a1), (5, .int .i64 s13), (39, Sl.v a0), (40, .int .i64 (a0.len : Int)), (41, .int .i64 s14)] [] (strings_Join.L2 a0 a1 s13 s14) (strings_Join.F2 a0 a1) := by
 unfold strings_Join.L2
 refine SJ.sr 1 <| OJ.go 1 [(42, .bool (decide (s14 < (a0.len : Int))))] <| OJ.nil <| SJ.seq <| SJ.cond (t := (.tmp 42)) (b := decide (s14 < (a0.len : Int))) decide_eq_true_iff (fun hc41 => ?_) (fun hc41 => ?_)
 ·refine SJ.skip <| SJ.seq <| SJ.block (id := 2) <| SJ.sr 3 <| OJ.idxS (d := 43) (T := 80) (y := .tmp 39) (j := .tmp 41) (E := 9) (cap := a0.cap) (k := .i64) (fun p38 => ?_)
  refine OJ.ld (d := 44) (y := .tmp 43) (pend2 := fun x39 => []) Ty9 (fun _ => rfl) (fun x39 => ?_)
  refine OJ.go 1 [(7, .string x39)] <| OJ.nil <| SJ.seq <| SJ.sr 5 <| OJ.go 5 [(49, .bool (decide ((x39.size : Int) > (IntKind.wrap .i64 (9223372036854775807 - s13))))), (48, .int .i64 (IntKind.wrap .i64 (9223372036854775807 - s13))), (47, .int .i64 s13), (46, .int .i64 (x39.size : Int)), (45, .string x39)] <| OJ.nil <| SJ.cond (t := (.tmp 49)) (b := decide ((x39.size : Int) > (IntKind.wrap .i64 (9223372036854775807 - s13)))) decide_eq_true_iff (fun hc40 => ?_) (fun hc40 => ?_)
  ·exact SJ.rg 2 <| OJ.go 1 [(50, .iface 9 (.string str7))] <| OJ.fail
  ·exact SJ.skip <| SJ.rg 5 <| OJ.go 5 [(5, .int .i64 (IntKind.wrap .i64 (s13 + (x39.size : Int)))), (54, .int .i64 (IntKind.wrap .i64 (s13 + (x39.size : Int)))), (53, .int .i64 (x39.size : Int)), (52, .string x39), (51, .int .i64 s13)] <| OJ.nil <| SJ.inBlock <| SJ.rg 2 <| OJ.go 2 [(41, .int .i64 (IntKind.wrap .i64 (s14 + 1))), (55, .int .i64 (IntKind.wrap .i64 (s14 + 1)))] <| OJ.nil <| SJ.at_ [0, 1, 5, 39, 40, 41] rfl
 ·refine SJ.exit (id := 1) (by rfl) <| SJ.less [0, 1, 5] (m' := [(0, Sl.v a0), (1, .string a1), (5, .int .i64 s13)]) ?_
  refine SJ.done ?_
  exact strings_Join.K1_ok a0 a1 s13
noncomputable def strings_Join.K2 (a0 : Sl) (a1 : ByteArray) (j12 : Int) : M ByteArray :=
 loopM (fun s_ : (Int × Int) => strings_Join.L2 a0 a1 s_.1 s_.2) (j12, 0)
theorem strings_Join.K2_ok (a0 : Sl) (a1 : ByteArray) (j12 : Int) :
  SJ strings_Join.cx [.code (c2 (c2 (c2 (c2 strings_Join.B))))] [(0, Sl.v a0), (1, .string a1), (5, .int .i64 j12)] [] (strings_Join.K2 a0 a1 j12) strings_Join.F0 := by
 unfold strings_Join.K2
 exact SJ.seq <| SJ.sr 3 <| OJ.go 3 [(41, .int .i64 0), (40, .int .i64 (a0.len : Int)), (39, Sl.v a0)] <| OJ.nil <| SJ.block (id := 1) <| SJ.loop (fun s_ : (Int × Int) => [(0, Sl.v a0), (1, .string a1), (5, .int .i64 s_.1), (39, Sl.v a0), (40, .int .i64 (a0.len : Int)), (41, .int .i64 s_.2)]) (fun s_ : (Int × Int) => []) [0, 1, 5, 39, 40, 41] rfl (fun _ _ => rfl) (fun s_ => strings_Join.L2_ok a0 a1 s_.1 s_.2)
noncomputable def strings_Join (a0 : Sl) (a1 : ByteArray) : M ByteArray :=
 if (a0.len : Int) = 0 then
  pure ByteArray.empty
 else
  if (a0.len : Int) = 1 then
   idx a0.a a0.len 0 1 >>= fun p8 =>
   ld cS p8 >>= fun x9 =>
   pure x9
  else
   if (a1.size : Int) > 0 then
    chk ((IntKind.wrap .i64 ((a0.len : Int) - 1)) ≠ 0) >>= fun _ =>
    if (a1.size : Int) ≥ (IntKind.wrap .i64 (Int.tdiv 9223372036854775807 (IntKind.wrap .i64 ((a0.len : Int) - 1)))) then
     fail
    else
     strings_Join.K2 a0 a1 (IntKind.wrap .i64 (0 + (IntKind.wrap .i64 ((a1.size : Int) * (IntKind.wrap .i64 ((a0.len : Int) - 1))))))
   else
    strings_Join.K2 a0 a1 0
theorem strings_Join_ok (a0 : Sl) (a1 : ByteArray) : Ref Tryz.prog 34 [Sl.v a0, .string a1] (strings_Join a0 a1) strings_Join.out := by
 refine Ref.of (cd := strings_Join.B) Tryz.func34 ?_
 show SJ strings_Join.cx [.code strings_Join.B] [(0, Sl.v a0), (1, .string a1)] [] (strings_Join a0 a1) strings_Join.F0
 unfold strings_Join
 refine SJ.sr 1 <| OJ.go 1 [(4, .string ByteArray.empty)] <| OJ.nil <| SJ.seq <| SJ.sr 2 <| OJ.go 2 [(12, .int .i64 (a0.len : Int)), (11, Sl.v a0)] <| OJ.nil <| SJ.block (id := 0) <| SJ.sr 2 <| OJ.go 2 [(13, .bool ((a0.len : Int) == 0)), (14, .bool ((a0.len : Int) == 0))] <| OJ.nil <| SJ.cond (t := (.tmp 13)) (b := ((a0.len : Int) == 0)) beq_iff_eq (fun hc46 => ?_) (fun hc46 => ?_)
 ·exact SJ.sr 1 <| OJ.go 1 [(4, .string ByteArray.empty)] <| OJ.nil <| SJ.r1 (.string ByteArray.empty) rfl rfl
 ·refine SJ.sr 2 <| OJ.go 2 [(15, .bool ((a0.len : Int) == 1)), (16, .bool ((a0.len : Int) == 1))] <| OJ.nil <| SJ.cond (t := (.tmp 15)) (b := ((a0.len : Int) == 1)) beq_iff_eq (fun hc45 => ?_) (fun hc45 => ?_)
  ·refine SJ.sr 4 <| OJ.go 1 [(17, Sl.v a0)] <| OJ.idxS (d := 18) (T := 80) (y := .tmp 17) (j := .const (.int .i64 0)) (E := 9) (cap := a0.cap) (k := .i64) (fun p8 => ?_)
   refine OJ.ld (d := 19) (y := .tmp 18) (pend2 := fun x9 => []) Ty9 (fun _ => rfl) (fun x9 => ?_)
   exact OJ.go 1 [(4, .string x9)] <| OJ.nil <| SJ.r1 (.string x9) rfl rfl
  ·refine SJ.skip <| SJ.inBlock <| SJ.sr 1 <| OJ.go 1 [(5, .int .i64 0)] <| OJ.nil <| SJ.seq <| SJ.sr 3 <| OJ.go 3 [(22, .bool (decide ((a1.size : Int) > 0))), (21, .int .i64 (a1.size : Int)), (20, .string a1)] <| OJ.nil <| SJ.cond (t := (.tmp 22)) (b := decide ((a1.size : Int) > 0)) decide_eq_true_iff (fun hc44 => ?_) (fun hc44 => ?_)
   ·refine SJ.seq <| SJ.sr 7 <| OJ.go 5 [(27, .int .i64 (IntKind.wrap .i64 ((a0.len : Int) - 1))), (26, .int .i64 (a0.len : Int)), (25, Sl.v a0), (24, .int .i64 (a1.size : Int)), (23, .string a1)] <| OJ.quo (d := 28) (T := 3) (yT := 3) (y := .const (.int .i64 9223372036854775807)) (z := .tmp 27) (p := 9223372036854775807) (q := (IntKind.wrap .i64 ((a0.len : Int) - 1))) (k := .i64) (fun hq43 => ?_)
    refine OJ.go 1 [(29, .bool (decide ((a1.size : Int) ≥ (IntKind.wrap .i64 (Int.tdiv 9223372036854775807 (IntKind.wrap .i64 ((a0.len : Int) - 1)))))))] <| OJ.nil <| SJ.cond (t := (.tmp 29)) (b := decide ((a1.size : Int) ≥ (IntKind.wrap .i64 (Int.tdiv 9223372036854775807 (IntKind.wrap .i64 ((a0.len : Int) - 1)))))) decide_eq_true_iff (fun hc42 => ?_) (fun hc42 => ?_)
    ·exact SJ.rg 2 <| OJ.go 1 [(30, .iface 9 (.string str7))] <| OJ.fail
    ·refine SJ.skip <| SJ.rg 9 <| OJ.go 9 [(5, .int .i64 (IntKind.wrap .i64 (0 + (IntKind.wrap .i64 ((a1.size : Int) * (IntKind.wrap .i64 ((a0.len : Int) - 1))))))), (38, .int .i64 (IntKind.wrap .i64 (0 + (IntKind.wrap .i64 ((a1.size : Int) * (IntKind.wrap .i64 ((a0.len : Int) - 1))))))), (37, .int .i64 (IntKind.wrap .i64 ((a1.size : Int) * (IntKind.wrap .i64 ((a0.len : Int) - 1))))), (36, .int .i64 (IntKind.wrap .i64 ((a0.len : Int) - 1))), (35, .int .i64 (a0.len : Int)), (34, Sl.v a0), (33, .int .i64 (a1.size : Int)), (32, .string a1), (31, .int .i64 0)] <| OJ.nil <| SJ.less [0, 1, 5] (m' := [(0, Sl.v a0), (1, .string a1), (5, .int .i64 (IntKind.wrap .i64 (0 + (IntKind.wrap .i64 ((a1.size : Int) * (IntKind.wrap .i64 ((a0.len : Int) - 1)))))))]) ?_
     exact strings_Join.K2_ok a0 a1 (IntKind.wrap .i64 (0 + (IntKind.wrap .i64 ((a1.size : Int) * (IntKind.wrap .i64 ((a0.len : Int) - 1))))))
   ·refine SJ.skip <| SJ.less [0, 1, 5] (m' := [(0, Sl.v a0), (1, .string a1), (5, .int .i64 0)]) ?_
    exact strings_Join.K2_ok a0 a1 0

/-! ### weir/addr.dotted: function 17 -/
noncomputable def addr_dotted.B : Code := (Tryz.f17.body).getD .skip
noncomputable def addr_dotted.cx : Fx := ⟨Tryz.prog, 17, Tryz.f17⟩
noncomputable def addr_dotted.out (r_ : ByteArray) : Value := .string r_
noncomputable def addr_dotted.F0 (r_ : ByteArray) : Reach := .ret (addr_dotted.out r_)
noncomputable def addr_dotted.F1 (a0 : Sl) : (LS (Sl × Int) ByteArray) → Reach := loopF [.inLoop (c1 (c1 (c2 (c1 (c2 (c2 addr_dotted.B)))))), .inBlock 0, .code (c2 (c2 (c2 addr_dotted.B)))] (fun s_ : (Sl × Int) => [(3, Sl.v s_.1), (6, Sl.v a0), (7, .int .i64 (a0.len : Int)), (8, .int .i64 s_.2)]) (fun s_ : (Sl × Int) => []) addr_dotted.F0
noncomputable def addr_dotted.L1 (a0 : Sl) (s1 : Sl) (s2 : Int) : M (LS (Sl × Int) ByteArray) :=
 if s2 < (a0.len : Int) then
  idx a0.a a0.len s2 1 >>= fun p10 =>
  ld (cI .u8) p10 >>= fun x11 =>
  strconv_Itoa_ (IntKind.wrap .i64 x11) >>= fun r12 =>
  slot 9 >>= fun b13 =>
  appl cS 9 16 ByteArray.empty s1 [r12] >>= fun r14 =>
  pure (LS.next (r14, IntKind.wrap .i64 (s2 + 1)))
 else
  strings_Join s1 str8 >>= fun r15 =>
  pure (LS.done r15)
theorem addr_dotted.L1_ok (a0 : Sl) (s1 : Sl) (s2 : Int) :
  SJ addr_dotted.cx [.code (c1 (c1 (c2 (c1 (c2 (c2 addr_dotted.B)))))), .inLoop (c1 (c1 (c2 (c1 (c2 (c2 addr_dotted.B)))))), .inBlock 0, .code (c2 (c2 (c2 addr_dotted.B)))] [(3, Sl.v s1), (6, Sl.v a0), (7, .int .i64 (a0.len : Int)), (8, .int .i64 s2)] [] (addr_dotted.L1 a0 s1 s2) (addr_dotted.F1 a0) := by
 unfold addr_dotted.L1
 refine SJ.sr 1 <| OJ.go 1 [(9, .bool (decide (s2 < (a0.len : Int))))] <| OJ.nil <| SJ.seq <| SJ.cond (t := (.tmp 9)) (b := decide (s2 < (a0.len : Int))) decide_eq_true_iff (fun hc16 => ?_) (fun hc16 => ?_)
 ·refine SJ.skip <| SJ.seq <| SJ.block (id := 1) <| SJ.sr 3 <| OJ.idxS (d := 10) (T := 51) (y := .tmp 6) (j := .tmp 8) (E := 5) (cap := a0.cap) (k := .i64) (fun p10 => ?_)
  refine OJ.ld (d := 11) (y := .tmp 10) (pend2 := fun x11 => []) Ty5 (fun _ => rfl) (fun x11 => ?_)
  refine OJ.go 1 [(5, .int .u8 x11)] <| OJ.nil <| SJ.rg 7 <| OJ.go 3 [(14, .int .i64 (IntKind.wrap .i64 x11)), (13, .int .u8 x11), (12, Sl.v s1)] <| OJ.call (d := 15) (g := 33) (ats := #[3]) (args := [.tmp 14]) (owed := []) F33 (strconv_Itoa__ok (IntKind.wrap .i64 x11)) (fun r12 => ?_)
  refine OW.nil <| OJ.rowSlot (d := 16) (t := 80) (parts := [(0, .tmp 15)]) (ps := [(0, cS.val r12)]) (cd := cS) (⟨[r12], rfl⟩ : Vec ByteArray 1) (owed := []) Ty9 (Filled.cons (cd := cS) (q := r12) (o := 0) rfl (Upd.arr (i := 0) (by decide) (by decide)) Filled.nil) (fun b13 => ?_)
  refine OW.nil <| OJ.appl (d := 17) (t := 80) (u := 80) (so := .tmp 12) (xo := .tmp 16) (j := 0) (b := b13) (l := (cS.arr 1).enc (⟨[r12], rfl⟩ : Vec ByteArray 1)) (n := 1) (k := 1) [r12] (owed := []) Ty9 (by rfl) (Cod.arr_enc _ _ _) (by rfl) (fun r14 => ?_)
  refine OW.nil <| OJ.go 1 [(3, Sl.v r14)] <| OJ.nil <| SJ.inBlock <| SJ.rg 2 <| OJ.go 2 [(8, .int .i64 (IntKind.wrap .i64 (s2 + 1))), (18, .int .i64 (IntKind.wrap .i64 (s2 + 1)))] <| OJ.nil <| SJ.forget (List.Sublist.cons _ List.Sublist.slnil) ?_
  exact SJ.at_ [3, 6, 7, 8] rfl
 ·refine SJ.exit (id := 0) (by rfl) <| SJ.sr 3 <| OJ.go 1 [(19, Sl.v s1)] <| OJ.call (d := 20) (g := 34) (ats := #[80, 9]) (args := [.tmp 19, .const (.string str8)]) (owed := []) F34 (strings_Join_ok s1 str8) (fun r15 => ?_)
  exact OW.nil <| OJ.go 1 [(2, .string r15)] <| OJ.nil <| SJ.r1 (.string r15) rfl rfl
noncomputable def addr_dotted (a0 : Sl) : M ByteArray :=
 loopM (fun s_ : (Sl × Int) => addr_dotted.L1 a0 s_.1 s_.2) (Sl.nil, 0)
theorem addr_dotted_ok (a0 : Sl) : Ref Tryz.prog 17 [Sl.v a0] (addr_dotted a0) addr_dotted.out := by
 refine Ref.of (cd := addr_dotted.B) Tryz.func17 ?_
 show SJ addr_dotted.cx [.code addr_dotted.B] [(0, Sl.v a0)] [] (addr_dotted a0) addr_dotted.F0
 unfold addr_dotted
 exact SJ.sr 1 <| OJ.go 1 [(2, .string ByteArray.empty)] <| OJ.nil <| SJ.sr 1 <| OJ.go 1 [(3, Sl.v Sl.nil)] <| OJ.nil <| SJ.seq <| SJ.sr 3 <| OJ.go 3 [(8, .int .i64 0), (7, .int .i64 (a0.len : Int)), (6, Sl.v a0)] <| OJ.nil <| SJ.block (id := 0) <| SJ.loop (fun s_ : (Sl × Int) => [(3, Sl.v s_.1), (6, Sl.v a0), (7, .int .i64 (a0.len : Int)), (8, .int .i64 s_.2)]) (fun s_ : (Sl × Int) => []) [3, 6, 7, 8] rfl (fun _ _ => rfl) (fun s_ => addr_dotted.L1_ok a0 s_.1 s_.2)

/-! ### weir/addr.longest: function 18 -/
noncomputable def addr_longest.B : Code := (Tryz.f18.body).getD .skip
noncomputable def addr_longest.cx : Fx := ⟨Tryz.prog, 18, Tryz.f18⟩
noncomputable def addr_longest.out (r_ : (Int × Int)) : Value := .tuple #[.int .i64 r_.1, .int .i64 r_.2]
noncomputable def addr_longest.F0 (r_ : (Int × Int)) : Reach := .ret (addr_longest.out r_)
noncomputable def addr_longest.F1 (a0 : (Vec Int 8)) (b1 : Nat) : (LS (Int × Int × Int) (Int × Int)) → Reach := loopF [.inLoop (c1 (c1 (c2 (c1 (c2 (c2 addr_longest.B)))))), .inBlock 0, .code (c2 (c2 (c2 addr_longest.B)))] (fun s_ : (Int × Int × Int) => [(1, .pointer (some (pt b1 0))), (4, .int .i64 s_.1), (5, .int .i64 s_.2.1), (8, .int .i64 s_.2.2)]) (fun s_ : (Int × Int × Int) => [(b1, ((cI .i64).arr 8).enc a0)]) addr_longest.F0
noncomputable def addr_longest.F2 (a0 : (Vec Int 8)) (b1 : Nat) (s2 : Int) (s3 : Int) (s4 : Int) : (LS Int (LS (Int × Int × Int) (Int × Int))) → Reach := loopF [.inLoop (c1 (c1 (c1 (c2 (c2 (c1 (c1 (c2 (c2 (c1 (c1 (c2 (c1 (c2 (c2 addr_longest.B))))))))))))))), .inBlock 2, .code (c2 (c2 (c2 (c1 (c1 (c2 (c2 (c1 (c1 (c2 (c1 (c2 (c2 addr_longest.B))))))))))))), .inBlock 1, .code (c2 (c2 (c2 (c1 (c1 (c2 (c1 (c2 (c2 addr_longest.B))))))))), .inLoop (c1 (c1 (c2 (c1 (c2 (c2 addr_longest.B)))))), .inBlock 0, .code (c2 (c2 (c2 addr_longest.B)))] (fun s_ : Int => [(1, .pointer (some (pt b1 0))), (4, .int .i64 s2), (5, .int .i64 s3), (8, .int .i64 s4), (6, .int .i64 s4), (7, .int .i64 s_)]) (fun s_ : Int => [(b1, ((cI .i64).arr 8).enc a0)]) (addr_longest.F1 a0 b1)
noncomputable def addr_longest.L2 (a0 : (Vec Int 8)) (s2 : Int) (s3 : Int) (s4 : Int) (s17 : Int) : M (LS Int (LS (Int × Int × Int) (Int × Int))) :=
 (if (IntKind.wrap .i64 (s4 + s17)) < 8 then
   chk ((0 : Int) ≤ (IntKind.wrap .i64 (s4 + s17)) ∧ (IntKind.wrap .i64 (s4 + s17)) < (8 : Nat)) >>= fun _ =>
   pure ((Vec.g a0 (IntKind.wrap .i64 (s4 + s17)) 0) == 0)
  else
   pure false) >>= fun y24 =>
 if y24 = true then
  pure (LS.next (IntKind.wrap .i64 (s17 + 1)))
 else
  if s17 > s3 then
   pure (LS.done (LS.next (s4, s17, IntKind.wrap .i64 (s4 + 1))))
  else
   pure (LS.done (LS.next (s2, s3, IntKind.wrap .i64 (s4 + 1))))
theorem addr_longest.L2_ok (a0 : (Vec Int 8)) (b1 : Nat) (s2 : Int) (s3 : Int) (s4 : Int) (s17 : Int) :
  SJ addr_longest.cx [.code (c1 (c1 (c1 (c2 (c2 (c1 (c1 (c2 (c2 (c1 (c1 (c2 (c1 (c2 (c2 addr_longest.B))))))))))))))), .inLoop (c1 (c1 (c1 (c2 (c2 (c1 (c1 (c2 (c2 (c1 (c1 (c2 (c1 (c2 (c2 addr_longest.B))))))))))))))), .inBlock 2, .code (c2 (c2 (c2 (c1 (c1 (c2 (c2 (c1 (c1 (c2 (c1 (c2 (c2 addr_longest.B))))))))))))), .inBlock 1, .code (c2 (c2 (c2 (c1 (c1 (c2 (c1 (c2 (c2 addr_longest.B))))))))), .inLoop (c1 (c1 (c2 (c1 (c2 (c2 addr_longest.B)))))), .inBlock 0, .code (c2 (c2 (c2 addr_longest.B)))] [(1, .pointer (some (pt b1 0))), (4, .int .i64 s2), (5, .int .i64 s3), (8, .int .i64 s4), (6, .int .i64 s4), (7, .int .i64 s17)] [(b1, ((cI .i64).arr 8).enc a0)] (addr_longest.L2 a0 s2 s3 s4 s17) (addr_longest.F2 a0 b1 s2 s3 s4) := by
 unfold addr_longest.L2
 refine SJ.seq <| SJ.sr 12 <| OJ.go 5 [(15, .bool (decide ((IntKind.wrap .i64 (s4 + s17)) < 8))), (14, .bool (decide ((IntKind.wrap .i64 (s4 + s17)) < 8))), (13, .int .i64 (IntKind.wrap .i64 (s4 + s17))), (12, .int .i64 s17), (11, .int .i64 s4)] <| OJ.join (b := decide ((IntKind.wrap .i64 (s4 + s17)) < 8)) [5, 6, 7, 8, 9, 10, 11] [] [1, 4, 5, 8, 6, 7, 22] (fun y24 => [(1, .pointer (some (pt b1 0))), (4, .int .i64 s2), (5, .int .i64 s3), (8, .int .i64 s4), (6, .int .i64 s4), (7, .int .i64 s17), (22, .bool y24)]) [] [] (t := 15) decide_eq_true_iff (fun hp_ => ?_) (fun hp_ => ?_) (fun _ _ _ _ _ _ h_ => h_) (fun y24 => ?_)
 ·refine OJ.go 3 [(18, .int .i64 (IntKind.wrap .i64 (s4 + s17))), (17, .int .i64 s17), (16, .int .i64 s4)] <| OJ.idxK (d := 19) (T := 53) (y := .tmp 1) (j := .tmp 18) (E := 3) (sz := 1) (b := b1) (o := 0) (k := .i64) (fun hb22 hb23 => ?_)
  refine OJ.kld (d := 20) (y := .tmp 19) (cd := (cI .i64)) (j := 0) (b := b1) (o := (0 + (IntKind.wrap .i64 (s4 + s17)).toNat * 1)) (Vec.g a0 (IntKind.wrap .i64 (s4 + s17)) 0) (pend2 := []) Ty3 rfl (At.zero (At.arr (z := 0) hb22 hb23)) rfl ?_
  exact OJ.go 2 [(22, .bool ((Vec.g a0 (IntKind.wrap .i64 (s4 + s17)) 0) == 0)), (21, .bool ((Vec.g a0 (IntKind.wrap .i64 (s4 + s17)) 0) == 0))] <| OJ.x0
 ·exact OJ.go 7 [(22, .bool false), (21, undef), (20, undef), (19, undef), (18, undef), (17, undef), (16, undef)] <| OJ.x0
 ·refine OJ.nil <| SJ.cond (t := (.tmp 22)) (b := y24) Iff.rfl (fun hc27 => ?_) (fun hc27 => ?_)
  ·exact SJ.skip <| SJ.block (id := 3) <| SJ.rg 3 <| OJ.go 3 [(7, .int .i64 (IntKind.wrap .i64 (s17 + 1))), (24, .int .i64 (IntKind.wrap .i64 (s17 + 1))), (23, .int .i64 s17)] <| OJ.nil <| SJ.inBlock <| SJ.at_ [1, 4, 5, 8, 6, 7] rfl
  ·refine SJ.exit (id := 2) (by rfl) <| SJ.sr 3 <| OJ.go 3 [(27, .bool (decide (s17 > s3))), (26, .int .i64 s3), (25, .int .i64 s17)] <| OJ.nil <| SJ.cond (t := (.tmp 27)) (b := decide (s17 > s3)) decide_eq_true_iff (fun hc26 => ?_) (fun hc26 => ?_)
   ·exact SJ.rg 4 <| OJ.go 4 [(5, .int .i64 s17), (4, .int .i64 s4), (29, .int .i64 s17), (28, .int .i64 s4)] <| OJ.nil <| SJ.inBlock <| SJ.rg 2 <| OJ.go 2 [(8, .int .i64 (IntKind.wrap .i64 (s4 + 1))), (30, .int .i64 (IntKind.wrap .i64 (s4 + 1)))] <| OJ.nil <| SJ.at_ [1, 4, 5, 8] rfl
   ·exact SJ.skip <| SJ.inBlock <| SJ.rg 2 <| OJ.go 2 [(8, .int .i64 (IntKind.wrap .i64 (s4 + 1))), (30, .int .i64 (IntKind.wrap .i64 (s4 + 1)))] <| OJ.nil <| SJ.at_ [1, 4, 5, 8] rfl
noncomputable def addr_longest.L1 (a0 : (Vec Int 8)) (s2 : Int) (s3 : Int) (s4 : Int) : M (LS (Int × Int × Int) (Int × Int)) :=
 if s4 < 8 then
  loopM (fun s_ : Int => addr_longest.L2 a0 s2 s3 s4 s_) 0
 else
  pure (LS.done (s2, s3))
theorem addr_longest.L1_ok (a0 : (Vec Int 8)) (b1 : Nat) (s2 : Int) (s3 : Int) (s4 : Int) :
  SJ addr_longest.cx [.code (c1 (c1 (c2 (c1 (c2 (c2 addr_longest.B)))))), .inLoop (c1 (c1 (c2 (c1 (c2 (c2 addr_longest.B)))))), .inBlock 0, .code (c2 (c2 (c2 addr_longest.B)))] [(1, .pointer (some (pt b1 0))), (4, .int .i64 s2), (5, .int .i64 s3), (8, .int .i64 s4)] [(b1, ((cI .i64).arr 8).enc a0)] (addr_longest.L1 a0 s2 s3 s4) (addr_longest.F1 a0 b1) := by
 unfold addr_longest.L1
 refine SJ.sr 1 <| OJ.go 1 [(9, .bool (decide (s4 < 8)))] <| OJ.nil <| SJ.seq <| SJ.cond (t := (.tmp 9)) (b := decide (s4 < 8)) decide_eq_true_iff (fun hc28 => ?_) (fun hc28 => ?_)
 ·exact SJ.skip <| SJ.seq <| SJ.block (id := 1) <| SJ.sr 2 <| OJ.go 2 [(6, .int .i64 s4), (10, .int .i64 s4)] <| OJ.nil <| SJ.sr 1 <| OJ.go 1 [(7, .int .i64 0)] <| OJ.nil <| SJ.seq <| SJ.block (id := 2) <| SJ.loop (fun s_ : Int => [(1, .pointer (some (pt b1 0))), (4, .int .i64 s2), (5, .int .i64 s3), (8, .int .i64 s4), (6, .int .i64 s4), (7, .int .i64 s_)]) (fun s_ : Int => [(b1, ((cI .i64).arr 8).enc a0)]) [1, 4, 5, 8, 6, 7] rfl (fun _ _ => rfl) (fun s_ => addr_longest.L2_ok a0 b1 s2 s3 s4 s_)
 ·exact SJ.exit (id := 0) (by rfl) <| SJ.sr 4 <| OJ.go 4 [(3, .int .i64 s3), (2, .int .i64 s2), (32, .int .i64 s3), (31, .int .i64 s2)] <| OJ.nil <| SJ.r2 (.int .i64 s2) (.int .i64 s3) rfl rfl
noncomputable def addr_longest (a0 : (Vec Int 8)) : M (Int × Int) :=
 slot 53 >>= fun b1 =>
 loopM (fun s_ : (Int × Int × Int) => addr_longest.L1 a0 s_.1 s_.2.1 s_.2.2) ((-1), 1, 0)
theorem addr_longest_ok (a0 : (Vec Int 8)) : Ref Tryz.prog 18 [((cI .i64).arr 8).val a0] (addr_longest a0) addr_longest.out := by
 refine Ref.of (cd := addr_longest.B) Tryz.func18 ?_
 show SJ addr_longest.cx [.code addr_longest.B] [(0, ((cI .i64).arr 8).val a0)] [] (addr_longest a0) addr_longest.F0
 unfold addr_longest
 refine SJ.sr 3 <| OJ.slotOf (d := 1) (op := (.box 53 (.tmp 0))) (cd := ((cI .i64).arr 8)) (u := a0) (owed := []) (box_run (by kernel_rfl)) (fun b1 => ?_)
 exact OW.nil <| OJ.go 2 [(3, .int .i64 0), (2, .int .i64 0)] <| OJ.nil <| SJ.sr 2 <| OJ.go 2 [(5, .int .i64 1), (4, .int .i64 (-1))] <| OJ.nil <| SJ.seq <| SJ.sr 1 <| OJ.go 1 [(8, .int .i64 0)] <| OJ.nil <| SJ.block (id := 0) <| SJ.loop (fun s_ : (Int × Int × Int) => [(1, .pointer (some (pt b1 0))), (4, .int .i64 s_.1), (5, .int .i64 s_.2.1), (8, .int .i64 s_.2.2)]) (fun s_ : (Int × Int × Int) => [(b1, ((cI .i64).arr 8).enc a0)]) [1, 4, 5, 8] rfl (fun _ _ => rfl) (fun s_ => addr_longest.L1_ok a0 b1 s_.1 s_.2.1 s_.2.2)

/-! ### strconv.FormatInt: function 35 -/
noncomputable def strconv_FormatInt_.B : Code := (Tryz.f35.body).getD .skip
noncomputable def strconv_FormatInt_.cx : Fx := ⟨Tryz.prog, 35, Tryz.f35⟩
noncomputable def strconv_FormatInt_.out (r_ : ByteArray) : Value := .string r_
noncomputable def strconv_FormatInt_.F0 (r_ : ByteArray) : Reach := .ret (strconv_FormatInt_.out r_)
noncomputable def strconv_FormatInt_ (a0 : Int) (a1 : Int) : M ByteArray :=
 strconv_FormatInt a0 a1 >>= fun r1 =>
 pure r1
theorem strconv_FormatInt__ok (a0 : Int) (a1 : Int) : Ref Tryz.prog 35 [.int .i64 a0, .int .i64 a1] (strconv_FormatInt_ a0 a1) strconv_FormatInt_.out := by
 refine Ref.of (cd := strconv_FormatInt_.B) Tryz.func35 ?_
 show SJ strconv_FormatInt_.cx [.code strconv_FormatInt_.B] [(0, .int .i64 a0), (1, .int .i64 a1)] [] (strconv_FormatInt_ a0 a1) strconv_FormatInt_.F0
 unfold strconv_FormatInt_
 refine SJ.sr 1 <| OJ.go 1 [(4, .string ByteArray.empty)] <| OJ.nil <| SJ.sr 4 <| OJ.go 2 [(6, .int .i64 a1), (5, .int .i64 a0)] <| OJ.call (d := 7) (g := 65) (ats := #[2, 3]) (args := [.tmp 5, .tmp 6]) (owed := []) F65 (strconv_FormatInt_ok a0 a1) (fun r1 => ?_)
 exact OW.nil <| OJ.go 1 [(4, .string r1)] <| OJ.nil <| SJ.r1 (.string r1) rfl rfl

/-! ### weir/addr.colons: function 19 -/
noncomputable def addr_colons.B : Code := (Tryz.f19.body).getD .skip
noncomputable def addr_colons.cx : Fx := ⟨Tryz.prog, 19, Tryz.f19⟩
noncomputable def addr_colons.out (r_ : ByteArray) : Value := .string r_
noncomputable def addr_colons.F0 (r_ : ByteArray) : Reach := .ret (addr_colons.out r_)
noncomputable def addr_colons.F1 (a0 : Sl) : (LS (Sl × Int) ByteArray) → Reach := loopF [.inLoop (c1 (c1 (c2 (c1 (c2 (c2 addr_colons.B)))))), .inBlock 0, .code (c2 (c2 (c2 addr_colons.B)))] (fun s_ : (Sl × Int) => [(3, Sl.v s_.1), (6, Sl.v a0), (7, .int .i64 (a0.len : Int)), (8, .int .i64 s_.2)]) (fun s_ : (Sl × Int) => []) addr_colons.F0
noncomputable def addr_colons.L1 (a0 : Sl) (s1 : Sl) (s2 : Int) : M (LS (Sl × Int) ByteArray) :=
 if s2 < (a0.len : Int) then
  idx a0.a a0.len s2 1 >>= fun p10 =>
  ld (cI .i64) p10 >>= fun x11 =>
  strconv_FormatInt_ x11 16 >>= fun r12 =>
  slot 9 >>= fun b13 =>
  appl cS 9 16 ByteArray.empty s1 [r12] >>= fun r14 =>
  pure (LS.next (r14, IntKind.wrap .i64 (s2 + 1)))
 else
  strings_Join s1 str1 >>= fun r15 =>
  pure (LS.done r15)
theorem addr_colons.L1_ok (a0 : Sl) (s1 : Sl) (s2 : Int) :
  SJ addr_colons.cx [.code (c1 (c1 (c2 (c1 (c2 (c2 addr_colons.B)))))), .inLoop (c1 (c1 (c2 (c1 (c2 (c2 addr_colons.B)))))), .inBlock 0, .code (c2 (c2 (c2 addr_colons.B)))] [(3, Sl.v s1), (6, Sl.v a0), (7, .int .i64 (a0.len : Int)), (8, .int .i64 s2)] [] (addr_colons.L1 a0 s1 s2) (addr_colons.F1 a0) := by
 unfold addr_colons.L1
 refine SJ.sr 1 <| OJ.go 1 [(9, .bool (decide (s2 < (a0.len : Int))))] <| OJ.nil <| SJ.seq <| SJ.cond (t := (.tmp 9)) (b := decide (s2 < (a0.len : Int))) decide_eq_true_iff (fun hc16 => ?_) (fun hc16 => ?_)
 ·refine SJ.skip <| SJ.seq <| SJ.block (id := 1) <| SJ.sr 3 <| OJ.idxS (d := 10) (T := 58) (y := .tmp 6) (j := .tmp 8) (E := 3) (cap := a0.cap) (k := .i64) (fun p10 => ?_)
  refine OJ.ld (d := 11) (y := .tmp 10) (pend2 := fun x11 => []) Ty3 (fun _ => rfl) (fun x11 => ?_)
  refine OJ.go 1 [(5, .int .i64 x11)] <| OJ.nil <| SJ.rg 6 <| OJ.go 2 [(13, .int .i64 x11), (12, Sl.v s1)] <| OJ.call (d := 14) (g := 35) (ats := #[2, 3]) (args := [.tmp 13, .const (.int .i64 16)]) (owed := []) F35 (strconv_FormatInt__ok x11 16) (fun r12 => ?_)
  refine OW.nil <| OJ.rowSlot (d := 15) (t := 80) (parts := [(0, .tmp 14)]) (ps := [(0, cS.val r12)]) (cd := cS) (⟨[r12], rfl⟩ : Vec ByteArray 1) (owed := []) Ty9 (Filled.cons (cd := cS) (q := r12) (o := 0) rfl (Upd.arr (i := 0) (by decide) (by decide)) Filled.nil) (fun b13 => ?_)
  refine OW.nil <| OJ.appl (d := 16) (t := 80) (u := 80) (so := .tmp 12) (xo := .tmp 15) (j := 0) (b := b13) (l := (cS.arr 1).enc (⟨[r12], rfl⟩ : Vec ByteArray 1)) (n := 1) (k := 1) [r12] (owed := []) Ty9 (by rfl) (Cod.arr_enc _ _ _) (by rfl) (fun r14 => ?_)
  refine OW.nil <| OJ.go 1 [(3, Sl.v r14)] <| OJ.nil <| SJ.inBlock <| SJ.rg 2 <| OJ.go 2 [(8, .int .i64 (IntKind.wrap .i64 (s2 + 1))), (17, .int .i64 (IntKind.wrap .i64 (s2 + 1)))] <| OJ.nil <| SJ.forget (List.Sublist.cons _ List.Sublist.slnil) ?_
  exact SJ.at_ [3, 6, 7, 8] rfl
 ·refine SJ.exit (id := 0) (by rfl) <| SJ.sr 3 <| OJ.go 1 [(18, Sl.v s1)] <| OJ.call (d := 19) (g := 34) (ats := #[80, 9]) (args := [.tmp 18, .const (.string str1)]) (owed := []) F34 (strings_Join_ok s1 str1) (fun r15 => ?_)
  exact OW.nil <| OJ.go 1 [(2, .string r15)] <| OJ.nil <| SJ.r1 (.string r15) rfl rfl
noncomputable def addr_colons (a0 : Sl) : M ByteArray :=
 loopM (fun s_ : (Sl × Int) => addr_colons.L1 a0 s_.1 s_.2) (Sl.nil, 0)
theorem addr_colons_ok (a0 : Sl) : Ref Tryz.prog 19 [Sl.v a0] (addr_colons a0) addr_colons.out := by
 refine Ref.of (cd := addr_colons.B) Tryz.func19 ?_
 show SJ addr_colons.cx [.code addr_colons.B] [(0, Sl.v a0)] [] (addr_colons a0) addr_colons.F0
 unfold addr_colons
 exact SJ.sr 1 <| OJ.go 1 [(2, .string ByteArray.empty)] <| OJ.nil <| SJ.sr 1 <| OJ.go 1 [(3, Sl.v Sl.nil)] <| OJ.nil <| SJ.seq <| SJ.sr 3 <| OJ.go 3 [(8, .int .i64 0), (7, .int .i64 (a0.len : Int)), (6, Sl.v a0)] <| OJ.nil <| SJ.block (id := 0) <| SJ.loop (fun s_ : (Sl × Int) => [(3, Sl.v s_.1), (6, Sl.v a0), (7, .int .i64 (a0.len : Int)), (8, .int .i64 s_.2)]) (fun s_ : (Sl × Int) => []) [3, 6, 7, 8] rfl (fun _ _ => rfl) (fun s_ => addr_colons.L1_ok a0 s_.1 s_.2)

/-! ### weir/addr.PrintIP: function 10 -/
noncomputable def addr_PrintIP.B : Code := (Tryz.f10.body).getD .skip
noncomputable def addr_PrintIP.cx : Fx := ⟨Tryz.prog, 10, Tryz.f10⟩
noncomputable def addr_PrintIP.out (r_ : (ByteArray × Int)) : Value := .tuple #[.string r_.1, .int .i64 r_.2]
noncomputable def addr_PrintIP.F0 (r_ : (ByteArray × Int)) : Reach := .ret (addr_PrintIP.out r_)
noncomputable def addr_PrintIP.K1 (b46 : Nat) : M (ByteArray × Int) :=
 ld ((cI .i64).arr 8) (pt b46 0) >>= fun x54 =>
 addr_longest x54 >>= fun r55 =>
 if r55.1 < 0 then
  cut 1 ⟨some (pt b46 0), 8, 8⟩ none none none >>= fun r58 =>
  addr_colons r58 >>= fun r59 =>
  pure (r59, 0)
 else
  draw >>= fun _ =>
  cut 1 ⟨some (pt b46 0), 8, 8⟩ none (some r55.1) none >>= fun r60 =>
  addr_colons r60 >>= fun r61 =>
  chk (((r61.size + str0.size : Nat) : Int) ≤ 9223372036854775807) >>= fun _ =>
  cut 1 ⟨some (pt b46 0), 8, 8⟩ (some (IntKind.wrap .i64 (r55.1 + r55.2))) none none >>= fun r62 =>
  addr_colons r62 >>= fun r63 =>
  chk ((((r61 ++ str0).size + r63.size : Nat) : Int) ≤ 9223372036854775807) >>= fun _ =>
  pure (((r61 ++ str0) ++ r63), 0)
theorem addr_PrintIP.K1_ok (b46 : Nat) :
  SJ addr_PrintIP.cx [.code (c2 (c2 (c2 (c2 addr_PrintIP.B))))] [(4, .pointer (some (pt b46 0)))] [] (addr_PrintIP.K1 b46) addr_PrintIP.F0 := by
 unfold addr_PrintIP.K1
 refine SJ.sr 7 <| OJ.ld (d := 52) (y := .tmp 4) (pend2 := fun x54 => []) Ty53 (fun _ => rfl) (fun x54 => ?_)
 refine OJ.call (d := 53) (g := 18) (ats := #[53]) (args := [.tmp 52]) (owed := []) F18 (addr_longest_ok x54) (fun r55 => ?_)
 refine OW.nil <| OJ.go 5 [(7, .int .i64 r55.2), (6, .int .i64 r55.1), (55, .int .i64 r55.2), (54, .int .i64 r55.1), (51, .tuple #[.int .i64 r55.1, .int .i64 r55.2])] <| OJ.nil <| SJ.seq <| SJ.sr 2 <| OJ.go 2 [(57, .bool (decide (r55.1 < 0))), (56, .int .i64 r55.1)] <| OJ.nil <| SJ.cond (t := (.tmp 57)) (b := decide (r55.1 < 0)) decide_eq_true_iff (fun hc64 => ?_) (fun hc64 => ?_)
 ·refine SJ.sr 4 <| OJ.cutA (d := 58) (t := 53) (E := 3) (y := .tmp 4) (lo := none) (hi := none) (mx := none) (lo' := none) (hi' := none) (mx' := none) (fun h => by cases h) (fun r58 => ?_)
  refine OJ.call (d := 59) (g := 19) (ats := #[58]) (args := [.tmp 58]) (owed := []) F19 (addr_colons_ok r58) (fun r59 => ?_)
  exact OW.nil <| OJ.go 2 [(3, .int .i64 0), (2, .string r59)] <| OJ.nil <| SJ.r2 (.string r59) (.int .i64 0) rfl rfl
 ·refine SJ.skip <| SJ.seq <| SJ.draw (id := 16) (kd := [0, 0, 2, 0, 0, 0, 0, 0, 2, 0, 0, 0]) (bef := [0, 1, 3, 7, 0, 0, 48, 112, 247, 511, 1023, 2047]) (ord := [0, 1, 2, 3, 4, 5, 6, 7, 8, 9, 10, 11]) mixed ?_
  refine OJ.go 1 [(60, .int .i64 r55.1)] <| OJ.cutA (d := 61) (t := 53) (E := 3) (y := .tmp 4) (lo := none) (hi := (some (.tmp 60))) (mx := none) (lo' := none) (hi' := some (.i64, r55.1)) (mx' := none) (fun h => by cases h) (fun r60 => ?_)
  refine OJ.call (d := 62) (g := 19) (ats := #[58]) (args := [.tmp 61]) (owed := []) F19 (addr_colons_ok r60) (fun r61 => ?_)
  refine OW.nil <| OJ.cat (d := 63) (T := 9) (yT := 9) (y := .tmp 62) (z := .const (.string str0)) (p := r61) (q := str0) ?_
  refine OJ.go 3 [(66, .int .i64 (IntKind.wrap .i64 (r55.1 + r55.2))), (65, .int .i64 r55.2), (64, .int .i64 r55.1)] <| OJ.cutA (d := 67) (t := 53) (E := 3) (y := .tmp 4) (lo := (some (.tmp 66))) (hi := none) (mx := none) (lo' := some (.i64, IntKind.wrap .i64 (r55.1 + r55.2))) (hi' := none) (mx' := none) (fun h => by cases h) (fun r62 => ?_)
  refine OJ.call (d := 68) (g := 19) (ats := #[58]) (args := [.tmp 67]) (owed := []) F19 (addr_colons_ok r62) (fun r63 => ?_)
  refine OW.nil <| OJ.cat (d := 69) (T := 9) (yT := 9) (y := .tmp 63) (z := .tmp 68) (p := (r61 ++ str0)) (q := r63) ?_
  exact OJ.go 2 [(3, .int .i64 0), (2, .string ((r61 ++ str0) ++ r63))] <| OJ.nil <| SJ.r2 (.string ((r61 ++ str0) ++ r63)) (.int .i64 0) rfl rfl
noncomputable def addr_PrintIP.F1 (b1 : Nat) (b46 : Nat) : (LS Int (ByteArray × Int)) → Reach := loopF [.inLoop (c1 (c1 (c2 (c1 (c2 (c2 (c2 addr_PrintIP.B))))))), .inBlock 1, .code (c2 (c2 (c2 (c2 addr_PrintIP.B))))] (fun s_ : Int => [(1, .pointer (some (pt b1 0))), (4, .pointer (some (pt b46 0))), (30, .int .i64 s_)]) (fun s_ : Int => []) addr_PrintIP.F0
noncomputable def addr_PrintIP.L1 (b1 : Nat) (b46 : Nat) (s47 : Int) : M (LS Int (ByteArray × Int)) :=
 if s47 < 8 then
  draw >>= fun _ =>
  idx (some (Addr.add (pt b1 0) 1)) 16 (IntKind.wrap .i64 (2 * s47)) 1 >>= fun p65 =>
  ld (cI .u8) p65 >>= fun x66 =>
  idx (some (Addr.add (pt b1 0) 1)) 16 (IntKind.wrap .i64 ((IntKind.wrap .i64 (2 * s47)) + 1)) 1 >>= fun p67 =>
  ld (cI .u8) p67 >>= fun x68 =>
  idx (some (pt b46 0)) 8 s47 1 >>= fun p69 =>
  st (cI .i64) p69 (bor .i64 (IntKind.wrap .i64 ((IntKind.wrap .i64 x66) * 2 ^ 8)) (IntKind.wrap .i64 x68)) >>= fun _ =>
  pure (LS.next (IntKind.wrap .i64 (s47 + 1)))
 else
  (addr_PrintIP.K1 b46) >>= fun b => pure (LS.done b)
theorem addr_PrintIP.L1_ok (b1 : Nat) (b46 : Nat) (s47 : Int) :
  SJ addr_PrintIP.cx [.code (c1 (c1 (c2 (c1 (c2 (c2 (c2 addr_PrintIP.B))))))), .inLoop (c1 (c1 (c2 (c1 (c2 (c2 (c2 addr_PrintIP.B))))))), .inBlock 1, .code (c2 (c2 (c2 (c2 addr_PrintIP.B))))] [(1, .pointer (some (pt b1 0))), (4, .pointer (some (pt b46 0))), (30, .int .i64 s47)] [] (addr_PrintIP.L1 b1 b46 s47) (addr_PrintIP.F1 b1 b46) := by
 unfold addr_PrintIP.L1
 refine SJ.sr 1 <| OJ.go 1 [(31, .bool (decide (s47 < 8)))] <| OJ.nil <| SJ.seq <| SJ.cond (t := (.tmp 31)) (b := decide (s47 < 8)) decide_eq_true_iff (fun hc70 => ?_) (fun hc70 => ?_)
 ·refine SJ.skip <| SJ.seq <| SJ.block (id := 2) <| SJ.sr 2 <| OJ.go 2 [(5, .int .i64 s47), (32, .int .i64 s47)] <| OJ.nil <| SJ.draw (id := 11) (kd := [0, 0, 0, 0, 0, 1, 0, 0, 0, 0, 0, 0, 0, 1, 0, 0, 0, 2]) (bef := [0, 0, 2, 0, 14, 30, 62, 126, 0, 256, 768, 0, 3840, 7936, 16128, 32766, 65535, 131071]) (ord := [0, 1, 2, 3, 4, 5, 6, 7, 8, 9, 10, 11, 12, 13, 14, 15, 16, 17]) mixed ?_
  refine OJ.go 4 [(36, .pointer (some (Addr.add (pt b1 0) 1))), (35, .int .i64 (IntKind.wrap .i64 (2 * s47))), (34, .int .i64 s47), (33, .int .i64 s47)] <| OJ.idxA (d := 37) (T := 26) (y := .tmp 36) (j := .tmp 35) (E := 5) (k := .i64) (fun p65 => ?_)
  refine OJ.ld (d := 38) (y := .tmp 37) (pend2 := fun x66 => [⟨5, 5, p65, (cI .u8).val x66⟩]) Ty5 (fun _ => rfl) (fun x66 => ?_)
  refine OJ.go 6 [(44, .pointer (some (Addr.add (pt b1 0) 1))), (43, .int .i64 (IntKind.wrap .i64 ((IntKind.wrap .i64 (2 * s47)) + 1))), (42, .int .i64 (IntKind.wrap .i64 (2 * s47))), (41, .int .i64 s47), (40, .int .i64 (IntKind.wrap .i64 ((IntKind.wrap .i64 x66) * 2 ^ 8))), (39, .int .i64 (IntKind.wrap .i64 x66))] <| OJ.idxA (d := 45) (T := 26) (y := .tmp 44) (j := .tmp 43) (E := 5) (k := .i64) (fun p67 => ?_)
  refine OJ.ld (d := 46) (y := .tmp 45) (pend2 := fun x68 => [⟨13, 5, p67, (cI .u8).val x68⟩, ⟨5, 5, p65, (cI .u8).val x66⟩]) Ty5 (fun _ => rfl) (fun x68 => ?_)
  refine OJ.go 2 [(48, .int .i64 (bor .i64 (IntKind.wrap .i64 ((IntKind.wrap .i64 x66) * 2 ^ 8)) (IntKind.wrap .i64 x68))), (47, .int .i64 (IntKind.wrap .i64 x68))] <| OJ.idxA (d := 49) (T := 53) (y := .tmp 4) (j := .tmp 33) (E := 3) (k := .i64) (fun p69 => ?_)
  refine OJ.st (y := .tmp 49) (z := .tmp 48) (owed := []) Ty3 ?_
  exact OW.nil <| OJ.nil <| SJ.inBlock <| SJ.rg 2 <| OJ.go 2 [(30, .int .i64 (IntKind.wrap .i64 (s47 + 1))), (50, .int .i64 (IntKind.wrap .i64 (s47 + 1)))] <| OJ.nil <| SJ.at_ [1, 4, 30] rfl
 ·refine SJ.exit (id := 1) (by rfl) <| SJ.less [4] (m' := [(4, .pointer (some (pt b46 0)))]) ?_
  refine SJ.done ?_
  exact addr_PrintIP.K1_ok b46
noncomputable def addr_PrintIP (a0 : api_IP) : M (ByteArray × Int) :=
 newv 28 c_api_IP a0 >>= fun b1 =>
 ld c_api_IP (pt b1 0) >>= fun x2 =>
 addr_Valid x2 >>= fun r3 =>
 if ¬ (r3 = true) then
  pure (ByteArray.empty, 40)
 else
  ld (cI .i64) (pt b1 0) >>= fun x26 =>
  if x26 = 4 then
   cut 1 ⟨some (Addr.add (pt b1 0) 1), 16, 16⟩ none (some 4) none >>= fun r37 =>
   addr_dotted r37 >>= fun r38 =>
   pure (r38, 0)
  else
   cut 1 ⟨some (Addr.add (pt b1 0) 1), 16, 16⟩ none (some 12) none >>= fun r39 =>
   (chk (12 ≤ r39.len) >>= fun _ => nilck r39.a) >>= fun p40 =>
   ld ((cI .u8).arr 12) p40 >>= fun x41 =>
   if x41 = (⟨[0, 0, 0, 0, 0, 0, 0, 0, 0, 0, 255, 255], rfl⟩ : (Vec Int 12)) then
    cut 1 ⟨some (Addr.add (pt b1 0) 1), 16, 16⟩ (some 12) none none >>= fun r44 =>
    addr_dotted r44 >>= fun r45 =>
    chk (((str9.size + r45.size : Nat) : Int) ≤ 9223372036854775807) >>= fun _ =>
    pure ((str9 ++ r45), 0)
   else
    newv 53 ((cI .i64).arr 8) (Vec.rep 8 0) >>= fun b46 =>
    loopM (fun s_ : Int => addr_PrintIP.L1 b1 b46 s_) 0
theorem addr_PrintIP_ok (a0 : api_IP) : Ref Tryz.prog 10 [c_api_IP.val a0] (addr_PrintIP a0) addr_PrintIP.out := by
 refine Ref.of (cd := addr_PrintIP.B) Tryz.func10 ?_
 show SJ addr_PrintIP.cx [.code addr_PrintIP.B] [(0, c_api_IP.val a0)] [] (addr_PrintIP a0) addr_PrintIP.F0
 unfold addr_PrintIP
 refine SJ.sr 3 <| OJ.newOf (d := 1) (op := (.box 28 (.tmp 0))) (cd := c_api_IP) (u := a0) (owed := []) (box_run (by kernel_rfl)) (fun b1 => ?_)
 refine OW.nil <| OJ.go 2 [(3, .int .i64 0), (2, .string ByteArray.empty)] <| OJ.nil <| SJ.seq <| SJ.block (id := 0) <| SJ.sr 4 <| OJ.ld (d := 9) (y := .tmp 1) (pend2 := fun x2 => []) Ty28 (fun _ => rfl) (fun x2 => ?_)
 refine OJ.call (d := 10) (g := 16) (ats := #[28]) (args := [.tmp 9]) (owed := []) F16 (addr_Valid_ok x2) (fun r3 => ?_)
 refine OW.nil <| OJ.go 2 [(8, .bool (!r3)), (11, .bool (!r3))] <| OJ.nil <| SJ.cond (t := (.tmp 8)) (b := (!r3)) (bnot_iff Iff.rfl) (fun hc73 => ?_) (fun hc73 => ?_)
 ·exact SJ.sr 2 <| OJ.go 2 [(3, .int .i64 40), (2, .string ByteArray.empty)] <| OJ.nil <| SJ.r2 (.string ByteArray.empty) (.int .i64 40) rfl rfl
 ·refine SJ.sr 4 <| OJ.go 1 [(13, .pointer (some (pt b1 0)))] <| OJ.ld (d := 14) (y := .tmp 13) (pend2 := fun x26 => []) Ty3 (fun _ => rfl) (fun x26 => ?_)
  refine OJ.go 2 [(12, .bool (x26 == 4)), (15, .bool (x26 == 4))] <| OJ.nil <| SJ.cond (t := (.tmp 12)) (b := (x26 == 4)) beq_iff_eq (fun hc72 => ?_) (fun hc72 => ?_)
  ·refine SJ.sr 5 <| OJ.go 1 [(16, .pointer (some (Addr.add (pt b1 0) 1)))] <| OJ.cutA (d := 17) (t := 26) (E := 5) (y := .tmp 16) (lo := none) (hi := (some (.const (.int .i64 4)))) (mx := none) (lo' := none) (hi' := some (.i64, 4)) (mx' := none) (fun h => by cases h) (fun r37 => ?_)
   refine OJ.call (d := 18) (g := 17) (ats := #[51]) (args := [.tmp 17]) (owed := []) F17 (addr_dotted_ok r37) (fun r38 => ?_)
   exact OW.nil <| OJ.go 2 [(3, .int .i64 0), (2, .string r38)] <| OJ.nil <| SJ.r2 (.string r38) (.int .i64 0) rfl rfl
  ·refine SJ.sr 7 <| OJ.go 1 [(20, .pointer (some (Addr.add (pt b1 0) 1)))] <| OJ.cutA (d := 21) (t := 26) (E := 5) (y := .tmp 20) (lo := none) (hi := (some (.const (.int .i64 12)))) (mx := none) (lo' := none) (hi' := some (.i64, 12)) (mx' := none) (fun h => by cases h) (fun r39 => ?_)
   refine OJ.toArr (d := 22) (t := 52) (E := 5) (y := .tmp 21) (s := r39) (fun p40 => ?_)
   refine OJ.ld (d := 23) (y := .tmp 22) (pend2 := fun x41 => []) Ty52 (fun _ => rfl) (fun x41 => ?_)
   refine OJ.build (d := 24) (T := 52) (parts := [(10, .const (.int .u8 255)), (11, .const (.int .u8 255))]) (ps := [(10, (cI .u8).val 255), (11, (cI .u8).val 255)]) (cd := ((cI .u8).arr 12)) (z0 := (Vec.rep 12 0)) (⟨[0, 0, 0, 0, 0, 0, 0, 0, 0, 0, 255, 255], rfl⟩ : (Vec Int 12)) Ty52 rfl (Filled.cons (cd := (cI .u8)) (q := 255) (o := 10) (by kernel_rfl) (Upd.arr (i := 10) (by decide) (by decide)) (Filled.cons (cd := (cI .u8)) (q := 255) (o := 11) (by kernel_rfl) (Upd.arr (i := 11) (by decide) (by decide)) Filled.nil)) ?_
   refine OJ.eql (d := 25) (T := 52) (yT := 52) (y := .tmp 23) (z := .tmp 24) (cd := ((cI .u8).arr 12)) (p := x41) (q := (⟨[0, 0, 0, 0, 0, 0, 0, 0, 0, 0, 255, 255], rfl⟩ : (Vec Int 12))) rfl Eq52 ?_
   refine OJ.go 1 [(19, .bool (eqv x41 (⟨[0, 0, 0, 0, 0, 0, 0, 0, 0, 0, 255, 255], rfl⟩ : (Vec Int 12))))] <| OJ.nil <| SJ.cond (t := (.tmp 19)) (b := (eqv x41 (⟨[0, 0, 0, 0, 0, 0, 0, 0, 0, 0, 255, 255], rfl⟩ : (Vec Int 12)))) eqv_iff (fun hc71 => ?_) (fun hc71 => ?_)
   ·refine SJ.sr 6 <| OJ.go 1 [(26, .pointer (some (Addr.add (pt b1 0) 1)))] <| OJ.cutA (d := 27) (t := 26) (E := 5) (y := .tmp 26) (lo := (some (.const (.int .i64 12)))) (hi := none) (mx := none) (lo' := some (.i64, 12)) (hi' := none) (mx' := none) (fun h => by cases h) (fun r44 => ?_)
    refine OJ.call (d := 28) (g := 17) (ats := #[51]) (args := [.tmp 27]) (owed := []) F17 (addr_dotted_ok r44) (fun r45 => ?_)
    refine OW.nil <| OJ.cat (d := 29) (T := 9) (yT := 9) (y := .const (.string str9)) (z := .tmp 28) (p := str9) (q := r45) ?_
    exact OJ.go 2 [(3, .int .i64 0), (2, .string (str9 ++ r45))] <| OJ.nil <| SJ.r2 (.string (str9 ++ r45)) (.int .i64 0) rfl rfl
   ·refine SJ.skip <| SJ.inBlock <| SJ.sr 1 <| OJ.newOf (d := 4) (op := (.alloc 53)) (cd := ((cI .i64).arr 8)) (u := (Vec.rep 8 0)) (owed := []) (alloc_run Ty53) (fun b46 => ?_)
    exact OW.nil <| OJ.nil <| SJ.seq <| SJ.sr 1 <| OJ.go 1 [(30, .int .i64 0)] <| OJ.nil <| SJ.block (id := 1) <| SJ.loop (fun s_ : Int => [(1, .pointer (some (pt b1 0))), (4, .pointer (some (pt b46 0))), (30, .int .i64 s_)]) (fun s_ : Int => []) [1, 4, 30] rfl (fun _ _ => rfl) (fun s_ => addr_PrintIP.L1_ok b1 b46 s_)

/-! ### weir/addr.masked: function 20 -/
noncomputable def addr_masked.B : Code := (Tryz.f20.body).getD .skip
noncomputable def addr_masked.cx : Fx := ⟨Tryz.prog, 20, Tryz.f20⟩
noncomputable def addr_masked.out (r_ : (Vec Int 16)) : Value := ((cI .u8).arr 16).val r_
noncomputable def addr_masked.F0 (r_ : (Vec Int 16)) : Reach := .ret (addr_masked.out r_)
noncomputable def addr_masked.F1 (a0 : (Vec Int 16)) (a1 : Int) (b1 : Nat) (b2 : Nat) (b3 : Nat) : (LS (Int × (Vec Int 16)) (Vec Int 16)) → Reach := loopF [.inLoop (c1 (c1 (c2 (c1 (c2 (c2 addr_masked.B)))))), .inBlock 0, .code (c2 (c2 (c2 addr_masked.B)))] (fun s_ : (Int × (Vec Int 16)) => [(1, .int .i64 a1), (2, .pointer (some (pt b1 0))), (4, .pointer (some (pt b2 0))), (5, .pointer (some (pt b3 0))), (8, .int .i64 s_.1)]) (fun s_ : (Int × (Vec Int 16)) => [(b3, ((cI .u8).arr 16).enc s_.2), (b2, ((cI .u8).arr 16).enc (Vec.rep 16 0)), (b1, ((cI .u8).arr 16).enc a0)]) addr_masked.F0
noncomputable def addr_masked.L1 (a0 : (Vec Int 16)) (a1 : Int) (s4 : Int) (s5 : (Vec Int 16)) : M (LS (Int × (Vec Int 16)) (Vec Int 16)) :=
 if s4 < 16 then
  chk ((0 : Int) ≤ s4 ∧ s4 < (16 : Nat)) >>= fun _ =>
  chk (0 ≤ (IntKind.wrap .u64 (if (if 0 < (IntKind.wrap .i64 (a1 - (IntKind.wrap .i64 (8 * s4)))) then (IntKind.wrap .i64 (a1 - (IntKind.wrap .i64 (8 * s4)))) else 0) < 8 then (if 0 < (IntKind.wrap .i64 (a1 - (IntKind.wrap .i64 (8 * s4)))) then (IntKind.wrap .i64 (a1 - (IntKind.wrap .i64 (8 * s4)))) else 0) else 8))) >>= fun _ =>
  chk ((0 : Int) ≤ s4 ∧ s4 < (16 : Nat)) >>= fun _ =>
  pure (LS.next (IntKind.wrap .i64 (s4 + 1), (Vec.s s5 s4 (band .u8 (Vec.g a0 s4 0) (IntKind.wrap .u8 (Int.fdiv 65280 (2 ^ min (Int.toNat (IntKind.wrap .u64 (if (if 0 < (IntKind.wrap .i64 (a1 - (IntKind.wrap .i64 (8 * s4)))) then (IntKind.wrap .i64 (a1 - (IntKind.wrap .i64 (8 * s4)))) else 0) < 8 then (if 0 < (IntKind.wrap .i64 (a1 - (IntKind.wrap .i64 (8 * s4)))) then (IntKind.wrap .i64 (a1 - (IntKind.wrap .i64 (8 * s4)))) else 0) else 8))) 64)))))))
 else
  pure (LS.done s5)
theorem addr_masked.L1_ok (a0 : (Vec Int 16)) (a1 : Int) (b1 : Nat) (b2 : Nat) (b3 : Nat) (s4 : Int) (s5 : (Vec Int 16)) :
  SJ addr_masked.cx [.code (c1 (c1 (c2 (c1 (c2 (c2 addr_masked.B)))))), .inLoop (c1 (c1 (c2 (c1 (c2 (c2 addr_masked.B)))))), .inBlock 0, .code (c2 (c2 (c2 addr_masked.B)))] [(1, .int .i64 a1), (2, .pointer (some (pt b1 0))), (4, .pointer (some (pt b2 0))), (5, .pointer (some (pt b3 0))), (8, .int .i64 s4)] [(b3, ((cI .u8).arr 16).enc s5), (b2, ((cI .u8).arr 16).enc (Vec.rep 16 0)), (b1, ((cI .u8).arr 16).enc a0)] (addr_masked.L1 a0 a1 s4 s5) (addr_masked.F1 a0 a1 b1 b2 b3) := by
 unfold addr_masked.L1
 refine SJ.sr 1 <| OJ.go 1 [(9, .bool (decide (s4 < 16)))] <| OJ.nil <| SJ.seq <| SJ.cond (t := (.tmp 9)) (b := decide (s4 < 16)) decide_eq_true_iff (fun hc17 => ?_) (fun hc17 => ?_)
 ·refine SJ.skip <| SJ.seq <| SJ.block (id := 1) <| SJ.sr 2 <| OJ.go 2 [(6, .int .i64 s4), (10, .int .i64 s4)] <| OJ.nil <| SJ.sr 7 <| OJ.go 4 [(14, .int .i64 (IntKind.wrap .i64 (a1 - (IntKind.wrap .i64 (8 * s4))))), (13, .int .i64 (IntKind.wrap .i64 (8 * s4))), (12, .int .i64 s4), (11, .int .i64 a1)] <| OJ.max (d := 15) (t := 3) (u := 3) (so := .const (.int .i64 0)) (xo := .tmp 14) (k := .i64) (p := 0) (q := (IntKind.wrap .i64 (a1 - (IntKind.wrap .i64 (8 * s4))))) ?_
  refine OJ.min (d := 16) (t := 3) (u := 3) (so := .const (.int .i64 8)) (xo := .tmp 15) (k := .i64) (p := 8) (q := (if 0 < (IntKind.wrap .i64 (a1 - (IntKind.wrap .i64 (8 * s4)))) then (IntKind.wrap .i64 (a1 - (IntKind.wrap .i64 (8 * s4)))) else 0)) ?_
  refine OJ.go 1 [(7, .int .i64 (if (if 0 < (IntKind.wrap .i64 (a1 - (IntKind.wrap .i64 (8 * s4)))) then (IntKind.wrap .i64 (a1 - (IntKind.wrap .i64 (8 * s4)))) else 0) < 8 then (if 0 < (IntKind.wrap .i64 (a1 - (IntKind.wrap .i64 (8 * s4)))) then (IntKind.wrap .i64 (a1 - (IntKind.wrap .i64 (8 * s4)))) else 0) else 8))] <| OJ.nil <| SJ.rg 11 <| OJ.go 2 [(18, .int .i64 s4), (17, .int .i64 s4)] <| OJ.idxK (d := 19) (T := 26) (y := .tmp 2) (j := .tmp 18) (E := 5) (sz := 1) (b := b1) (o := 0) (k := .i64) (fun hb12 hb13 => ?_)
  refine OJ.kld (d := 20) (y := .tmp 19) (cd := (cI .u8)) (j := 2) (b := b1) (o := (0 + s4.toNat * 1)) (Vec.g a0 s4 0) (pend2 := []) Ty5 rfl (At.zero (At.arr (z := 0) hb12 hb13)) rfl ?_
  refine OJ.go 2 [(22, .int .u64 (IntKind.wrap .u64 (if (if 0 < (IntKind.wrap .i64 (a1 - (IntKind.wrap .i64 (8 * s4)))) then (IntKind.wrap .i64 (a1 - (IntKind.wrap .i64 (8 * s4)))) else 0) < 8 then (if 0 < (IntKind.wrap .i64 (a1 - (IntKind.wrap .i64 (8 * s4)))) then (IntKind.wrap .i64 (a1 - (IntKind.wrap .i64 (8 * s4)))) else 0) else 8))), (21, .int .i64 (if (if 0 < (IntKind.wrap .i64 (a1 - (IntKind.wrap .i64 (8 * s4)))) then (IntKind.wrap .i64 (a1 - (IntKind.wrap .i64 (8 * s4)))) else 0) < 8 then (if 0 < (IntKind.wrap .i64 (a1 - (IntKind.wrap .i64 (8 * s4)))) then (IntKind.wrap .i64 (a1 - (IntKind.wrap .i64 (8 * s4)))) else 0) else 8))] <| OJ.shr (d := 23) (T := 3) (yT := 54) (y := .const (.int .i64 65280)) (z := .tmp 22) (k := .i64) (yk := .u64) (p := 65280) (q := (IntKind.wrap .u64 (if (if 0 < (IntKind.wrap .i64 (a1 - (IntKind.wrap .i64 (8 * s4)))) then (IntKind.wrap .i64 (a1 - (IntKind.wrap .i64 (8 * s4)))) else 0) < 8 then (if 0 < (IntKind.wrap .i64 (a1 - (IntKind.wrap .i64 (8 * s4)))) then (IntKind.wrap .i64 (a1 - (IntKind.wrap .i64 (8 * s4)))) else 0) else 8))) (fun hq16 => ?_)
  refine OJ.go 2 [(25, .int .u8 (band .u8 (Vec.g a0 s4 0) (IntKind.wrap .u8 (Int.fdiv 65280 (2 ^ min (Int.toNat (IntKind.wrap .u64 (if (if 0 < (IntKind.wrap .i64 (a1 - (IntKind.wrap .i64 (8 * s4)))) then (IntKind.wrap .i64 (a1 - (IntKind.wrap .i64 (8 * s4)))) else 0) < 8 then (if 0 < (IntKind.wrap .i64 (a1 - (IntKind.wrap .i64 (8 * s4)))) then (IntKind.wrap .i64 (a1 - (IntKind.wrap .i64 (8 * s4)))) else 0) else 8))) 64))))), (24, .int .u8 (IntKind.wrap .u8 (Int.fdiv 65280 (2 ^ min (Int.toNat (IntKind.wrap .u64 (if (if 0 < (IntKind.wrap .i64 (a1 - (IntKind.wrap .i64 (8 * s4)))) then (IntKind.wrap .i64 (a1 - (IntKind.wrap .i64 (8 * s4)))) else 0) < 8 then (if 0 < (IntKind.wrap .i64 (a1 - (IntKind.wrap .i64 (8 * s4)))) then (IntKind.wrap .i64 (a1 - (IntKind.wrap .i64 (8 * s4)))) else 0) else 8))) 64))))] <| OJ.idxK (d := 26) (T := 26) (y := .tmp 5) (j := .tmp 17) (E := 5) (sz := 1) (b := b3) (o := 0) (k := .i64) (fun hb14 hb15 => ?_)
  refine OJ.kst (y := .tmp 26) (z := .tmp 25) (cd := (cI .u8)) (u := (band .u8 (Vec.g a0 s4 0) (IntKind.wrap .u8 (Int.fdiv 65280 (2 ^ min (Int.toNat (IntKind.wrap .u64 (if (if 0 < (IntKind.wrap .i64 (a1 - (IntKind.wrap .i64 (8 * s4)))) then (IntKind.wrap .i64 (a1 - (IntKind.wrap .i64 (8 * s4)))) else 0) < 8 then (if 0 < (IntKind.wrap .i64 (a1 - (IntKind.wrap .i64 (8 * s4)))) then (IntKind.wrap .i64 (a1 - (IntKind.wrap .i64 (8 * s4)))) else 0) else 8))) 64))))) (j := 0) (b := b3) (o := (0 + s4.toNat * 1)) (((cI .u8).arr 16).enc (Vec.s s5 s4 (band .u8 (Vec.g a0 s4 0) (IntKind.wrap .u8 (Int.fdiv 65280 (2 ^ min (Int.toNat (IntKind.wrap .u64 (if (if 0 < (IntKind.wrap .i64 (a1 - (IntKind.wrap .i64 (8 * s4)))) then (IntKind.wrap .i64 (a1 - (IntKind.wrap .i64 (8 * s4)))) else 0) < 8 then (if 0 < (IntKind.wrap .i64 (a1 - (IntKind.wrap .i64 (8 * s4)))) then (IntKind.wrap .i64 (a1 - (IntKind.wrap .i64 (8 * s4)))) else 0) else 8))) 64)))))) (owed := []) Ty5 rfl (Upd.zero (Upd.arr hb14 hb15)) rfl ?_
  exact OW.nil <| OJ.nil <| SJ.inBlock <| SJ.rg 2 <| OJ.go 2 [(8, .int .i64 (IntKind.wrap .i64 (s4 + 1))), (27, .int .i64 (IntKind.wrap .i64 (s4 + 1)))] <| OJ.nil <| SJ.at_ [1, 2, 4, 5, 8] rfl
 ·refine SJ.exit (id := 0) (by rfl) <| SJ.sr 2 <| OJ.kld (d := 28) (y := .tmp 5) (cd := ((cI .u8).arr 16)) (j := 0) (b := b3) (o := 0) s5 (pend2 := []) Ty26 rfl (At.whole _) rfl ?_
  refine OJ.kst (y := .tmp 4) (z := .tmp 28) (cd := ((cI .u8).arr 16)) (u := s5) (j := 1) (b := b2) (o := 0) (((cI .u8).arr 16).enc s5) (owed := []) Ty26 rfl (Upd.whole ((Cod.len _ _).trans (Cod.len _ _).symm)) rfl ?_
  exact OW.nil <| OJ.nil <| SJ.ret rfl (Res.run (ys := [((cI .u8).arr 16).val s5]) (.cell (j := 1) (b := b2) (cd := ((cI .u8).arr 16)) (q := s5) (by kernel_rfl) rfl Ty26 (At.whole _) .nil) rfl)
noncomputable def addr_masked (a0 : (Vec Int 16)) (a1 : Int) : M (Vec Int 16) :=
 slot 26 >>= fun b1 =>
 slot 26 >>= fun b2 =>
 slot 26 >>= fun b3 =>
 loopM (fun s_ : (Int × (Vec Int 16)) => addr_masked.L1 a0 a1 s_.1 s_.2) (0, (Vec.rep 16 0))
theorem addr_masked_ok (a0 : (Vec Int 16)) (a1 : Int) : Ref Tryz.prog 20 [((cI .u8).arr 16).val a0, .int .i64 a1] (addr_masked a0 a1) addr_masked.out := by
 refine Ref.of (cd := addr_masked.B) Tryz.func20 ?_
 show SJ addr_masked.cx [.code addr_masked.B] [(0, ((cI .u8).arr 16).val a0), (1, .int .i64 a1)] [] (addr_masked a0 a1) addr_masked.F0
 unfold addr_masked
 refine SJ.sr 2 <| OJ.slotOf (d := 2) (op := (.box 26 (.tmp 0))) (cd := ((cI .u8).arr 16)) (u := a0) (owed := []) (box_run (by kernel_rfl)) (fun b1 => ?_)
 refine OW.nil <| OJ.slotOf (d := 4) (op := (.alloc 26)) (cd := ((cI .u8).arr 16)) (u := (Vec.rep 16 0)) (owed := []) (alloc_run Ty26) (fun b2 => ?_)
 refine OW.nil <| OJ.nil <| SJ.sr 1 <| OJ.slotOf (d := 5) (op := (.alloc 26)) (cd := ((cI .u8).arr 16)) (u := (Vec.rep 16 0)) (owed := []) (alloc_run Ty26) (fun b3 => ?_)
 exact OW.nil <| OJ.nil <| SJ.seq <| SJ.sr 1 <| OJ.go 1 [(8, .int .i64 0)] <| OJ.nil <| SJ.block (id := 0) <| SJ.loop (fun s_ : (Int × (Vec Int 16)) => [(1, .int .i64 a1), (2, .pointer (some (pt b1 0))), (4, .pointer (some (pt b2 0))), (5, .pointer (some (pt b3 0))), (8, .int .i64 s_.1)]) (fun s_ : (Int × (Vec Int 16)) => [(b3, ((cI .u8).arr 16).enc s_.2), (b2, ((cI .u8).arr 16).enc (Vec.rep 16 0)), (b1, ((cI .u8).arr 16).enc a0)]) [1, 2, 4, 5, 8] rfl (fun _ _ => rfl) (fun s_ => addr_masked.L1_ok a0 a1 b1 b2 b3 s_.1 s_.2)

/-! ### weir/addr.Class: function 12 -/
noncomputable def addr_Class.B : Code := (Tryz.f12.body).getD .skip
noncomputable def addr_Class.cx : Fx := ⟨Tryz.prog, 12, Tryz.f12⟩
noncomputable def addr_Class.out (r_ : Int) : Value := .int .i64 r_
noncomputable def addr_Class.F0 (r_ : Int) : Reach := .ret (addr_Class.out r_)
noncomputable def addr_Class.F1 (a0 : api_IP) (b1 : Nat) (x3 : (Vec addr_net 12)) : (LS Int Int) → Reach := loopF [.inLoop (c1 (c1 (c2 (c1 (c2 (c2 addr_Class.B)))))), .inBlock 0, .code (c2 (c2 (c2 addr_Class.B)))] (fun s_ : Int => [(1, .pointer (some (pt b1 0))), (8, (c_addr_net.arr 12).val x3), (9, .int .i64 s_)]) (fun s_ : Int => [(b1, c_api_IP.enc a0)]) addr_Class.F0
noncomputable def addr_Class.L1 (a0 : api_IP) (x3 : (Vec addr_net 12)) (s4 : Int) : M (LS Int Int) :=
 if s4 < 12 then
  chk ((0 : Int) ≤ s4 ∧ s4 < (12 : Nat)) >>= fun _ =>
  slot 60 >>= fun b14 =>
  draw >>= fun _ =>
  (if ((Vec.g x3 s4 z_addr_net).v) = a0.V then
    addr_masked a0.A ((Vec.g x3 s4 z_addr_net).bits) >>= fun r15 =>
    pure (eqv r15 ((Vec.g x3 s4 z_addr_net).a))
   else
    pure false) >>= fun y16 =>
  if y16 = true then
   pure (LS.done ((Vec.g x3 s4 z_addr_net).class_))
  else
   pure (LS.next (IntKind.wrap .i64 (s4 + 1)))
 else
  pure (LS.done 7)
theorem addr_Class.L1_ok (a0 : api_IP) (b1 : Nat) (x3 : (Vec addr_net 12)) (s4 : Int) :
  SJ addr_Class.cx [.code (c1 (c1 (c2 (c1 (c2 (c2 addr_Class.B)))))), .inLoop (c1 (c1 (c2 (c1 (c2 (c2 addr_Class.B)))))), .inBlock 0, .code (c2 (c2 (c2 addr_Class.B)))] [(1, .pointer (some (pt b1 0))), (8, (c_addr_net.arr 12).val x3), (9, .int .i64 s4)] [(b1, c_api_IP.enc a0)] (addr_Class.L1 a0 x3 s4) (addr_Class.F1 a0 b1 x3) := by
 unfold addr_Class.L1
 refine SJ.sr 1 <| OJ.go 1 [(10, .bool (decide (s4 < 12)))] <| OJ.nil <| SJ.seq <| SJ.cond (t := (.tmp 10)) (b := decide (s4 < 12)) decide_eq_true_iff (fun hc18 => ?_) (fun hc18 => ?_)
 ·refine SJ.skip <| SJ.seq <| SJ.block (id := 1) <| SJ.sr 3 <| OJ.idxV (d := 11) (T := 61) (E := 60) (y := .tmp 8) (j := .tmp 9) (k := .i64) (v0 := x3) Ty60 (fun hb12 hb13 => ?_)
  refine OJ.slotOf (d := 4) (op := (.alloc 60)) (cd := c_addr_net) (u := z_addr_net) (owed := []) (alloc_run Ty60) (fun b14 => ?_)
  refine OW.nil <| OJ.kst (y := .tmp 4) (z := .tmp 11) (cd := c_addr_net) (u := (Vec.g x3 s4 z_addr_net)) (j := 0) (b := b14) (o := 0) (c_addr_net.enc (Vec.g x3 s4 z_addr_net)) (owed := []) Ty60 rfl (Upd.whole ((Cod.len _ _).trans (Cod.len _ _).symm)) rfl ?_
  refine OW.nil <| OJ.nil <| SJ.seq <| SJ.draw (id := 6) (kd := [0, 1, 0, 1, 0, 0, 0, 1, 0, 1, 2, 0, 1, 0, 0]) (bef := [0, 1, 0, 4, 15, 31, 63, 127, 63, 319, 1023, 63, 2111, 8191, 16383]) (ord := [0, 1, 2, 3, 4, 5, 6, 7, 8, 9, 11, 12, 10, 13, 14]) mixed ?_
  refine OJ.go 1 [(12, .pointer (some (pt b14 0)))] <| OJ.kld (d := 13) (y := .tmp 12) (cd := (cI .i64)) (j := 0) (b := b14) (o := 0) ((Vec.g x3 s4 z_addr_net).v) (pend2 := [⟨1, 3, (pt b14 0), (cI .i64).val ((Vec.g x3 s4 z_addr_net).v)⟩]) Ty3 rfl (At_addr_net_v (Vec.g x3 s4 z_addr_net)) rfl ?_
  refine OJ.go 1 [(14, .pointer (some (pt b1 0)))] <| OJ.kld (d := 15) (y := .tmp 14) (cd := (cI .i64)) (j := 1) (b := b1) (o := 0) a0.V (pend2 := [⟨3, 3, (pt b1 0), (cI .i64).val a0.V⟩, ⟨1, 3, (pt b14 0), (cI .i64).val ((Vec.g x3 s4 z_addr_net).v)⟩]) Ty3 rfl (At_api_IP_V a0) rfl ?_
  refine OJ.go 2 [(17, .bool (((Vec.g x3 s4 z_addr_net).v) == a0.V)), (16, .bool (((Vec.g x3 s4 z_addr_net).v) == a0.V))] <| OJ.join (b := (((Vec.g x3 s4 z_addr_net).v) == a0.V)) [6, 7, 8, 9, 11, 12, 10, 13, 14] [] [1, 8, 9, 4, 26] (fun y16 => [(1, .pointer (some (pt b1 0))), (8, (c_addr_net.arr 12).val x3), (9, .int .i64 s4), (4, .pointer (some (pt b14 0))), (26, .bool y16)]) [⟨12, 26, (pt b14 1), ((cI .u8).arr 16).val ((Vec.g x3 s4 z_addr_net).a)⟩, ⟨9, 3, (pt b14 17), (cI .i64).val ((Vec.g x3 s4 z_addr_net).bits)⟩, ⟨7, 26, (pt b1 1), ((cI .u8).arr 16).val a0.A⟩, ⟨3, 3, (pt b1 0), (cI .i64).val a0.V⟩, ⟨1, 3, (pt b14 0), (cI .i64).val ((Vec.g x3 s4 z_addr_net).v)⟩] [] (t := 17) beq_iff_eq (fun hp_ => ?_) (fun hp_ => ?_) (fun _ _ _ _ _ _ h_ => h_) (fun y16 => ?_)
  ·refine OJ.go 1 [(18, .pointer (some (pt b1 1)))] <| OJ.kld (d := 19) (y := .tmp 18) (cd := ((cI .u8).arr 16)) (j := 1) (b := b1) (o := 1) a0.A (pend2 := [⟨7, 26, (pt b1 1), ((cI .u8).arr 16).val a0.A⟩, ⟨3, 3, (pt b1 0), (cI .i64).val a0.V⟩, ⟨1, 3, (pt b14 0), (cI .i64).val ((Vec.g x3 s4 z_addr_net).v)⟩]) Ty26 rfl (At_api_IP_A a0) rfl ?_
   refine OJ.go 1 [(20, .pointer (some (pt b14 17)))] <| OJ.kld (d := 21) (y := .tmp 20) (cd := (cI .i64)) (j := 0) (b := b14) (o := 17) ((Vec.g x3 s4 z_addr_net).bits) (pend2 := [⟨9, 3, (pt b14 17), (cI .i64).val ((Vec.g x3 s4 z_addr_net).bits)⟩, ⟨7, 26, (pt b1 1), ((cI .u8).arr 16).val a0.A⟩, ⟨3, 3, (pt b1 0), (cI .i64).val a0.V⟩, ⟨1, 3, (pt b14 0), (cI .i64).val ((Vec.g x3 s4 z_addr_net).v)⟩]) Ty3 rfl (At_addr_net_bits (Vec.g x3 s4 z_addr_net)) rfl ?_
   refine OJ.go 1 [(23, .pointer (some (pt b14 1)))] <| OJ.kld (d := 24) (y := .tmp 23) (cd := ((cI .u8).arr 16)) (j := 0) (b := b14) (o := 1) ((Vec.g x3 s4 z_addr_net).a) (pend2 := [⟨12, 26, (pt b14 1), ((cI .u8).arr 16).val ((Vec.g x3 s4 z_addr_net).a)⟩, ⟨9, 3, (pt b14 17), (cI .i64).val ((Vec.g x3 s4 z_addr_net).bits)⟩, ⟨7, 26, (pt b1 1), ((cI .u8).arr 16).val a0.A⟩, ⟨3, 3, (pt b1 0), (cI .i64).val a0.V⟩, ⟨1, 3, (pt b14 0), (cI .i64).val ((Vec.g x3 s4 z_addr_net).v)⟩]) Ty26 rfl (At_addr_net_a (Vec.g x3 s4 z_addr_net)) rfl ?_
   refine OJ.call (d := 22) (g := 20) (ats := #[26, 3]) (args := [.tmp 19, .tmp 21]) (owed := [⟨12, 26, (pt b14 1), ((cI .u8).arr 16).val ((Vec.g x3 s4 z_addr_net).a)⟩]) F20 (addr_masked_ok a0.A ((Vec.g x3 s4 z_addr_net).bits)) (fun r15 => ?_)
   refine OW.known (j := 0) (q := ((Vec.g x3 s4 z_addr_net).a)) Ty26 rfl (At_addr_net_a (Vec.g x3 s4 z_addr_net)) ?_
   refine OW.nil <| OJ.eql (d := 25) (T := 26) (yT := 26) (y := .tmp 22) (z := .tmp 24) (cd := ((cI .u8).arr 16)) (p := r15) (q := ((Vec.g x3 s4 z_addr_net).a)) rfl Eq26 ?_
   exact OJ.go 1 [(26, .bool (eqv r15 ((Vec.g x3 s4 z_addr_net).a)))] <| OJ.nil ⟨(Cov.mem (Cov.keep (List.mem_of_getElem? (i := 0) rfl) (Cov.keep (List.mem_of_getElem? (i := 1) rfl) (Cov.keep (List.mem_of_getElem? (i := 2) rfl) (Cov.keep (List.mem_of_getElem? (i := 3) rfl) (Cov.keep (List.mem_of_getElem? (i := 4) rfl) Cov.nil)))))), rfl, _, rfl, by kernel_rfl⟩
  ·exact OJ.go 9 [(26, .bool false), (25, undef), (22, undef), (24, undef), (23, undef), (21, undef), (20, undef), (19, undef), (18, undef)] <| OJ.nil ⟨(Cov.mem (Cov.keep (List.mem_of_getElem? (i := 3) rfl) (Cov.keep (List.mem_of_getElem? (i := 4) rfl) Cov.nil))), rfl, _, rfl, by kernel_rfl⟩
  ·refine OJ.nil <| SJ.cond (t := (.tmp 26)) (b := y16) Iff.rfl (fun hc17 => ?_) (fun hc17 => ?_)
   ·refine SJ.sr 3 <| OJ.go 1 [(27, .pointer (some (pt b14 18)))] <| OJ.kld (d := 28) (y := .tmp 27) (cd := (cI .i64)) (j := 0) (b := b14) (o := 18) ((Vec.g x3 s4 z_addr_net).class_) (pend2 := []) Ty3 rfl (At_addr_net_class_ (Vec.g x3 s4 z_addr_net)) rfl ?_
    exact OJ.go 1 [(2, .int .i64 ((Vec.g x3 s4 z_addr_net).class_))] <| OJ.nil <| SJ.r1 (.int .i64 ((Vec.g x3 s4 z_addr_net).class_)) rfl rfl
   ·refine SJ.skip <| SJ.inBlock <| SJ.rg 2 <| OJ.go 2 [(9, .int .i64 (IntKind.wrap .i64 (s4 + 1))), (29, .int .i64 (IntKind.wrap .i64 (s4 + 1)))] <| OJ.nil <| SJ.forget (List.Sublist.cons _ (List.Sublist.cons_cons _ List.Sublist.slnil)) ?_
    exact SJ.at_ [1, 8, 9] rfl
 ·exact SJ.exit (id := 0) (by rfl) <| SJ.sr 1 <| OJ.go 1 [(2, .int .i64 7)] <| OJ.nil <| SJ.r1 (.int .i64 7) rfl rfl
noncomputable def addr_Class (a0 : api_IP) : M Int :=
 slot 28 >>= fun b1 =>
 addr_Valid a0 >>= fun r2 =>
 if ¬ (r2 = true) then
  pure 0
 else
  ld (c_addr_net.arr 12) ⟨0, 0, none⟩ >>= fun x3 =>
  loopM (fun s_ : Int => addr_Class.L1 a0 x3 s_) 0
theorem addr_Class_ok (a0 : api_IP) : Ref Tryz.prog 12 [c_api_IP.val a0] (addr_Class a0) addr_Class.out := by
 refine Ref.of (cd := addr_Class.B) Tryz.func12 ?_
 show SJ addr_Class.cx [.code addr_Class.B] [(0, c_api_IP.val a0)] [] (addr_Class a0) addr_Class.F0
 unfold addr_Class
 refine SJ.sr 2 <| OJ.slotOf (d := 1) (op := (.box 28 (.tmp 0))) (cd := c_api_IP) (u := a0) (owed := []) (box_run (by kernel_rfl)) (fun b1 => ?_)
 refine OW.nil <| OJ.go 1 [(2, .int .i64 0)] <| OJ.nil <| SJ.seq <| SJ.sr 3 <| OJ.kld (d := 5) (y := .tmp 1) (cd := c_api_IP) (j := 0) (b := b1) (o := 0) a0 (pend2 := []) Ty28 rfl (At.whole _) rfl ?_
 refine OJ.call (d := 6) (g := 16) (ats := #[28]) (args := [.tmp 5]) (owed := []) F16 (addr_Valid_ok a0) (fun r2 => ?_)
 refine OW.nil <| OJ.go 1 [(7, .bool (!r2))] <| OJ.nil <| SJ.cond (t := (.tmp 7)) (b := (!r2)) (bnot_iff Iff.rfl) (fun hc19 => ?_) (fun hc19 => ?_)
 ·exact SJ.sr 1 <| OJ.go 1 [(2, .int .i64 0)] <| OJ.nil <| SJ.r1 (.int .i64 0) rfl rfl
 ·refine SJ.skip <| SJ.seq <| SJ.sr 2 <| OJ.ld (d := 8) (y := .global 0) (pend2 := fun x3 => []) Ty61 (fun _ => rfl) (fun x3 => ?_)
  exact OJ.go 1 [(9, .int .i64 0)] <| OJ.nil <| SJ.block (id := 0) <| SJ.loop (fun s_ : Int => [(1, .pointer (some (pt b1 0))), (8, (c_addr_net.arr 12).val x3), (9, .int .i64 s_)]) (fun s_ : Int => [(b1, c_api_IP.enc a0)]) [1, 8, 9] rfl (fun _ _ => rfl) (fun s_ => addr_Class.L1_ok a0 b1 x3 s_)

/-! ### weir/weirlaw4.num: function 13 -/
noncomputable def l4_num.B : Code := (Tryz.f13.body).getD .skip
noncomputable def l4_num.cx : Fx := ⟨Tryz.prog, 13, Tryz.f13⟩
noncomputable def l4_num.out (r_ : Int) : Value := .int .i64 r_
noncomputable def l4_num.F0 (r_ : Int) : Reach := .ret (l4_num.out r_)
noncomputable def l4_num (a0 : Int) : M Int :=
 pure a0
theorem l4_num_ok (a0 : Int) : Ref Tryz.prog 13 [.int .i64 a0] (l4_num a0) l4_num.out := by
 refine Ref.of (cd := l4_num.B) Tryz.func13 ?_
 show SJ l4_num.cx [.code l4_num.B] [(0, .int .i64 a0)] [] (l4_num a0) l4_num.F0
 unfold l4_num
 exact SJ.sr 1 <| OJ.go 1 [(2, .int .i64 0)] <| OJ.nil <| SJ.sr 2 <| OJ.go 2 [(2, .int .i64 a0), (3, .int .i64 a0)] <| OJ.nil <| SJ.r1 (.int .i64 a0) rfl rfl

/-! ### weir/weirlaw4.started: function 7 -/
noncomputable def l4_started.B : Code := (Tryz.f7.body).getD .skip
noncomputable def l4_started.cx : Fx := ⟨Tryz.prog, 7, Tryz.f7⟩
noncomputable def l4_started.out (r_ : Bool) : Value := .bool r_
noncomputable def l4_started.F0 (r_ : Bool) : Reach := .ret (l4_started.out r_)
noncomputable def l4_started  : M Bool :=
 addr_ParseIP str10 >>= fun r1 =>
 slot 28 >>= fun b2 =>
 l4_loop >>= fun r3 =>
 addr_PrintIP r3 >>= fun r4 =>
 l4_loop >>= fun r5 =>
 addr_Class r5 >>= fun r6 =>
 draw >>= fun _ =>
 l4_loop >>= fun r7 =>
 (if r1.1 = r7 then
   l4_num r1.2.1 >>= fun r8 =>
   pure (r8 == 0)
  else
   pure false) >>= fun y9 =>
 (if y9 = true then
   pure (r1.2.2 == 0)
  else
   pure false) >>= fun y10 =>
 (if y10 = true then
   pure (r4.1.toList == str10.toList)
  else
   pure false) >>= fun y11 =>
 (if y11 = true then
   l4_num r4.2 >>= fun r12 =>
   pure (r12 == 0)
  else
   pure false) >>= fun y13 =>
 (if y13 = true then
   pure (r6 == 2)
  else
   pure false) >>= fun y14 =>
 pure y14
theorem l4_started_ok  : Ref Tryz.prog 7 [] (l4_started) l4_started.out := by
 refine Ref.of (cd := l4_started.B) Tryz.func7 ?_
 show SJ l4_started.cx [.code l4_started.B] [] [] (l4_started) l4_started.F0
 unfold l4_started
 refine SJ.sr 1 <| OJ.go 1 [(0, .bool false)] <| OJ.nil <| SJ.sr 9 <| OJ.call (d := 8) (g := 9) (ats := #[9]) (args := [.const (.string str10)]) (owed := []) F9 (addr_ParseIP_ok str10) (fun r1 => ?_)
 refine OW.nil <| OJ.go 4 [(11, .int .i64 r1.2.2), (10, .int .i64 r1.2.1), (9, c_api_IP.val r1.1), (7, .tuple #[c_api_IP.val r1.1, .int .i64 r1.2.1, .int .i64 r1.2.2])] <| OJ.slotOf (d := 1) (op := (.alloc 28)) (cd := c_api_IP) (u := z_api_IP) (owed := []) (alloc_run Ty28) (fun b2 => ?_)
 refine OW.nil <| OJ.kst (y := .tmp 1) (z := .tmp 9) (cd := c_api_IP) (u := r1.1) (j := 0) (b := b2) (o := 0) (c_api_IP.enc r1.1) (owed := []) Ty28 rfl (Upd.whole ((Cod.len _ _).trans (Cod.len _ _).symm)) rfl ?_
 refine OW.nil <| OJ.go 2 [(3, .int .i64 r1.2.2), (2, .int .i64 r1.2.1)] <| OJ.nil <| SJ.sr 7 <| OJ.call (d := 13) (g := 11) (ats := #[]) (args := []) (owed := []) F11 (l4_loop_ok ) (fun r3 => ?_)
 refine OW.nil <| OJ.call (d := 14) (g := 10) (ats := #[28]) (args := [.tmp 13]) (owed := []) F10 (addr_PrintIP_ok r3) (fun r4 => ?_)
 refine OW.nil <| OJ.go 5 [(5, .int .i64 r4.2), (4, .string r4.1), (16, .int .i64 r4.2), (15, .string r4.1), (12, .tuple #[.string r4.1, .int .i64 r4.2])] <| OJ.nil <| SJ.sr 3 <| OJ.call (d := 17) (g := 11) (ats := #[]) (args := []) (owed := []) F11 (l4_loop_ok ) (fun r5 => ?_)
 refine OW.nil <| OJ.call (d := 18) (g := 12) (ats := #[28]) (args := [.tmp 17]) (owed := []) F12 (addr_Class_ok r5) (fun r6 => ?_)
 refine OW.nil <| OJ.go 1 [(6, .int .i64 r6)] <| OJ.nil <| SJ.seq <| SJ.draw (id := 4) (kd := [1, 2, 0, 0, 0, 2, 0, 0, 0, 0, 0, 0, 0, 0, 0, 0, 0, 0, 2, 0, 0, 0, 0, 0, 0, 0]) (bef := [0, 0, 3, 7, 15, 31, 63, 127, 255, 511, 1023, 2047, 4095, 8191, 16383, 32767, 65535, 131071, 262143, 524287, 1048575, 2097151, 4194303, 8388607, 16777215, 33554431]) (ord := [0, 1, 2, 3, 4, 5, 6, 7, 8, 9, 10, 11, 12, 13, 14, 15, 16, 17, 18, 19, 20, 21, 22, 23, 24, 25]) mixed ?_
 refine OJ.kld (d := 19) (y := .tmp 1) (cd := c_api_IP) (j := 0) (b := b2) (o := 0) r1.1 (pend2 := [⟨0, 28, (pt b2 0), c_api_IP.val r1.1⟩]) Ty28 rfl (At.whole _) rfl ?_
 refine OJ.call (d := 20) (g := 11) (ats := #[]) (args := []) (owed := [⟨0, 28, (pt b2 0), c_api_IP.val r1.1⟩]) F11 (l4_loop_ok ) (fun r7 => ?_)
 refine OW.known (j := 0) (q := r1.1) Ty28 rfl (At.whole _) ?_
 refine OW.nil <| OJ.eql (d := 21) (T := 28) (yT := 28) (y := .tmp 19) (z := .tmp 20) (cd := c_api_IP) (p := r1.1) (q := r7) rfl Eq28 ?_
 refine OJ.go 1 [(22, .bool (eqv r1.1 r7))] <| OJ.join (b := (eqv r1.1 r7)) [4, 5, 6, 7] [8, 9, 10, 11, 12, 13, 14, 15, 16, 17, 18, 19, 20, 21, 22, 23, 24, 25] [3, 4, 5, 6, 26] (fun y9 => [(3, .int .i64 r1.2.2), (4, .string r4.1), (5, .int .i64 r4.2), (6, .int .i64 r6), (26, .bool y9)]) [⟨0, 28, (pt b2 0), c_api_IP.val r1.1⟩] [] (t := 22) eqv_iff (fun hp_ => ?_) (fun hp_ => ?_) (fun _ _ _ _ _ _ h_ => h_) (fun y9 => ?_)
 ·refine OJ.go 1 [(23, .int .i64 r1.2.1)] <| OJ.call (d := 24) (g := 13) (ats := #[29]) (args := [.tmp 23]) (owed := []) F13 (l4_num_ok r1.2.1) (fun r8 => ?_)
  exact OW.nil <| OJ.go 2 [(26, .bool (r8 == 0)), (25, .bool (r8 == 0))] <| OJ.nil ⟨(Cov.mem (Cov.keep (List.mem_of_getElem? (i := 0) rfl) Cov.nil)), rfl, _, rfl, by kernel_rfl⟩
 ·exact OJ.go 4 [(26, .bool false), (25, undef), (24, undef), (23, undef)] <| OJ.nil ⟨(Cov.mem (Cov.keep (List.mem_of_getElem? (i := 0) rfl) Cov.nil)), rfl, _, rfl, by kernel_rfl⟩
 ·refine OJ.go 1 [(27, .bool y9)] <| OJ.join (b := y9) [9, 10, 11] [12, 13, 14, 15, 16, 17, 18, 19, 20, 21, 22, 23, 24, 25] [4, 5, 6, 30] (fun y10 => [(4, .string r4.1), (5, .int .i64 r4.2), (6, .int .i64 r6), (30, .bool y10)]) [⟨0, 28, (pt b2 0), c_api_IP.val r1.1⟩] [] (t := 27) Iff.rfl (fun hp_ => ?_) (fun hp_ => ?_) (fun _ _ _ _ _ _ h_ => h_) (fun y10 => ?_)
  ·exact OJ.go 3 [(30, .bool (r1.2.2 == 0)), (29, .bool (r1.2.2 == 0)), (28, .int .i64 r1.2.2)] <| OJ.nil ⟨(Cov.mem (Cov.keep (List.mem_of_getElem? (i := 0) rfl) Cov.nil)), rfl, _, rfl, by kernel_rfl⟩
  ·exact OJ.go 3 [(30, .bool false), (29, undef), (28, undef)] <| OJ.nil ⟨(Cov.mem (Cov.keep (List.mem_of_getElem? (i := 0) rfl) Cov.nil)), rfl, _, rfl, by kernel_rfl⟩
  ·refine OJ.go 1 [(31, .bool y10)] <| OJ.join (b := y10) [13, 14, 15] [16, 17, 18, 19, 20, 21, 22, 23, 24, 25] [5, 6, 34] (fun y11 => [(5, .int .i64 r4.2), (6, .int .i64 r6), (34, .bool y11)]) [⟨0, 28, (pt b2 0), c_api_IP.val r1.1⟩] [] (t := 31) Iff.rfl (fun hp_ => ?_) (fun hp_ => ?_) (fun _ _ _ _ _ _ h_ => h_) (fun y11 => ?_)
   ·exact OJ.go 3 [(34, .bool (r4.1.toList == str10.toList)), (33, .bool (r4.1.toList == str10.toList)), (32, .string r4.1)] <| OJ.nil ⟨(Cov.mem (Cov.keep (List.mem_of_getElem? (i := 0) rfl) Cov.nil)), rfl, _, rfl, by kernel_rfl⟩
   ·exact OJ.go 3 [(34, .bool false), (33, undef), (32, undef)] <| OJ.nil ⟨(Cov.mem (Cov.keep (List.mem_of_getElem? (i := 0) rfl) Cov.nil)), rfl, _, rfl, by kernel_rfl⟩
   ·refine OJ.go 1 [(35, .bool y11)] <| OJ.join (b := y11) [17, 18, 19, 20] [21, 22, 23, 24, 25] [6, 39] (fun y13 => [(6, .int .i64 r6), (39, .bool y13)]) [⟨0, 28, (pt b2 0), c_api_IP.val r1.1⟩] [] (t := 35) Iff.rfl (fun hp_ => ?_) (fun hp_ => ?_) (fun _ _ _ _ _ _ h_ => h_) (fun y13 => ?_)
    ·refine OJ.go 1 [(36, .int .i64 r4.2)] <| OJ.call (d := 37) (g := 13) (ats := #[29]) (args := [.tmp 36]) (owed := []) F13 (l4_num_ok r4.2) (fun r12 => ?_)
     exact OW.nil <| OJ.go 2 [(39, .bool (r12 == 0)), (38, .bool (r12 == 0))] <| OJ.nil ⟨(Cov.mem (Cov.keep (List.mem_of_getElem? (i := 0) rfl) Cov.nil)), rfl, _, rfl, by kernel_rfl⟩
    ·exact OJ.go 4 [(39, .bool false), (38, undef), (37, undef), (36, undef)] <| OJ.nil ⟨(Cov.mem (Cov.keep (List.mem_of_getElem? (i := 0) rfl) Cov.nil)), rfl, _, rfl, by kernel_rfl⟩
    ·refine OJ.go 1 [(40, .bool y13)] <| OJ.join (b := y13) [22, 23, 24] [25] [43] (fun y14 => [(43, .bool y14)]) [⟨0, 28, (pt b2 0), c_api_IP.val r1.1⟩] [] (t := 40) Iff.rfl (fun hp_ => ?_) (fun hp_ => ?_) (fun _ _ _ _ _ _ h_ => h_) (fun y14 => ?_)
     ·exact OJ.go 3 [(43, .bool (r6 == 2)), (42, .bool (r6 == 2)), (41, .int .i64 r6)] <| OJ.nil ⟨(Cov.mem (Cov.keep (List.mem_of_getElem? (i := 0) rfl) Cov.nil)), rfl, _, rfl, by kernel_rfl⟩
     ·exact OJ.go 3 [(43, .bool false), (42, undef), (41, undef)] <| OJ.nil ⟨(Cov.mem (Cov.keep (List.mem_of_getElem? (i := 0) rfl) Cov.nil)), rfl, _, rfl, by kernel_rfl⟩
     ·exact OJ.go 1 [(0, .bool y14)] <| OJ.nil <| SJ.r1 (.bool y14) rfl rfl
end Go.Proofs.YtddmmgcfanpmmaaGreatDoor.Lx
