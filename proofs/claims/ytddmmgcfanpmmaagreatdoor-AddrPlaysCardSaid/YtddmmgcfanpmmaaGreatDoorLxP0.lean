/- Programs of the M-world for Go functions, each with the proof that the Go text does what it says. Printed by lxgen.py. -/
import Derived.Test.YtddmmgcfanpmmaaGreatDoorLxT
set_option linter.unusedVariables false
set_option linter.unusedSimpArgs false
namespace Go.Proofs.YtddmmgcfanpmmaaGreatDoor.Lx
open Go Go.Proofs
/-! ### internal/stringslite.IndexByte: function 99 -/
noncomputable def stringslite_IndexByte.B : Code := (Tryz.f99.body).getD .skip
noncomputable def stringslite_IndexByte.cx : Fx := ⟨Tryz.prog, 99, Tryz.f99⟩
noncomputable def stringslite_IndexByte.out (r_ : Int) : Value := .int .i64 r_
noncomputable def stringslite_IndexByte.F0 (r_ : Int) : Reach := .ret (stringslite_IndexByte.out r_)
noncomputable def stringslite_IndexByte (a0 : ByteArray) (a1 : Int) : M Int :=
 idxB a0 a1 >>= fun r1 =>
 pure r1
theorem stringslite_IndexByte_ok (a0 : ByteArray) (a1 : Int) : Ref Tryz.prog 99 [.string a0, .int .u8 a1] (stringslite_IndexByte a0 a1) stringslite_IndexByte.out := by
 refine Ref.of (cd := stringslite_IndexByte.B) Tryz.func99 ?_
 show SJ stringslite_IndexByte.cx [.code stringslite_IndexByte.B] [(0, .string a0), (1, .int .u8 a1)] [] (stringslite_IndexByte a0 a1) stringslite_IndexByte.F0
 unfold stringslite_IndexByte
 refine SJ.sr 1 <| OJ.go 1 [(4, .int .i64 0)] <| OJ.nil <| SJ.sr 4 <| OJ.go 2 [(6, .int .u8 a1), (5, .string a0)] <| OJ.ext (d := 7) (g := 112) (ats := #[9, 5]) (args := [.tmp 5, .tmp 6]) (out := fun r => .int .i64 r) (owed := []) Tryz.func112 idxB_run (fun r1 => ?_)
 exact OW.nil <| OJ.go 1 [(4, .int .i64 r1)] <| OJ.nil <| SJ.r1 (.int .i64 r1) rfl rfl

/-! ### internal/stringslite.Index: function 84 -/
noncomputable def stringslite_Index.B : Code := (Tryz.f84.body).getD .skip
noncomputable def stringslite_Index.cx : Fx := ⟨Tryz.prog, 84, Tryz.f84⟩
noncomputable def stringslite_Index.out (r_ : Int) : Value := .int .i64 r_
noncomputable def stringslite_Index.F0 (r_ : Int) : Reach := .ret (stringslite_Index.out r_)
noncomputable def stringslite_Index (a0 : ByteArray) (a1 : ByteArray) : M Int :=
 (if (a1.size : Int) = 0 then
   pure true
  else
   pure (a1.toList == a0.toList)) >>= fun y1 =>
 if y1 = true then
  pure 0
 else
  if (a1.size : Int) = 1 then
   chk ((0 : Int) ≤ 0 ∧ 0 < (a1.size : Int)) >>= fun _ =>
   stringslite_IndexByte a0 (sb a1 0) >>= fun r14 =>
   pure r14
  else
   fail
theorem stringslite_Index_ok (a0 : ByteArray) (a1 : ByteArray) : Ref Tryz.prog 84 [.string a0, .string a1] (stringslite_Index a0 a1) stringslite_Index.out := by
 refine Ref.of (cd := stringslite_Index.B) Tryz.func84 ?_
 show SJ stringslite_Index.cx [.code stringslite_Index.B] [(0, .string a0), (1, .string a1)] [] (stringslite_Index a0 a1) stringslite_Index.F0
 unfold stringslite_Index
 refine SJ.sr 1 <| OJ.go 1 [(4, .int .i64 0)] <| OJ.nil <| SJ.sr 3 <| OJ.go 3 [(5, .int .i64 (a1.size : Int)), (15, .int .i64 (a1.size : Int)), (14, .string a1)] <| OJ.nil <| SJ.seq <| SJ.block (id := 0) <| SJ.sr 8 <| OJ.go 3 [(19, .bool ((a1.size : Int) == 0)), (18, .bool ((a1.size : Int) == 0)), (17, .int .i64 (a1.size : Int))] <| OJ.join (b := ((a1.size : Int) == 0)) [3, 4, 5, 6] [7] [0, 1, 5, 23] (fun y1 => [(0, .string a0), (1, .string a1), (5, .int .i64 (a1.size : Int)), (23, .bool y1)]) [] [] (t := 19) beq_iff_eq (fun hp_ => ?_) (fun hp_ => ?_) (fun _ _ _ _ _ _ h_ => h_) (fun y1 => ?_)
 ·exact OJ.go 4 [(23, .bool true), (22, undef), (21, undef), (20, undef)] <| OJ.x0
 ·exact OJ.go 4 [(23, .bool (a1.toList == a0.toList)), (22, .bool (a1.toList == a0.toList)), (21, .string a0), (20, .string a1)] <| OJ.x0
 ·refine OJ.go 1 [(16, .bool y1)] <| OJ.nil <| SJ.cond (t := (.tmp 16)) (b := y1) Iff.rfl (fun hc16 => ?_) (fun hc16 => ?_)
  ·exact SJ.sr 1 <| OJ.go 1 [(4, .int .i64 0)] <| OJ.nil <| SJ.r1 (.int .i64 0) rfl rfl
  ·refine SJ.sr 3 <| OJ.go 3 [(24, .bool ((a1.size : Int) == 1)), (26, .bool ((a1.size : Int) == 1)), (25, .int .i64 (a1.size : Int))] <| OJ.nil <| SJ.cond (t := (.tmp 24)) (b := ((a1.size : Int) == 1)) beq_iff_eq (fun hc15 => ?_) (fun hc15 => ?_)
   ·refine SJ.sr 5 <| OJ.go 2 [(28, .string a1), (27, .string a0)] <| OJ.idxT (d := 29) (T := 9) (y := .tmp 28) (j := .const (.int .i64 0)) (k := .i64) (fun hb12 hb13 => ?_)
    refine OJ.call (d := 30) (g := 99) (ats := #[9, 5]) (args := [.tmp 27, .tmp 29]) (owed := []) F99 (stringslite_IndexByte_ok a0 (sb a1 0)) (fun r14 => ?_)
    exact OW.nil <| OJ.go 1 [(4, .int .i64 r14)] <| OJ.nil <| SJ.r1 (.int .i64 r14) rfl rfl
   ·exact SJ.fail

/-! ### strings.Index: function 56 -/
noncomputable def strings_Index.B : Code := (Tryz.f56.body).getD .skip
noncomputable def strings_Index.cx : Fx := ⟨Tryz.prog, 56, Tryz.f56⟩
noncomputable def strings_Index.out (r_ : Int) : Value := .int .i64 r_
noncomputable def strings_Index.F0 (r_ : Int) : Reach := .ret (strings_Index.out r_)
noncomputable def strings_Index (a0 : ByteArray) (a1 : ByteArray) : M Int :=
 stringslite_Index a0 a1 >>= fun r1 =>
 pure r1
theorem strings_Index_ok (a0 : ByteArray) (a1 : ByteArray) : Ref Tryz.prog 56 [.string a0, .string a1] (strings_Index a0 a1) strings_Index.out := by
 refine Ref.of (cd := strings_Index.B) Tryz.func56 ?_
 show SJ strings_Index.cx [.code strings_Index.B] [(0, .string a0), (1, .string a1)] [] (strings_Index a0 a1) strings_Index.F0
 unfold strings_Index
 refine SJ.sr 1 <| OJ.go 1 [(4, .int .i64 0)] <| OJ.nil <| SJ.sr 4 <| OJ.go 2 [(6, .string a1), (5, .string a0)] <| OJ.call (d := 7) (g := 84) (ats := #[9, 9]) (args := [.tmp 5, .tmp 6]) (owed := []) F84 (stringslite_Index_ok a0 a1) (fun r1 => ?_)
 exact OW.nil <| OJ.go 1 [(4, .int .i64 r1)] <| OJ.nil <| SJ.r1 (.int .i64 r1) rfl rfl

/-! ### strings.Contains: function 28 -/
noncomputable def strings_Contains.B : Code := (Tryz.f28.body).getD .skip
noncomputable def strings_Contains.cx : Fx := ⟨Tryz.prog, 28, Tryz.f28⟩
noncomputable def strings_Contains.out (r_ : Bool) : Value := .bool r_
noncomputable def strings_Contains.F0 (r_ : Bool) : Reach := .ret (strings_Contains.out r_)
noncomputable def strings_Contains (a0 : ByteArray) (a1 : ByteArray) : M Bool :=
 strings_Index a0 a1 >>= fun r1 =>
 pure (decide (r1 ≥ 0))
theorem strings_Contains_ok (a0 : ByteArray) (a1 : ByteArray) : Ref Tryz.prog 28 [.string a0, .string a1] (strings_Contains a0 a1) strings_Contains.out := by
 refine Ref.of (cd := strings_Contains.B) Tryz.func28 ?_
 show SJ strings_Contains.cx [.code strings_Contains.B] [(0, .string a0), (1, .string a1)] [] (strings_Contains a0 a1) strings_Contains.F0
 unfold strings_Contains
 refine SJ.sr 1 <| OJ.go 1 [(4, .bool false)] <| OJ.nil <| SJ.sr 5 <| OJ.go 2 [(6, .string a1), (5, .string a0)] <| OJ.call (d := 7) (g := 56) (ats := #[9, 9]) (args := [.tmp 5, .tmp 6]) (owed := []) F56 (strings_Index_ok a0 a1) (fun r1 => ?_)
 exact OW.nil <| OJ.go 2 [(4, .bool (decide (r1 ≥ 0))), (8, .bool (decide (r1 ≥ 0)))] <| OJ.nil <| SJ.r1 (.bool (decide (r1 ≥ 0))) rfl rfl

/-! ### weir/addr.missing: function 57 -/
noncomputable def addr_missing.B : Code := (Tryz.f57.body).getD .skip
noncomputable def addr_missing.cx : Fx := ⟨Tryz.prog, 57, Tryz.f57⟩
noncomputable def addr_missing.out (r_ : (Option Addr)) : Value := .pointer r_
noncomputable def addr_missing.F0 (r_ : (Option Addr)) : Reach := .ret (addr_missing.out r_)
noncomputable def addr_missing (a0 : ByteArray) (a1 : Int) : M (Option Addr) :=
 if a1 = (a0.size : Int) then
  newv 48 c_addr_fault (⟨42, a1⟩ : addr_fault) >>= fun b2 =>
  pure (some (pt b2 0))
 else
  newv 48 c_addr_fault (⟨41, a1⟩ : addr_fault) >>= fun b3 =>
  pure (some (pt b3 0))
theorem addr_missing_ok (a0 : ByteArray) (a1 : Int) : Ref Tryz.prog 57 [.string a0, .int .i64 a1] (addr_missing a0 a1) addr_missing.out := by
 refine Ref.of (cd := addr_missing.B) Tryz.func57 ?_
 show SJ addr_missing.cx [.code addr_missing.B] [(0, .string a0), (1, .int .i64 a1)] [] (addr_missing a0 a1) addr_missing.F0
 unfold addr_missing
 refine SJ.sr 1 <| OJ.go 1 [(4, .pointer none)] <| OJ.nil <| SJ.seq <| SJ.sr 4 <| OJ.go 4 [(8, .bool (a1 == (a0.size : Int))), (7, .int .i64 (a0.size : Int)), (6, .string a0), (5, .int .i64 a1)] <| OJ.nil <| SJ.cond (t := (.tmp 8)) (b := (a1 == (a0.size : Int))) beq_iff_eq (fun hc4 => ?_) (fun hc4 => ?_)
 ·refine SJ.sr 4 <| OJ.go 1 [(9, .int .i64 a1)] <| OJ.build (d := 10) (T := 48) (parts := [(0, .const (.int .i64 42)), (1, .tmp 9)]) (ps := [(0, (cI .i64).val 42), (1, (cI .i64).val a1)]) (cd := c_addr_fault) (z0 := z_addr_fault) (⟨42, a1⟩ : addr_fault) Ty48 rfl (Filled.cons (cd := (cI .i64)) (q := 42) (o := 0) (by kernel_rfl) (Up_addr_fault_why z_addr_fault 42) (Filled.cons (cd := (cI .i64)) (q := a1) (o := 1) (by kernel_rfl) (Up_addr_fault_at_ (⟨42, z_addr_fault.at_⟩ : addr_fault) a1) Filled.nil)) ?_
  refine OJ.newOf (d := 11) (op := (.box 48 (.tmp 10))) (cd := c_addr_fault) (u := (⟨42, a1⟩ : addr_fault)) (owed := []) (box_run (by kernel_rfl)) (fun b2 => ?_)
  exact OW.nil <| OJ.go 1 [(4, .pointer (some (pt b2 0)))] <| OJ.nil <| SJ.r1 (.pointer (some (pt b2 0))) rfl rfl
 ·refine SJ.skip <| SJ.sr 4 <| OJ.go 1 [(12, .int .i64 a1)] <| OJ.build (d := 13) (T := 48) (parts := [(0, .const (.int .i64 41)), (1, .tmp 12)]) (ps := [(0, (cI .i64).val 41), (1, (cI .i64).val a1)]) (cd := c_addr_fault) (z0 := z_addr_fault) (⟨41, a1⟩ : addr_fault) Ty48 rfl (Filled.cons (cd := (cI .i64)) (q := 41) (o := 0) (by kernel_rfl) (Up_addr_fault_why z_addr_fault 41) (Filled.cons (cd := (cI .i64)) (q := a1) (o := 1) (by kernel_rfl) (Up_addr_fault_at_ (⟨41, z_addr_fault.at_⟩ : addr_fault) a1) Filled.nil)) ?_
  refine OJ.newOf (d := 14) (op := (.box 48 (.tmp 13))) (cd := c_addr_fault) (u := (⟨41, a1⟩ : addr_fault)) (owed := []) (box_run (by kernel_rfl)) (fun b3 => ?_)
  exact OW.nil <| OJ.go 1 [(4, .pointer (some (pt b3 0)))] <| OJ.nil <| SJ.r1 (.pointer (some (pt b3 0))) rfl rfl

/-! ### weir/addr.digit: function 85 -/
noncomputable def addr_digit.B : Code := (Tryz.f85.body).getD .skip
noncomputable def addr_digit.cx : Fx := ⟨Tryz.prog, 85, Tryz.f85⟩
noncomputable def addr_digit.out (r_ : Bool) : Value := .bool r_
noncomputable def addr_digit.F0 (r_ : Bool) : Reach := .ret (addr_digit.out r_)
noncomputable def addr_digit (a0 : Int) : M Bool :=
 (if a0 ≥ 48 then
   pure (decide (a0 ≤ 57))
  else
   pure false) >>= fun y1 =>
 pure y1
theorem addr_digit_ok (a0 : Int) : Ref Tryz.prog 85 [.int .u8 a0] (addr_digit a0) addr_digit.out := by
 refine Ref.of (cd := addr_digit.B) Tryz.func85 ?_
 show SJ addr_digit.cx [.code addr_digit.B] [(0, .int .u8 a0)] [] (addr_digit a0) addr_digit.F0
 unfold addr_digit
 refine SJ.sr 1 <| OJ.go 1 [(2, .bool false)] <| OJ.nil <| SJ.sr 7 <| OJ.go 3 [(5, .bool (decide (a0 ≥ 48))), (4, .bool (decide (a0 ≥ 48))), (3, .int .u8 a0)] <| OJ.join (b := decide (a0 ≥ 48)) [3, 4, 5] [6] [8] (fun y1 => [(8, .bool y1)]) [] [] (t := 5) decide_eq_true_iff (fun hp_ => ?_) (fun hp_ => ?_) (fun _ _ _ _ _ _ h_ => h_) (fun y1 => ?_)
 ·exact OJ.go 3 [(8, .bool (decide (a0 ≤ 57))), (7, .bool (decide (a0 ≤ 57))), (6, .int .u8 a0)] <| OJ.x0
 ·exact OJ.go 3 [(8, .bool false), (7, undef), (6, undef)] <| OJ.x0
 ·exact OJ.go 1 [(2, .bool y1)] <| OJ.nil <| SJ.r1 (.bool y1) rfl rfl

/-! ### weir/addr.number: function 58 -/
noncomputable def addr_number.B : Code := (Tryz.f58.body).getD .skip
noncomputable def addr_number.cx : Fx := ⟨Tryz.prog, 58, Tryz.f58⟩
noncomputable def addr_number.out (r_ : (Int × Int × (Option Addr))) : Value := .tuple #[.int .i64 r_.1, .int .i64 r_.2.1, .pointer r_.2.2]
noncomputable def addr_number.F0 (r_ : (Int × Int × (Option Addr))) : Reach := .ret (addr_number.out r_)
noncomputable def addr_number.F1 (a0 : ByteArray) (a1 : Int) (a2 : Int) (a3 : Int) (s1 : Int) : (LS (Int × Int) (Int × Int × (Option Addr))) → Reach := loopF [.inLoop (c1 (c1 (c2 (c1 (c2 (c2 (c2 (c2 (c2 (c2 addr_number.B)))))))))), .inBlock 2, .code (c2 (c2 (c2 (c2 (c2 (c2 (c2 addr_number.B)))))))] (fun s_ : (Int × Int) => [(0, .string a0), (1, .int .i64 a1), (2, .int .i64 a2), (3, .int .i64 a3), (11, .int .i64 s1), (12, .int .i64 s_.1), (13, .int .i64 s_.2)]) (fun s_ : (Int × Int) => []) addr_number.F0
noncomputable def addr_number.L1 (a0 : ByteArray) (a1 : Int) (a2 : Int) (a3 : Int) (s1 : Int) (s15 : Int) (s16 : Int) : M (LS (Int × Int) (Int × Int × (Option Addr))) :=
 if s16 < s1 then
  chk ((0 : Int) ≤ s16 ∧ s16 < (a0.size : Int)) >>= fun _ =>
  pure (LS.next (IntKind.wrap .i64 ((IntKind.wrap .i64 (10 * s15)) + (IntKind.wrap .i64 (IntKind.wrap .u8 ((sb a0 s16) - 48)))), IntKind.wrap .i64 (s16 + 1)))
 else
  if s15 > a2 then
   newv 48 c_addr_fault (⟨a3, a1⟩ : addr_fault) >>= fun b26 =>
   pure (LS.done (0, 0, (some (pt b26 0))))
  else
   pure (LS.done (s15, s1, none))
theorem addr_number.L1_ok (a0 : ByteArray) (a1 : Int) (a2 : Int) (a3 : Int) (s1 : Int) (s15 : Int) (s16 : Int) :
  SJ addr_number.cx [.code (c1 (c1 (c2 (c1 (c2 (c2 (c2 (c2 (c2 (c2 addr_number.B)))))))))), .inLoop (c1 (c1 (c2 (c1 (c2 (c2 (c2 (c2 (c2 (c2 addr_number.B)))))))))), .inBlock 2, .code (c2 (c2 (c2 (c2 (c2 (c2 (c2 addr_number.B)))))))] [(0, .string a0), (1, .int .i64 a1), (2, .int .i64 a2), (3, .int .i64 a3), (11, .int .i64 s1), (12, .int .i64 s15), (13, .int .i64 s16)] [] (addr_number.L1 a0 a1 a2 a3 s1 s15 s16) (addr_number.F1 a0 a1 a2 a3 s1) := by
 unfold addr_number.L1
 refine SJ.seq <| SJ.sr 3 <| OJ.go 3 [(56, .bool (decide (s16 < s1))), (55, .int .i64 s1), (54, .int .i64 s16)] <| OJ.nil <| SJ.cond (t := (.tmp 56)) (b := decide (s16 < s1)) decide_eq_true_iff (fun hc28 => ?_) (fun hc28 => ?_)
 ·refine SJ.skip <| SJ.seq <| SJ.block (id := 3) <| SJ.rg 9 <| OJ.go 4 [(62, .int .i64 s16), (61, .string a0), (60, .int .i64 (IntKind.wrap .i64 (10 * s15))), (59, .int .i64 s15)] <| OJ.idxT (d := 63) (T := 9) (y := .tmp 61) (j := .tmp 62) (k := .i64) (fun hb23 hb24 => ?_)
  exact OJ.go 4 [(12, .int .i64 (IntKind.wrap .i64 ((IntKind.wrap .i64 (10 * s15)) + (IntKind.wrap .i64 (IntKind.wrap .u8 ((sb a0 s16) - 48)))))), (66, .int .i64 (IntKind.wrap .i64 ((IntKind.wrap .i64 (10 * s15)) + (IntKind.wrap .i64 (IntKind.wrap .u8 ((sb a0 s16) - 48)))))), (65, .int .i64 (IntKind.wrap .i64 (IntKind.wrap .u8 ((sb a0 s16) - 48)))), (64, .int .u8 (IntKind.wrap .u8 ((sb a0 s16) - 48)))] <| OJ.nil <| SJ.inBlock <| SJ.rg 3 <| OJ.go 3 [(13, .int .i64 (IntKind.wrap .i64 (s16 + 1))), (58, .int .i64 (IntKind.wrap .i64 (s16 + 1))), (57, .int .i64 s16)] <| OJ.nil <| SJ.at_ [0, 1, 2, 3, 11, 12, 13] rfl
 ·refine SJ.exit (id := 2) (by rfl) <| SJ.seq <| SJ.sr 3 <| OJ.go 3 [(69, .bool (decide (s15 > a2))), (68, .int .i64 a2), (67, .int .i64 s15)] <| OJ.nil <| SJ.cond (t := (.tmp 69)) (b := decide (s15 > a2)) decide_eq_true_iff (fun hc27 => ?_) (fun hc27 => ?_)
  ·refine SJ.sr 7 <| OJ.go 2 [(71, .int .i64 a1), (70, .int .i64 a3)] <| OJ.build (d := 72) (T := 48) (parts := [(0, .tmp 70), (1, .tmp 71)]) (ps := [(0, (cI .i64).val a3), (1, (cI .i64).val a1)]) (cd := c_addr_fault) (z0 := z_addr_fault) (⟨a3, a1⟩ : addr_fault) Ty48 rfl (Filled.cons (cd := (cI .i64)) (q := a3) (o := 0) (by kernel_rfl) (Up_addr_fault_why z_addr_fault a3) (Filled.cons (cd := (cI .i64)) (q := a1) (o := 1) (by kernel_rfl) (Up_addr_fault_at_ (⟨a3, z_addr_fault.at_⟩ : addr_fault) a1) Filled.nil)) ?_
   refine OJ.newOf (d := 73) (op := (.box 48 (.tmp 72))) (cd := c_addr_fault) (u := (⟨a3, a1⟩ : addr_fault)) (owed := []) (box_run (by kernel_rfl)) (fun b26 => ?_)
   exact OW.nil <| OJ.go 3 [(10, .pointer (some (pt b26 0))), (9, .int .i64 0), (8, .int .i64 0)] <| OJ.nil <| SJ.r3 (.int .i64 0) (.int .i64 0) (.pointer (some (pt b26 0))) rfl rfl
  ·exact SJ.skip <| SJ.sr 5 <| OJ.go 5 [(10, .pointer none), (9, .int .i64 s1), (8, .int .i64 s15), (75, .int .i64 s1), (74, .int .i64 s15)] <| OJ.nil <| SJ.r3 (.int .i64 s15) (.int .i64 s1) (.pointer none) rfl rfl
noncomputable def addr_number.K1 (a0 : ByteArray) (a1 : Int) (a2 : Int) (a3 : Int) (s1 : Int) : M (Int × Int × (Option Addr)) :=
 if s1 = a1 then
  addr_missing a0 a1 >>= fun r8 =>
  pure (0, 0, r8)
 else
  (if (IntKind.wrap .i64 (s1 - a1)) > 3 then
    pure true
   else
    (if (IntKind.wrap .i64 (s1 - a1)) > 1 then
      chk ((0 : Int) ≤ a1 ∧ a1 < (a0.size : Int)) >>= fun _ =>
      pure ((sb a0 a1) == 48)
     else
      pure false) >>= fun y11 =>
    pure y11) >>= fun y12 =>
  if y12 = true then
   newv 48 c_addr_fault (⟨a3, a1⟩ : addr_fault) >>= fun b14 =>
   pure (0, 0, (some (pt b14 0)))
  else
   loopM (fun s_ : (Int × Int) => addr_number.L1 a0 a1 a2 a3 s1 s_.1 s_.2) (0, a1)
theorem addr_number.K1_ok (a0 : ByteArray) (a1 : Int) (a2 : Int) (a3 : Int) (s1 : Int) :
  SJ addr_number.cx [.code (c2 (c2 (c2 addr_number.B)))] [(0, .string a0), (1, .int .i64 a1), (2, .int .i64 a2), (3, .int .i64 a3), (11, .int .i64 s1)] [] (addr_number.K1 a0 a1 a2 a3 s1) addr_number.F0 := by
 unfold addr_number.K1
 refine SJ.seq <| SJ.sr 3 <| OJ.go 3 [(29, .bool (s1 == a1)), (28, .int .i64 a1), (27, .int .i64 s1)] <| OJ.nil <| SJ.cond (t := (.tmp 29)) (b := (s1 == a1)) beq_iff_eq (fun hc30 => ?_) (fun hc30 => ?_)
 ·refine SJ.sr 6 <| OJ.go 2 [(31, .int .i64 a1), (30, .string a0)] <| OJ.call (d := 32) (g := 57) (ats := #[9, 3]) (args := [.tmp 30, .tmp 31]) (owed := []) F57 (addr_missing_ok a0 a1) (fun r8 => ?_)
  exact OW.nil <| OJ.go 3 [(10, .pointer r8), (9, .int .i64 0), (8, .int .i64 0)] <| OJ.nil <| SJ.r3 (.int .i64 0) (.int .i64 0) (.pointer r8) rfl rfl
 ·refine SJ.skip <| SJ.seq <| SJ.sr 16 <| OJ.go 5 [(37, .bool (decide ((IntKind.wrap .i64 (s1 - a1)) > 3))), (36, .bool (decide ((IntKind.wrap .i64 (s1 - a1)) > 3))), (35, .int .i64 (IntKind.wrap .i64 (s1 - a1))), (34, .int .i64 a1), (33, .int .i64 s1)] <| OJ.join (b := decide ((IntKind.wrap .i64 (s1 - a1)) > 3)) [5, 6, 7, 8, 9, 10, 11, 12, 13, 14, 15] [] [0, 1, 2, 3, 11, 48] (fun y12 => [(0, .string a0), (1, .int .i64 a1), (2, .int .i64 a2), (3, .int .i64 a3), (11, .int .i64 s1), (48, .bool y12)]) [] [] (t := 37) decide_eq_true_iff (fun hp_ => ?_) (fun hp_ => ?_) (fun _ _ _ _ _ _ h_ => h_) (fun y12 => ?_)
  ·exact OJ.go 11 [(48, .bool true), (47, undef), (46, undef), (45, undef), (44, undef), (43, undef), (42, undef), (41, undef), (40, undef), (39, undef), (38, undef)] <| OJ.x0
  ·refine OJ.go 5 [(42, .bool (decide ((IntKind.wrap .i64 (s1 - a1)) > 1))), (41, .bool (decide ((IntKind.wrap .i64 (s1 - a1)) > 1))), (40, .int .i64 (IntKind.wrap .i64 (s1 - a1))), (39, .int .i64 a1), (38, .int .i64 s1)] <| OJ.join (b := decide ((IntKind.wrap .i64 (s1 - a1)) > 1)) [10, 11, 12, 13, 14] [15] [0, 1, 2, 3, 11, 37, 47] (fun y11 => [(0, .string a0), (1, .int .i64 a1), (2, .int .i64 a2), (3, .int .i64 a3), (11, .int .i64 s1), (37, .bool false), (47, .bool y11)]) [] [] (t := 42) decide_eq_true_iff (fun hp_ => ?_) (fun hp_ => ?_) (fun _ _ _ _ _ hq_ h_ => ⟨fun e_ he_ => (hq_ e_ he_).elim (fun h => h_.1 e_ h) (fun h => nomatch h), h_.2⟩) (fun y11 => ?_)
   ·refine OJ.go 2 [(44, .int .i64 a1), (43, .string a0)] <| OJ.idxT (d := 45) (T := 9) (y := .tmp 43) (j := .tmp 44) (k := .i64) (fun hb9 hb10 => ?_)
    exact OJ.go 2 [(47, .bool ((sb a0 a1) == 48)), (46, .bool ((sb a0 a1) == 48))] <| OJ.x0
   ·exact OJ.go 5 [(47, .bool false), (46, undef), (45, undef), (44, undef), (43, undef)] <| OJ.x0
   ·exact OJ.go 1 [(48, .bool y11)] <| OJ.x0
  ·refine OJ.nil <| SJ.cond (t := (.tmp 48)) (b := y12) Iff.rfl (fun hc29 => ?_) (fun hc29 => ?_)
   ·refine SJ.sr 7 <| OJ.go 2 [(50, .int .i64 a1), (49, .int .i64 a3)] <| OJ.build (d := 51) (T := 48) (parts := [(0, .tmp 49), (1, .tmp 50)]) (ps := [(0, (cI .i64).val a3), (1, (cI .i64).val a1)]) (cd := c_addr_fault) (z0 := z_addr_fault) (⟨a3, a1⟩ : addr_fault) Ty48 rfl (Filled.cons (cd := (cI .i64)) (q := a3) (o := 0) (by kernel_rfl) (Up_addr_fault_why z_addr_fault a3) (Filled.cons (cd := (cI .i64)) (q := a1) (o := 1) (by kernel_rfl) (Up_addr_fault_at_ (⟨a3, z_addr_fault.at_⟩ : addr_fault) a1) Filled.nil)) ?_
    refine OJ.newOf (d := 52) (op := (.box 48 (.tmp 51))) (cd := c_addr_fault) (u := (⟨a3, a1⟩ : addr_fault)) (owed := []) (box_run (by kernel_rfl)) (fun b14 => ?_)
    exact OW.nil <| OJ.go 3 [(10, .pointer (some (pt b14 0))), (9, .int .i64 0), (8, .int .i64 0)] <| OJ.nil <| SJ.r3 (.int .i64 0) (.int .i64 0) (.pointer (some (pt b14 0))) rfl rfl
   ·exact SJ.skip <| SJ.sr 1 <| OJ.go 1 [(12, .int .i64 0)] <| OJ.nil <| SJ.seq <| SJ.sr 2 <| OJ.go 2 [(13, .int .i64 a1), (53, .int .i64 a1)] <| OJ.nil <| SJ.block (id := 2) <| SJ.loop (fun s_ : (Int × Int) => [(0, .string a0), (1, .int .i64 a1), (2, .int .i64 a2), (3, .int .i64 a3), (11, .int .i64 s1), (12, .int .i64 s_.1), (13, .int .i64 s_.2)]) (fun s_ : (Int × Int) => []) [0, 1, 2, 3, 11, 12, 13] rfl (fun _ _ => rfl) (fun s_ => addr_number.L1_ok a0 a1 a2 a3 s1 s_.1 s_.2)
noncomputable def addr_number.F2 (a0 : ByteArray) (a1 : Int) (a2 : Int) (a3 : Int) : (LS Int (Int × Int × (Option Addr))) → Reach := loopF [.inLoop (c1 (c1 (c1 (c2 (c2 addr_number.B))))), .inBlock 0, .code (c2 (c2 (c2 addr_number.B)))] (fun s_ : Int => [(0, .string a0), (1, .int .i64 a1), (2, .int .i64 a2), (3, .int .i64 a3), (11, .int .i64 s_)]) (fun s_ : Int => []) addr_number.F0
noncomputable def addr_number.L2 (a0 : ByteArray) (a1 : Int) (a2 : Int) (a3 : Int) (s1 : Int) : M (LS Int (Int × Int × (Option Addr))) :=
 (if s1 < (a0.size : Int) then
   chk ((0 : Int) ≤ s1 ∧ s1 < (a0.size : Int)) >>= fun _ =>
   addr_digit (sb a0 s1) >>= fun r33 =>
   pure r33
  else
   pure false) >>= fun y34 =>
 if y34 = true then
  pure (LS.next (IntKind.wrap .i64 (s1 + 1)))
 else
  (addr_number.K1 a0 a1 a2 a3 s1) >>= fun b => pure (LS.done b)
theorem addr_number.L2_ok (a0 : ByteArray) (a1 : Int) (a2 : Int) (a3 : Int) (s1 : Int) :
  SJ addr_number.cx [.code (c1 (c1 (c1 (c2 (c2 addr_number.B))))), .inLoop (c1 (c1 (c1 (c2 (c2 addr_number.B))))), .inBlock 0, .code (c2 (c2 (c2 addr_number.B)))] [(0, .string a0), (1, .int .i64 a1), (2, .int .i64 a2), (3, .int .i64 a3), (11, .int .i64 s1)] [] (addr_number.L2 a0 a1 a2 a3 s1) (addr_number.F2 a0 a1 a2 a3) := by
 unfold addr_number.L2
 refine SJ.seq <| SJ.sr 10 <| OJ.go 5 [(19, .bool (decide (s1 < (a0.size : Int)))), (18, .bool (decide (s1 < (a0.size : Int)))), (17, .int .i64 (a0.size : Int)), (16, .string a0), (15, .int .i64 s1)] <| OJ.join (b := decide (s1 < (a0.size : Int))) [5, 6, 7, 8, 9] [] [0, 1, 2, 3, 11, 24] (fun y34 => [(0, .string a0), (1, .int .i64 a1), (2, .int .i64 a2), (3, .int .i64 a3), (11, .int .i64 s1), (24, .bool y34)]) [] [] (t := 19) decide_eq_true_iff (fun hp_ => ?_) (fun hp_ => ?_) (fun _ _ _ _ _ _ h_ => h_) (fun y34 => ?_)
 ·refine OJ.go 2 [(21, .int .i64 s1), (20, .string a0)] <| OJ.idxT (d := 22) (T := 9) (y := .tmp 20) (j := .tmp 21) (k := .i64) (fun hb31 hb32 => ?_)
  refine OJ.call (d := 23) (g := 85) (ats := #[5]) (args := [.tmp 22]) (owed := []) F85 (addr_digit_ok (sb a0 s1)) (fun r33 => ?_)
  exact OW.nil <| OJ.go 1 [(24, .bool r33)] <| OJ.x0
 ·exact OJ.go 5 [(24, .bool false), (23, undef), (22, undef), (21, undef), (20, undef)] <| OJ.x0
 ·refine OJ.nil <| SJ.cond (t := (.tmp 24)) (b := y34) Iff.rfl (fun hc35 => ?_) (fun hc35 => ?_)
  ·exact SJ.skip <| SJ.block (id := 1) <| SJ.rg 3 <| OJ.go 3 [(11, .int .i64 (IntKind.wrap .i64 (s1 + 1))), (26, .int .i64 (IntKind.wrap .i64 (s1 + 1))), (25, .int .i64 s1)] <| OJ.nil <| SJ.inBlock <| SJ.at_ [0, 1, 2, 3, 11] rfl
  ·refine SJ.exit (id := 0) (by rfl) <| SJ.less [0, 1, 2, 3, 11] (m' := [(0, .string a0), (1, .int .i64 a1), (2, .int .i64 a2), (3, .int .i64 a3), (11, .int .i64 s1)]) ?_
   refine SJ.done ?_
   exact addr_number.K1_ok a0 a1 a2 a3 s1
noncomputable def addr_number (a0 : ByteArray) (a1 : Int) (a2 : Int) (a3 : Int) : M (Int × Int × (Option Addr)) :=
 loopM (fun s_ : Int => addr_number.L2 a0 a1 a2 a3 s_) a1
theorem addr_number_ok (a0 : ByteArray) (a1 : Int) (a2 : Int) (a3 : Int) : Ref Tryz.prog 58 [.string a0, .int .i64 a1, .int .i64 a2, .int .i64 a3] (addr_number a0 a1 a2 a3) addr_number.out := by
 refine Ref.of (cd := addr_number.B) Tryz.func58 ?_
 show SJ addr_number.cx [.code addr_number.B] [(0, .string a0), (1, .int .i64 a1), (2, .int .i64 a2), (3, .int .i64 a3)] [] (addr_number a0 a1 a2 a3) addr_number.F0
 unfold addr_number
 exact SJ.sr 3 <| OJ.go 3 [(10, .pointer none), (9, .int .i64 0), (8, .int .i64 0)] <| OJ.nil <| SJ.sr 2 <| OJ.go 2 [(11, .int .i64 a1), (14, .int .i64 a1)] <| OJ.nil <| SJ.seq <| SJ.block (id := 0) <| SJ.loop (fun s_ : Int => [(0, .string a0), (1, .int .i64 a1), (2, .int .i64 a2), (3, .int .i64 a3), (11, .int .i64 s_)]) (fun s_ : Int => []) [0, 1, 2, 3, 11] rfl (fun _ _ => rfl) (fun s_ => addr_number.L2_ok a0 a1 a2 a3 s_)

/-! ### weir/addr.four: function 29 -/
noncomputable def addr_four.B : Code := (Tryz.f29.body).getD .skip
noncomputable def addr_four.cx : Fx := ⟨Tryz.prog, 29, Tryz.f29⟩
noncomputable def addr_four.out (r_ : ((Vec Int 4) × (Option Addr))) : Value := .tuple #[((cI .u8).arr 4).val r_.1, .pointer r_.2]
noncomputable def addr_four.F0 (r_ : ((Vec Int 4) × (Option Addr))) : Reach := .ret (addr_four.out r_)
noncomputable def addr_four.K1 (a0 : ByteArray) (s3 : Int) (s5 : (Vec Int 4)) : M ((Vec Int 4) × (Option Addr)) :=
 if s3 < (a0.size : Int) then
  newv 48 c_addr_fault (⟨41, s3⟩ : addr_fault) >>= fun b27 =>
  pure (s5, (some (pt b27 0)))
 else
  pure (s5, none)
theorem addr_four.K1_ok (a0 : ByteArray) (b1 : Nat) (b2 : Nat) (s3 : Int) (s5 : (Vec Int 4)) (s6 : (Vec Int 4)) :
  SJ addr_four.cx [.code (c2 (c2 (c2 addr_four.B)))] [(0, .string a0), (1, .int .i64 s3), (4, .pointer (some (pt b1 0))), (6, .pointer (some (pt b2 0)))] [(b2, ((cI .u8).arr 4).enc s5), (b1, ((cI .u8).arr 4).enc s6)] (addr_four.K1 a0 s3 s5) addr_four.F0 := by
 unfold addr_four.K1
 refine SJ.seq <| SJ.sr 4 <| OJ.go 4 [(52, .bool (decide (s3 < (a0.size : Int)))), (51, .int .i64 (a0.size : Int)), (50, .string a0), (49, .int .i64 s3)] <| OJ.nil <| SJ.cond (t := (.tmp 52)) (b := decide (s3 < (a0.size : Int))) decide_eq_true_iff (fun hc28 => ?_) (fun hc28 => ?_)
 ·refine SJ.sr 6 <| OJ.kld (d := 53) (y := .tmp 6) (cd := ((cI .u8).arr 4)) (j := 0) (b := b2) (o := 0) s5 (pend2 := []) Ty72 rfl (At.whole _) rfl ?_
  refine OJ.go 1 [(54, .int .i64 s3)] <| OJ.build (d := 55) (T := 48) (parts := [(0, .const (.int .i64 41)), (1, .tmp 54)]) (ps := [(0, (cI .i64).val 41), (1, (cI .i64).val s3)]) (cd := c_addr_fault) (z0 := z_addr_fault) (⟨41, s3⟩ : addr_fault) Ty48 rfl (Filled.cons (cd := (cI .i64)) (q := 41) (o := 0) (by kernel_rfl) (Up_addr_fault_why z_addr_fault 41) (Filled.cons (cd := (cI .i64)) (q := s3) (o := 1) (by kernel_rfl) (Up_addr_fault_at_ (⟨41, z_addr_fault.at_⟩ : addr_fault) s3) Filled.nil)) ?_
  refine OJ.newOf (d := 56) (op := (.box 48 (.tmp 55))) (cd := c_addr_fault) (u := (⟨41, s3⟩ : addr_fault)) (owed := []) (box_run (by kernel_rfl)) (fun b27 => ?_)
  refine OW.nil <| OJ.kst (y := .tmp 4) (z := .tmp 53) (cd := ((cI .u8).arr 4)) (u := s5) (j := 1) (b := b1) (o := 0) (((cI .u8).arr 4).enc s5) (owed := []) Ty72 rfl (Upd.whole ((Cod.len _ _).trans (Cod.len _ _).symm)) rfl ?_
  exact OW.nil <| OJ.go 1 [(5, .pointer (some (pt b27 0)))] <| OJ.nil <| SJ.ret rfl (Res.run (ys := [((cI .u8).arr 4).val s5, .pointer (some (pt b27 0))]) (.cell (j := 1) (b := b1) (cd := ((cI .u8).arr 4)) (q := s5) (by kernel_rfl) rfl Ty72 (At.whole _) (.tmp (by kernel_rfl) .nil)) rfl)
 ·refine SJ.skip <| SJ.sr 3 <| OJ.kld (d := 57) (y := .tmp 6) (cd := ((cI .u8).arr 4)) (j := 0) (b := b2) (o := 0) s5 (pend2 := []) Ty72 rfl (At.whole _) rfl ?_
  refine OJ.kst (y := .tmp 4) (z := .tmp 57) (cd := ((cI .u8).arr 4)) (u := s5) (j := 1) (b := b1) (o := 0) (((cI .u8).arr 4).enc s5) (owed := []) Ty72 rfl (Upd.whole ((Cod.len _ _).trans (Cod.len _ _).symm)) rfl ?_
  exact OW.nil <| OJ.go 1 [(5, .pointer none)] <| OJ.nil <| SJ.ret rfl (Res.run (ys := [((cI .u8).arr 4).val s5, .pointer none]) (.cell (j := 1) (b := b1) (cd := ((cI .u8).arr 4)) (q := s5) (by kernel_rfl) rfl Ty72 (At.whole _) (.tmp (by kernel_rfl) .nil)) rfl)
noncomputable def addr_four.F1 (a0 : ByteArray) (b1 : Nat) (b2 : Nat) : (LS (Int × Int × (Vec Int 4) × (Vec Int 4)) ((Vec Int 4) × (Option Addr))) → Reach := loopF [.inLoop (c1 (c1 (c2 (c1 (c2 (c2 addr_four.B)))))), .inBlock 0, .code (c2 (c2 (c2 addr_four.B)))] (fun s_ : (Int × Int × (Vec Int 4) × (Vec Int 4)) => [(0, .string a0), (1, .int .i64 s_.1), (4, .pointer (some (pt b1 0))), (6, .pointer (some (pt b2 0))), (11, .int .i64 s_.2.1)]) (fun s_ : (Int × Int × (Vec Int 4) × (Vec Int 4)) => [(b2, ((cI .u8).arr 4).enc s_.2.2.1), (b1, ((cI .u8).arr 4).enc s_.2.2.2)]) addr_four.F0
noncomputable def addr_four.K2 (a0 : ByteArray) (s4 : Int) (s5 : (Vec Int 4)) (s6 : (Vec Int 4)) (j35 : Int) : M (LS (Int × Int × (Vec Int 4) × (Vec Int 4)) ((Vec Int 4) × (Option Addr))) :=
 addr_number a0 j35 255 43 >>= fun r36 =>
 if ¬ (r36.2.2 = none) then
  pure (LS.done (s5, r36.2.2))
 else
  chk ((0 : Int) ≤ s4 ∧ s4 < (4 : Nat)) >>= fun _ =>
  pure (LS.next (r36.2.1, IntKind.wrap .i64 (s4 + 1), (Vec.s s5 s4 (IntKind.wrap .u8 r36.1)), s6))
theorem addr_four.K2_ok (a0 : ByteArray) (b1 : Nat) (b2 : Nat) (s4 : Int) (s5 : (Vec Int 4)) (s6 : (Vec Int 4)) (j35 : Int) :
  SJ addr_four.cx [.code (c2 (c2 (c1 (c1 (c2 (c2 (c1 (c1 (c2 (c1 (c2 (c2 addr_four.B)))))))))))), .inBlock 1, .code (c2 (c2 (c2 (c1 (c1 (c2 (c1 (c2 (c2 addr_four.B))))))))), .inLoop (c1 (c1 (c2 (c1 (c2 (c2 addr_four.B)))))), .inBlock 0, .code (c2 (c2 (c2 addr_four.B)))] [(0, .string a0), (1, .int .i64 j35), (4, .pointer (some (pt b1 0))), (6, .pointer (some (pt b2 0))), (11, .int .i64 s4), (7, .int .i64 s4)] [(b2, ((cI .u8).arr 4).enc s5), (b1, ((cI .u8).arr 4).enc s6)] (addr_four.K2 a0 s4 s5 s6 j35) (addr_four.F1 a0 b1 b2) := by
 unfold addr_four.K2
 refine SJ.sr 10 <| OJ.go 2 [(34, .int .i64 j35), (33, .string a0)] <| OJ.call (d := 35) (g := 58) (ats := #[9, 3, 3, 29]) (args := [.tmp 33, .tmp 34, .const (.int .i64 255), .const (.int .i64 43)]) (owed := []) F58 (addr_number_ok a0 j35 255 43) (fun r36 => ?_)
 refine OW.nil <| OJ.go 7 [(10, .pointer r36.2.2), (9, .int .i64 r36.2.1), (8, .int .i64 r36.1), (38, .pointer r36.2.2), (37, .int .i64 r36.2.1), (36, .int .i64 r36.1), (32, .tuple #[.int .i64 r36.1, .int .i64 r36.2.1, .pointer r36.2.2])] <| OJ.nil <| SJ.seq <| SJ.sr 2 <| OJ.go 2 [(40, .bool (!(Option.isNone r36.2.2))), (39, .pointer r36.2.2)] <| OJ.nil <| SJ.cond (t := (.tmp 40)) (b := (!(Option.isNone r36.2.2))) (bnot_iff Option.isNone_iff_eq_none) (fun hc39 => ?_) (fun hc39 => ?_)
 ·refine SJ.sr 4 <| OJ.kld (d := 41) (y := .tmp 6) (cd := ((cI .u8).arr 4)) (j := 0) (b := b2) (o := 0) s5 (pend2 := []) Ty72 rfl (At.whole _) rfl ?_
  refine OJ.go 1 [(42, .pointer r36.2.2)] <| OJ.kst (y := .tmp 4) (z := .tmp 41) (cd := ((cI .u8).arr 4)) (u := s5) (j := 1) (b := b1) (o := 0) (((cI .u8).arr 4).enc s5) (owed := []) Ty72 rfl (Upd.whole ((Cod.len _ _).trans (Cod.len _ _).symm)) rfl ?_
  exact OW.nil <| OJ.go 1 [(5, .pointer r36.2.2)] <| OJ.nil <| SJ.ret rfl (Res.run (ys := [((cI .u8).arr 4).val s5, .pointer r36.2.2]) (.cell (j := 1) (b := b1) (cd := ((cI .u8).arr 4)) (q := s5) (by kernel_rfl) rfl Ty72 (At.whole _) (.tmp (by kernel_rfl) .nil)) rfl)
 ·refine SJ.skip <| SJ.sr 5 <| OJ.go 3 [(45, .int .u8 (IntKind.wrap .u8 r36.1)), (44, .int .i64 r36.1), (43, .int .i64 s4)] <| OJ.idxK (d := 46) (T := 72) (y := .tmp 6) (j := .tmp 43) (E := 5) (sz := 1) (b := b2) (o := 0) (k := .i64) (fun hb37 hb38 => ?_)
  refine OJ.kst (y := .tmp 46) (z := .tmp 45) (cd := (cI .u8)) (u := (IntKind.wrap .u8 r36.1)) (j := 0) (b := b2) (o := (0 + s4.toNat * 1)) (((cI .u8).arr 4).enc (Vec.s s5 s4 (IntKind.wrap .u8 r36.1))) (owed := []) Ty5 rfl (Upd.zero (Upd.arr hb37 hb38)) rfl ?_
  exact OW.nil <| OJ.nil <| SJ.rg 2 <| OJ.go 2 [(1, .int .i64 r36.2.1), (47, .int .i64 r36.2.1)] <| OJ.nil <| SJ.inBlock <| SJ.rg 2 <| OJ.go 2 [(11, .int .i64 (IntKind.wrap .i64 (s4 + 1))), (48, .int .i64 (IntKind.wrap .i64 (s4 + 1)))] <| OJ.nil <| SJ.at_ [0, 1, 4, 6, 11] rfl
noncomputable def addr_four.L1 (a0 : ByteArray) (s3 : Int) (s4 : Int) (s5 : (Vec Int 4)) (s6 : (Vec Int 4)) : M (LS (Int × Int × (Vec Int 4) × (Vec Int 4)) ((Vec Int 4) × (Option Addr))) :=
 if s4 < 4 then
  if s4 > 0 then
   (if s3 = (a0.size : Int) then
     pure true
    else
     chk ((0 : Int) ≤ s3 ∧ s3 < (a0.size : Int)) >>= fun _ =>
     pure ((sb a0 s3) != 46)) >>= fun y42 =>
   if y42 = true then
    draw >>= fun _ =>
    addr_missing a0 s3 >>= fun r44 =>
    pure (LS.done (s5, r44))
   else
    addr_four.K2 a0 s4 s5 s6 (IntKind.wrap .i64 (s3 + 1))
  else
   addr_four.K2 a0 s4 s5 s6 s3
 else
  (addr_four.K1 a0 s3 s5) >>= fun b => pure (LS.done b)
theorem addr_four.L1_ok (a0 : ByteArray) (b1 : Nat) (b2 : Nat) (s3 : Int) (s4 : Int) (s5 : (Vec Int 4)) (s6 : (Vec Int 4)) :
  SJ addr_four.cx [.code (c1 (c1 (c2 (c1 (c2 (c2 addr_four.B)))))), .inLoop (c1 (c1 (c2 (c1 (c2 (c2 addr_four.B)))))), .inBlock 0, .code (c2 (c2 (c2 addr_four.B)))] [(0, .string a0), (1, .int .i64 s3), (4, .pointer (some (pt b1 0))), (6, .pointer (some (pt b2 0))), (11, .int .i64 s4)] [(b2, ((cI .u8).arr 4).enc s5), (b1, ((cI .u8).arr 4).enc s6)] (addr_four.L1 a0 s3 s4 s5 s6) (addr_four.F1 a0 b1 b2) := by
 unfold addr_four.L1
 refine SJ.sr 1 <| OJ.go 1 [(12, .bool (decide (s4 < 4)))] <| OJ.nil <| SJ.seq <| SJ.cond (t := (.tmp 12)) (b := decide (s4 < 4)) decide_eq_true_iff (fun hc47 => ?_) (fun hc47 => ?_)
 ·refine SJ.skip <| SJ.seq <| SJ.block (id := 1) <| SJ.sr 2 <| OJ.go 2 [(7, .int .i64 s4), (13, .int .i64 s4)] <| OJ.nil <| SJ.seq <| SJ.sr 2 <| OJ.go 2 [(15, .bool (decide (s4 > 0))), (14, .int .i64 s4)] <| OJ.nil <| SJ.cond (t := (.tmp 15)) (b := decide (s4 > 0)) decide_eq_true_iff (fun hc46 => ?_) (fun hc46 => ?_)
  ·refine SJ.seq <| SJ.sr 10 <| OJ.go 5 [(20, .bool (s3 == (a0.size : Int))), (19, .bool (s3 == (a0.size : Int))), (18, .int .i64 (a0.size : Int)), (17, .string a0), (16, .int .i64 s3)] <| OJ.join (b := (s3 == (a0.size : Int))) [5, 6, 7, 8, 9] [] [0, 1, 4, 6, 11, 7, 25] (fun y42 => [(0, .string a0), (1, .int .i64 s3), (4, .pointer (some (pt b1 0))), (6, .pointer (some (pt b2 0))), (11, .int .i64 s4), (7, .int .i64 s4), (25, .bool y42)]) [] [] (t := 20) beq_iff_eq (fun hp_ => ?_) (fun hp_ => ?_) (fun _ _ _ _ _ _ h_ => h_) (fun y42 => ?_)
   ·exact OJ.go 5 [(25, .bool true), (24, undef), (23, undef), (22, undef), (21, undef)] <| OJ.x0
   ·refine OJ.go 2 [(22, .int .i64 s3), (21, .string a0)] <| OJ.idxT (d := 23) (T := 9) (y := .tmp 21) (j := .tmp 22) (k := .i64) (fun hb40 hb41 => ?_)
    exact OJ.go 2 [(25, .bool ((sb a0 s3) != 46)), (24, .bool ((sb a0 s3) != 46))] <| OJ.x0
   ·refine OJ.nil <| SJ.cond (t := (.tmp 25)) (b := y42) Iff.rfl (fun hc45 => ?_) (fun hc45 => ?_)
    ·refine SJ.seq <| SJ.draw (id := 7) (kd := [1, 0, 0, 2, 2, 0]) (bef := [0, 0, 0, 6, 15, 31]) (ord := [0, 1, 2, 3, 4, 5]) mixed ?_
     refine OJ.kld (d := 26) (y := .tmp 6) (cd := ((cI .u8).arr 4)) (j := 0) (b := b2) (o := 0) s5 (pend2 := [⟨0, 72, (pt b2 0), ((cI .u8).arr 4).val s5⟩]) Ty72 rfl (At.whole _) rfl ?_
     refine OJ.go 2 [(28, .int .i64 s3), (27, .string a0)] <| OJ.call (d := 29) (g := 57) (ats := #[9, 3]) (args := [.tmp 27, .tmp 28]) (owed := [⟨0, 72, (pt b2 0), ((cI .u8).arr 4).val s5⟩]) F57 (addr_missing_ok a0 s3) (fun r44 => ?_)
     refine OW.known (j := 0) (q := s5) Ty72 rfl (At.whole _) ?_
     refine OW.nil <| OJ.kst (y := .tmp 4) (z := .tmp 26) (cd := ((cI .u8).arr 4)) (u := s5) (j := 1) (b := b1) (o := 0) (((cI .u8).arr 4).enc s5) (owed := []) Ty72 rfl (Upd.whole ((Cod.len _ _).trans (Cod.len _ _).symm)) rfl ?_
     exact OW.nil <| OJ.go 1 [(5, .pointer r44)] <| OJ.nil <| SJ.ret rfl (Res.run (ys := [((cI .u8).arr 4).val s5, .pointer r44]) (.cell (j := 1) (b := b1) (cd := ((cI .u8).arr 4)) (q := s5) (by kernel_rfl) rfl Ty72 (At.whole _) (.tmp (by kernel_rfl) .nil)) rfl)
    ·refine SJ.skip <| SJ.rg 3 <| OJ.go 3 [(1, .int .i64 (IntKind.wrap .i64 (s3 + 1))), (31, .int .i64 (IntKind.wrap .i64 (s3 + 1))), (30, .int .i64 s3)] <| OJ.nil <| SJ.less [0, 1, 4, 6, 11, 7] (m' := [(0, .string a0), (1, .int .i64 (IntKind.wrap .i64 (s3 + 1))), (4, .pointer (some (pt b1 0))), (6, .pointer (some (pt b2 0))), (11, .int .i64 s4), (7, .int .i64 s4)]) ?_
     exact addr_four.K2_ok a0 b1 b2 s4 s5 s6 (IntKind.wrap .i64 (s3 + 1))
  ·refine SJ.skip <| SJ.less [0, 1, 4, 6, 11, 7] (m' := [(0, .string a0), (1, .int .i64 s3), (4, .pointer (some (pt b1 0))), (6, .pointer (some (pt b2 0))), (11, .int .i64 s4), (7, .int .i64 s4)]) ?_
   exact addr_four.K2_ok a0 b1 b2 s4 s5 s6 s3
 ·refine SJ.exit (id := 0) (by rfl) <| SJ.less [0, 1, 4, 6] (m' := [(0, .string a0), (1, .int .i64 s3), (4, .pointer (some (pt b1 0))), (6, .pointer (some (pt b2 0)))]) ?_
  refine SJ.done ?_
  exact addr_four.K1_ok a0 b1 b2 s3 s5 s6
noncomputable def addr_four (a0 : ByteArray) (a1 : Int) : M ((Vec Int 4) × (Option Addr)) :=
 slot 72 >>= fun b1 =>
 slot 72 >>= fun b2 =>
 loopM (fun s_ : (Int × Int × (Vec Int 4) × (Vec Int 4)) => addr_four.L1 a0 s_.1 s_.2.1 s_.2.2.1 s_.2.2.2) (a1, 0, (Vec.rep 4 0), (Vec.rep 4 0))
theorem addr_four_ok (a0 : ByteArray) (a1 : Int) : Ref Tryz.prog 29 [.string a0, .int .i64 a1] (addr_four a0 a1) addr_four.out := by
 refine Ref.of (cd := addr_four.B) Tryz.func29 ?_
 show SJ addr_four.cx [.code addr_four.B] [(0, .string a0), (1, .int .i64 a1)] [] (addr_four a0 a1) addr_four.F0
 unfold addr_four
 refine SJ.sr 2 <| OJ.slotOf (d := 4) (op := (.alloc 72)) (cd := ((cI .u8).arr 4)) (u := (Vec.rep 4 0)) (owed := []) (alloc_run Ty72) (fun b1 => ?_)
 refine OW.nil <| OJ.go 1 [(5, .pointer none)] <| OJ.nil <| SJ.sr 1 <| OJ.slotOf (d := 6) (op := (.alloc 72)) (cd := ((cI .u8).arr 4)) (u := (Vec.rep 4 0)) (owed := []) (alloc_run Ty72) (fun b2 => ?_)
 exact OW.nil <| OJ.nil <| SJ.seq <| SJ.sr 1 <| OJ.go 1 [(11, .int .i64 0)] <| OJ.nil <| SJ.block (id := 0) <| SJ.loop (fun s_ : (Int × Int × (Vec Int 4) × (Vec Int 4)) => [(0, .string a0), (1, .int .i64 s_.1), (4, .pointer (some (pt b1 0))), (6, .pointer (some (pt b2 0))), (11, .int .i64 s_.2.1)]) (fun s_ : (Int × Int × (Vec Int 4) × (Vec Int 4)) => [(b2, ((cI .u8).arr 4).enc s_.2.2.1), (b1, ((cI .u8).arr 4).enc s_.2.2.2)]) [0, 1, 4, 6, 11] rfl (fun _ _ => rfl) (fun s_ => addr_four.L1_ok a0 b1 b2 s_.1 s_.2.1 s_.2.2.1 s_.2.2.2)

/-! ### internal/stringslite.HasPrefix: function 103 -/
noncomputable def stringslite_HasPrefix.B : Code := (Tryz.f103.body).getD .skip
noncomputable def stringslite_HasPrefix.cx : Fx := ⟨Tryz.prog, 103, Tryz.f103⟩
noncomputable def stringslite_HasPrefix.out (r_ : Bool) : Value := .bool r_
noncomputable def stringslite_HasPrefix.F0 (r_ : Bool) : Reach := .ret (stringslite_HasPrefix.out r_)
noncomputable def stringslite_HasPrefix (a0 : ByteArray) (a1 : ByteArray) : M Bool :=
 (if (a0.size : Int) ≥ (a1.size : Int) then
   chk (0 ≤ (0 : Int) ∧ (0 : Int) ≤ (a1.size : Int) ∧ (a1.size : Int) ≤ (a0.size : Int)) >>= fun _ =>
   pure ((ByteArray.extract a0 (Int.toNat 0) (Int.toNat (a1.size : Int))).toList == a1.toList)
  else
   pure false) >>= fun y1 =>
 pure y1
theorem stringslite_HasPrefix_ok (a0 : ByteArray) (a1 : ByteArray) : Ref Tryz.prog 103 [.string a0, .string a1] (stringslite_HasPrefix a0 a1) stringslite_HasPrefix.out := by
 refine Ref.of (cd := stringslite_HasPrefix.B) Tryz.func103 ?_
 show SJ stringslite_HasPrefix.cx [.code stringslite_HasPrefix.B] [(0, .string a0), (1, .string a1)] [] (stringslite_HasPrefix a0 a1) stringslite_HasPrefix.F0
 unfold stringslite_HasPrefix
 refine SJ.sr 1 <| OJ.go 1 [(4, .bool false)] <| OJ.nil <| SJ.sr 14 <| OJ.go 6 [(10, .bool (decide ((a0.size : Int) ≥ (a1.size : Int)))), (9, .bool (decide ((a0.size : Int) ≥ (a1.size : Int)))), (8, .int .i64 (a1.size : Int)), (7, .string a1), (6, .int .i64 (a0.size : Int)), (5, .string a0)] <| OJ.join (b := decide ((a0.size : Int) ≥ (a1.size : Int))) [6, 7, 8, 9, 10, 11, 12] [13] [17] (fun y1 => [(17, .bool y1)]) [] [] (t := 10) decide_eq_true_iff (fun hp_ => ?_) (fun hp_ => ?_) (fun _ _ _ _ _ _ h_ => h_) (fun y1 => ?_)
 ·refine OJ.go 3 [(13, .int .i64 (a1.size : Int)), (12, .string a1), (11, .string a0)] <| OJ.cutT (d := 14) (t := 9) (y := .tmp 11) (lo := none) (hi := (some (.tmp 13))) (lo' := none) (hi' := some (.i64, (a1.size : Int))) ?_
  exact OJ.go 3 [(17, .bool ((ByteArray.extract a0 (Int.toNat 0) (Int.toNat (a1.size : Int))).toList == a1.toList)), (16, .bool ((ByteArray.extract a0 (Int.toNat 0) (Int.toNat (a1.size : Int))).toList == a1.toList)), (15, .string a1)] <| OJ.x0
 ·exact OJ.go 7 [(17, .bool false), (16, undef), (15, undef), (14, undef), (13, undef), (12, undef), (11, undef)] <| OJ.x0
 ·exact OJ.go 1 [(4, .bool y1)] <| OJ.nil <| SJ.r1 (.bool y1) rfl rfl

/-! ### strings.HasPrefix: function 86 -/
noncomputable def strings_HasPrefix.B : Code := (Tryz.f86.body).getD .skip
noncomputable def strings_HasPrefix.cx : Fx := ⟨Tryz.prog, 86, Tryz.f86⟩
noncomputable def strings_HasPrefix.out (r_ : Bool) : Value := .bool r_
noncomputable def strings_HasPrefix.F0 (r_ : Bool) : Reach := .ret (strings_HasPrefix.out r_)
noncomputable def strings_HasPrefix (a0 : ByteArray) (a1 : ByteArray) : M Bool :=
 stringslite_HasPrefix a0 a1 >>= fun r1 =>
 pure r1
theorem strings_HasPrefix_ok (a0 : ByteArray) (a1 : ByteArray) : Ref Tryz.prog 86 [.string a0, .string a1] (strings_HasPrefix a0 a1) strings_HasPrefix.out := by
 refine Ref.of (cd := strings_HasPrefix.B) Tryz.func86 ?_
 show SJ strings_HasPrefix.cx [.code strings_HasPrefix.B] [(0, .string a0), (1, .string a1)] [] (strings_HasPrefix a0 a1) strings_HasPrefix.F0
 unfold strings_HasPrefix
 refine SJ.sr 1 <| OJ.go 1 [(4, .bool false)] <| OJ.nil <| SJ.sr 4 <| OJ.go 2 [(6, .string a1), (5, .string a0)] <| OJ.call (d := 7) (g := 103) (ats := #[9, 9]) (args := [.tmp 5, .tmp 6]) (owed := []) F103 (stringslite_HasPrefix_ok a0 a1) (fun r1 => ?_)
 exact OW.nil <| OJ.go 1 [(4, .bool r1)] <| OJ.nil <| SJ.r1 (.bool r1) rfl rfl

/-! ### (*weir/addr.six).double: function 59 -/
noncomputable def addr_six_double.B : Code := (Tryz.f59.body).getD .skip
noncomputable def addr_six_double.cx : Fx := ⟨Tryz.prog, 59, Tryz.f59⟩
noncomputable def addr_six_double.out (r_ : (Bool × (Option Addr))) : Value := .tuple #[.bool r_.1, .pointer r_.2]
noncomputable def addr_six_double.F0 (r_ : (Bool × (Option Addr))) : Reach := .ret (addr_six_double.out r_)
noncomputable def addr_six_double (a0 : (Option Addr)) : M (Bool × (Option Addr)) :=
 draw >>= fun _ =>
 nilck a0 >>= fun p1 =>
 ld cS p1 >>= fun x2 =>
 nilck a0 >>= fun p3 =>
 ld (cI .i64) (Addr.add p3 1) >>= fun x4 =>
 chk (0 ≤ (x4 : Int) ∧ (x4 : Int) ≤ (x2.size : Int) ∧ (x2.size : Int) ≤ (x2.size : Int)) >>= fun _ =>
 strings_HasPrefix (ByteArray.extract x2 (Int.toNat x4) (Int.toNat (x2.size : Int))) str0 >>= fun r5 =>
 if ¬ (r5 = true) then
  pure (false, none)
 else
  nilck a0 >>= fun p6 =>
  ld (cI .i64) (Addr.add p6 3) >>= fun x7 =>
  (if x7 ≥ 0 then
    pure true
   else
    nilck a0 >>= fun p8 =>
    ld cL (Addr.add p8 2) >>= fun x9 =>
    pure ((x9.len : Int) == 8)) >>= fun y10 =>
  if y10 = true then
   draw >>= fun _ =>
   nilck a0 >>= fun p14 =>
   ld (cI .i64) (Addr.add p14 1) >>= fun x15 =>
   newv 48 c_addr_fault (⟨44, x15⟩ : addr_fault) >>= fun b16 =>
   pure (false, (some (pt b16 0)))
  else
   nilck a0 >>= fun p17 =>
   ld cL (Addr.add p17 2) >>= fun x18 =>
   nilck a0 >>= fun p19 =>
   st (cI .i64) (Addr.add p19 3) (x18.len : Int) >>= fun _ =>
   nilck a0 >>= fun p20 =>
   ld (cI .i64) (Addr.add p20 1) >>= fun x21 =>
   nilck a0 >>= fun p22 =>
   st (cI .i64) (Addr.add p22 1) (IntKind.wrap .i64 (x21 + 2)) >>= fun _ =>
   pure (true, none)
theorem addr_six_double_ok (a0 : (Option Addr)) : Ref Tryz.prog 59 [.pointer a0] (addr_six_double a0) addr_six_double.out := by
 refine Ref.of (cd := addr_six_double.B) Tryz.func59 ?_
 show SJ addr_six_double.cx [.code addr_six_double.B] [(0, .pointer a0)] [] (addr_six_double a0) addr_six_double.F0
 unfold addr_six_double
 refine SJ.sr 2 <| OJ.go 2 [(3, .pointer none), (2, .bool false)] <| OJ.nil <| SJ.seq <| SJ.seq <| SJ.draw (id := 1) (kd := [0, 0, 0, 1, 0, 0, 0, 1, 0, 2, 0]) (bef := [0, 1, 3, 7, 0, 16, 48, 112, 255, 511, 1023]) (ord := [0, 1, 2, 3, 4, 5, 6, 7, 8, 9, 10]) mixed ?_
 refine OJ.go 1 [(4, .pointer a0)] <| OJ.nilck (d := 5) (y := .tmp 4) (fun p1 => ?_)
 refine OJ.go 1 [(6, .pointer (some p1))] <| OJ.ld (d := 7) (y := .tmp 6) (pend2 := fun x2 => [⟨3, 9, p1, cS.val x2⟩]) Ty9 (fun _ => rfl) (fun x2 => ?_)
 refine OJ.go 1 [(8, .pointer a0)] <| OJ.nilck (d := 9) (y := .tmp 8) (fun p3 => ?_)
 refine OJ.go 1 [(10, .pointer (some (Addr.add p3 1)))] <| OJ.ld (d := 11) (y := .tmp 10) (pend2 := fun x4 => [⟨7, 3, (Addr.add p3 1), (cI .i64).val x4⟩, ⟨3, 9, p1, cS.val x2⟩]) Ty3 (fun _ => rfl) (fun x4 => ?_)
 refine OJ.cutT (d := 12) (t := 9) (y := .tmp 7) (lo := (some (.tmp 11))) (hi := none) (lo' := some (.i64, x4)) (hi' := none) ?_
 refine OJ.call (d := 13) (g := 86) (ats := #[9, 9]) (args := [.tmp 12, .const (.string str0)]) (owed := []) F86 (strings_HasPrefix_ok (ByteArray.extract x2 (Int.toNat x4) (Int.toNat (x2.size : Int))) str0) (fun r5 => ?_)
 refine OW.nil <| OJ.go 1 [(14, .bool (!r5))] <| OJ.nil <| SJ.cond (t := (.tmp 14)) (b := (!r5)) (bnot_iff Iff.rfl) (fun hc24 => ?_) (fun hc24 => ?_)
 ·exact SJ.sr 2 <| OJ.go 2 [(3, .pointer none), (2, .bool false)] <| OJ.nil <| SJ.r2 (.bool false) (.pointer none) rfl rfl
 ·refine SJ.skip <| SJ.seq <| SJ.sr 13 <| OJ.go 1 [(15, .pointer a0)] <| OJ.nilck (d := 16) (y := .tmp 15) (fun p6 => ?_)
  refine OJ.go 1 [(17, .pointer (some (Addr.add p6 3)))] <| OJ.ld (d := 18) (y := .tmp 17) (pend2 := fun x7 => []) Ty3 (fun _ => rfl) (fun x7 => ?_)
  refine OJ.go 2 [(20, .bool (decide (x7 ≥ 0))), (19, .bool (decide (x7 ≥ 0)))] <| OJ.join (b := decide (x7 ≥ 0)) [6, 7, 8, 9, 10, 11, 12] [] [0, 27] (fun y10 => [(0, .pointer a0), (27, .bool y10)]) [] [] (t := 20) decide_eq_true_iff (fun hp_ => ?_) (fun hp_ => ?_) (fun _ _ _ _ _ _ h_ => h_) (fun y10 => ?_)
  ·exact OJ.go 7 [(27, .bool true), (26, undef), (25, undef), (24, undef), (23, undef), (22, undef), (21, undef)] <| OJ.x0
  ·refine OJ.go 1 [(21, .pointer a0)] <| OJ.nilck (d := 22) (y := .tmp 21) (fun p8 => ?_)
   refine OJ.go 1 [(23, .pointer (some (Addr.add p8 2)))] <| OJ.ld (d := 24) (y := .tmp 23) (pend2 := fun x9 => []) Ty58 (fun _ => rfl) (fun x9 => ?_)
   exact OJ.go 3 [(27, .bool ((x9.len : Int) == 8)), (26, .bool ((x9.len : Int) == 8)), (25, .int .i64 (x9.len : Int))] <| OJ.x0
  ·refine OJ.nil <| SJ.cond (t := (.tmp 27)) (b := y10) Iff.rfl (fun hc23 => ?_) (fun hc23 => ?_)
   ·refine SJ.seq <| SJ.draw (id := 4) (kd := [0, 0, 0, 1, 0, 2, 0, 0]) (bef := [0, 1, 3, 7, 15, 31, 0, 127]) (ord := [0, 1, 2, 3, 4, 5, 6, 7]) mixed ?_
    refine OJ.go 1 [(28, .pointer a0)] <| OJ.nilck (d := 29) (y := .tmp 28) (fun p14 => ?_)
    refine OJ.go 1 [(30, .pointer (some (Addr.add p14 1)))] <| OJ.ld (d := 31) (y := .tmp 30) (pend2 := fun x15 => [⟨3, 3, (Addr.add p14 1), (cI .i64).val x15⟩]) Ty3 (fun _ => rfl) (fun x15 => ?_)
    refine OJ.build (d := 32) (T := 48) (parts := [(0, .const (.int .i64 44)), (1, .tmp 31)]) (ps := [(0, (cI .i64).val 44), (1, (cI .i64).val x15)]) (cd := c_addr_fault) (z0 := z_addr_fault) (⟨44, x15⟩ : addr_fault) Ty48 rfl (Filled.cons (cd := (cI .i64)) (q := 44) (o := 0) (by kernel_rfl) (Up_addr_fault_why z_addr_fault 44) (Filled.cons (cd := (cI .i64)) (q := x15) (o := 1) (by kernel_rfl) (Up_addr_fault_at_ (⟨44, z_addr_fault.at_⟩ : addr_fault) x15) Filled.nil)) ?_
    refine OJ.newOf (d := 33) (op := (.box 48 (.tmp 32))) (cd := c_addr_fault) (u := (⟨44, x15⟩ : addr_fault)) (owed := []) (box_run (by kernel_rfl)) (fun b16 => ?_)
    exact OW.nil <| OJ.go 2 [(3, .pointer (some (pt b16 0))), (2, .bool false)] <| OJ.nil <| SJ.r2 (.bool false) (.pointer (some (pt b16 0))) rfl rfl
   ·refine SJ.skip <| SJ.sr 9 <| OJ.go 2 [(35, .pointer a0), (34, .pointer a0)] <| OJ.nilck (d := 36) (y := .tmp 35) (fun p17 => ?_)
    refine OJ.go 1 [(37, .pointer (some (Addr.add p17 2)))] <| OJ.ld (d := 38) (y := .tmp 37) (pend2 := fun x18 => []) Ty58 (fun _ => rfl) (fun x18 => ?_)
    refine OJ.go 1 [(39, .int .i64 (x18.len : Int))] <| OJ.nilck (d := 40) (y := .tmp 34) (fun p19 => ?_)
    refine OJ.go 1 [(41, .pointer (some (Addr.add p19 3)))] <| OJ.st (y := .tmp 41) (z := .tmp 39) (owed := []) Ty3 ?_
    refine OW.nil <| OJ.nil <| SJ.sr 8 <| OJ.go 1 [(42, .pointer a0)] <| OJ.nilck (d := 43) (y := .tmp 42) (fun p20 => ?_)
    refine OJ.go 1 [(44, .pointer (some (Addr.add p20 1)))] <| OJ.ld (d := 45) (y := .tmp 44) (pend2 := fun x21 => []) Ty3 (fun _ => rfl) (fun x21 => ?_)
    refine OJ.go 1 [(46, .int .i64 (IntKind.wrap .i64 (x21 + 2)))] <| OJ.nilck (d := 47) (y := .tmp 42) (fun p22 => ?_)
    refine OJ.go 1 [(48, .pointer (some (Addr.add p22 1)))] <| OJ.st (y := .tmp 48) (z := .tmp 46) (owed := []) Ty3 ?_
    exact OW.nil <| OJ.nil <| SJ.sr 2 <| OJ.go 2 [(3, .pointer none), (2, .bool true)] <| OJ.nil <| SJ.r2 (.bool true) (.pointer none) rfl rfl

/-! ### weir/addr.hexa: function 74 -/
noncomputable def addr_hexa.B : Code := (Tryz.f74.body).getD .skip
noncomputable def addr_hexa.cx : Fx := ⟨Tryz.prog, 74, Tryz.f74⟩
noncomputable def addr_hexa.out (r_ : Int) : Value := .int .i64 r_
noncomputable def addr_hexa.F0 (r_ : Int) : Reach := .ret (addr_hexa.out r_)
noncomputable def addr_hexa (a0 : Int) : M Int :=
 addr_digit a0 >>= fun r1 =>
 if r1 = true then
  pure (IntKind.wrap .i64 (IntKind.wrap .u8 (a0 - 48)))
 else
  (if a0 ≥ 97 then
    pure (decide (a0 ≤ 102))
   else
    pure false) >>= fun y8 =>
  if y8 = true then
   pure (IntKind.wrap .i64 ((IntKind.wrap .i64 (IntKind.wrap .u8 (a0 - 97))) + 10))
  else
   (if a0 ≥ 65 then
     pure (decide (a0 ≤ 70))
    else
     pure false) >>= fun y11 =>
   if y11 = true then
    pure (IntKind.wrap .i64 ((IntKind.wrap .i64 (IntKind.wrap .u8 (a0 - 65))) + 10))
   else
    pure (-1)
theorem addr_hexa_ok (a0 : Int) : Ref Tryz.prog 74 [.int .u8 a0] (addr_hexa a0) addr_hexa.out := by
 refine Ref.of (cd := addr_hexa.B) Tryz.func74 ?_
 show SJ addr_hexa.cx [.code addr_hexa.B] [(0, .int .u8 a0)] [] (addr_hexa a0) addr_hexa.F0
 unfold addr_hexa
 refine SJ.sr 1 <| OJ.go 1 [(2, .int .i64 0)] <| OJ.nil <| SJ.seq <| SJ.block (id := 0) <| SJ.sr 3 <| OJ.go 1 [(4, .int .u8 a0)] <| OJ.call (d := 5) (g := 85) (ats := #[5]) (args := [.tmp 4]) (owed := []) F85 (addr_digit_ok a0) (fun r1 => ?_)
 refine OW.nil <| OJ.go 1 [(3, .bool r1)] <| OJ.nil <| SJ.cond (t := (.tmp 3)) (b := r1) Iff.rfl (fun hc14 => ?_) (fun hc14 => ?_)
 ·exact SJ.sr 4 <| OJ.go 4 [(2, .int .i64 (IntKind.wrap .i64 (IntKind.wrap .u8 (a0 - 48)))), (8, .int .i64 (IntKind.wrap .i64 (IntKind.wrap .u8 (a0 - 48)))), (7, .int .u8 (IntKind.wrap .u8 (a0 - 48))), (6, .int .u8 a0)] <| OJ.nil <| SJ.r1 (.int .i64 (IntKind.wrap .i64 (IntKind.wrap .u8 (a0 - 48)))) rfl rfl
 ·refine SJ.sr 7 <| OJ.go 3 [(12, .bool (decide (a0 ≥ 97))), (11, .bool (decide (a0 ≥ 97))), (10, .int .u8 a0)] <| OJ.join (b := decide (a0 ≥ 97)) [3, 4, 5] [6] [0, 15] (fun y8 => [(0, .int .u8 a0), (15, .bool y8)]) [] [] (t := 12) decide_eq_true_iff (fun hp_ => ?_) (fun hp_ => ?_) (fun _ _ _ _ _ _ h_ => h_) (fun y8 => ?_)
  ·exact OJ.go 3 [(15, .bool (decide (a0 ≤ 102))), (14, .bool (decide (a0 ≤ 102))), (13, .int .u8 a0)] <| OJ.x0
  ·exact OJ.go 3 [(15, .bool false), (14, undef), (13, undef)] <| OJ.x0
  ·refine OJ.go 1 [(9, .bool y8)] <| OJ.nil <| SJ.cond (t := (.tmp 9)) (b := y8) Iff.rfl (fun hc13 => ?_) (fun hc13 => ?_)
   ·exact SJ.sr 5 <| OJ.go 5 [(2, .int .i64 (IntKind.wrap .i64 ((IntKind.wrap .i64 (IntKind.wrap .u8 (a0 - 97))) + 10))), (19, .int .i64 (IntKind.wrap .i64 ((IntKind.wrap .i64 (IntKind.wrap .u8 (a0 - 97))) + 10))), (18, .int .i64 (IntKind.wrap .i64 (IntKind.wrap .u8 (a0 - 97)))), (17, .int .u8 (IntKind.wrap .u8 (a0 - 97))), (16, .int .u8 a0)] <| OJ.nil <| SJ.r1 (.int .i64 (IntKind.wrap .i64 ((IntKind.wrap .i64 (IntKind.wrap .u8 (a0 - 97))) + 10))) rfl rfl
   ·refine SJ.sr 7 <| OJ.go 3 [(23, .bool (decide (a0 ≥ 65))), (22, .bool (decide (a0 ≥ 65))), (21, .int .u8 a0)] <| OJ.join (b := decide (a0 ≥ 65)) [3, 4, 5] [6] [0, 26] (fun y11 => [(0, .int .u8 a0), (26, .bool y11)]) [] [] (t := 23) decide_eq_true_iff (fun hp_ => ?_) (fun hp_ => ?_) (fun _ _ _ _ _ _ h_ => h_) (fun y11 => ?_)
    ·exact OJ.go 3 [(26, .bool (decide (a0 ≤ 70))), (25, .bool (decide (a0 ≤ 70))), (24, .int .u8 a0)] <| OJ.x0
    ·exact OJ.go 3 [(26, .bool false), (25, undef), (24, undef)] <| OJ.x0
    ·refine OJ.go 1 [(20, .bool y11)] <| OJ.nil <| SJ.cond (t := (.tmp 20)) (b := y11) Iff.rfl (fun hc12 => ?_) (fun hc12 => ?_)
     ·exact SJ.sr 5 <| OJ.go 5 [(2, .int .i64 (IntKind.wrap .i64 ((IntKind.wrap .i64 (IntKind.wrap .u8 (a0 - 65))) + 10))), (30, .int .i64 (IntKind.wrap .i64 ((IntKind.wrap .i64 (IntKind.wrap .u8 (a0 - 65))) + 10))), (29, .int .i64 (IntKind.wrap .i64 (IntKind.wrap .u8 (a0 - 65)))), (28, .int .u8 (IntKind.wrap .u8 (a0 - 65))), (27, .int .u8 a0)] <| OJ.nil <| SJ.r1 (.int .i64 (IntKind.wrap .i64 ((IntKind.wrap .i64 (IntKind.wrap .u8 (a0 - 65))) + 10))) rfl rfl
     ·exact SJ.skip <| SJ.inBlock <| SJ.sr 1 <| OJ.go 1 [(2, .int .i64 (-1))] <| OJ.nil <| SJ.r1 (.int .i64 (-1)) rfl rfl

/-! ### (*weir/addr.six).room: function 87 -/
noncomputable def addr_six_room.B : Code := (Tryz.f87.body).getD .skip
noncomputable def addr_six_room.cx : Fx := ⟨Tryz.prog, 87, Tryz.f87⟩
noncomputable def addr_six_room.out (r_ : Int) : Value := .int .i64 r_
noncomputable def addr_six_room.F0 (r_ : Int) : Reach := .ret (addr_six_room.out r_)
noncomputable def addr_six_room (a0 : (Option Addr)) : M Int :=
 nilck a0 >>= fun p1 =>
 ld (cI .i64) (Addr.add p1 3) >>= fun x2 =>
 if x2 ≥ 0 then
  nilck a0 >>= fun p5 =>
  ld cL (Addr.add p5 2) >>= fun x6 =>
  pure (IntKind.wrap .i64 (7 - (x6.len : Int)))
 else
  nilck a0 >>= fun p7 =>
  ld cL (Addr.add p7 2) >>= fun x8 =>
  pure (IntKind.wrap .i64 (8 - (x8.len : Int)))
theorem addr_six_room_ok (a0 : (Option Addr)) : Ref Tryz.prog 87 [.pointer a0] (addr_six_room a0) addr_six_room.out := by
 refine Ref.of (cd := addr_six_room.B) Tryz.func87 ?_
 show SJ addr_six_room.cx [.code addr_six_room.B] [(0, .pointer a0)] [] (addr_six_room a0) addr_six_room.F0
 unfold addr_six_room
 refine SJ.sr 1 <| OJ.go 1 [(2, .int .i64 0)] <| OJ.nil <| SJ.seq <| SJ.sr 5 <| OJ.go 1 [(3, .pointer a0)] <| OJ.nilck (d := 4) (y := .tmp 3) (fun p1 => ?_)
 refine OJ.go 1 [(5, .pointer (some (Addr.add p1 3)))] <| OJ.ld (d := 6) (y := .tmp 5) (pend2 := fun x2 => []) Ty3 (fun _ => rfl) (fun x2 => ?_)
 refine OJ.go 1 [(7, .bool (decide (x2 ≥ 0)))] <| OJ.nil <| SJ.cond (t := (.tmp 7)) (b := decide (x2 ≥ 0)) decide_eq_true_iff (fun hc9 => ?_) (fun hc9 => ?_)
 ·refine SJ.sr 7 <| OJ.go 1 [(8, .pointer a0)] <| OJ.nilck (d := 9) (y := .tmp 8) (fun p5 => ?_)
  refine OJ.go 1 [(10, .pointer (some (Addr.add p5 2)))] <| OJ.ld (d := 11) (y := .tmp 10) (pend2 := fun x6 => []) Ty58 (fun _ => rfl) (fun x6 => ?_)
  exact OJ.go 3 [(2, .int .i64 (IntKind.wrap .i64 (7 - (x6.len : Int)))), (13, .int .i64 (IntKind.wrap .i64 (7 - (x6.len : Int)))), (12, .int .i64 (x6.len : Int))] <| OJ.nil <| SJ.r1 (.int .i64 (IntKind.wrap .i64 (7 - (x6.len : Int)))) rfl rfl
 ·refine SJ.skip <| SJ.sr 7 <| OJ.go 1 [(14, .pointer a0)] <| OJ.nilck (d := 15) (y := .tmp 14) (fun p7 => ?_)
  refine OJ.go 1 [(16, .pointer (some (Addr.add p7 2)))] <| OJ.ld (d := 17) (y := .tmp 16) (pend2 := fun x8 => []) Ty58 (fun _ => rfl) (fun x8 => ?_)
  exact OJ.go 3 [(2, .int .i64 (IntKind.wrap .i64 (8 - (x8.len : Int)))), (19, .int .i64 (IntKind.wrap .i64 (8 - (x8.len : Int)))), (18, .int .i64 (x8.len : Int))] <| OJ.nil <| SJ.r1 (.int .i64 (IntKind.wrap .i64 (8 - (x8.len : Int)))) rfl rfl

/-! ### (*weir/addr.six).group: function 60 -/
noncomputable def addr_six_group.B : Code := (Tryz.f60.body).getD .skip
noncomputable def addr_six_group.cx : Fx := ⟨Tryz.prog, 60, Tryz.f60⟩
noncomputable def addr_six_group.out (r_ : (Bool × (Option Addr))) : Value := .tuple #[.bool r_.1, .pointer r_.2]
noncomputable def addr_six_group.F0 (r_ : (Bool × (Option Addr))) : Reach := .ret (addr_six_group.out r_)
noncomputable def addr_six_group.K1 (a0 : (Option Addr)) (x2 : Int) (s3 : Int) (s4 : Int) : M (Bool × (Option Addr)) :=
 if s4 = x2 then
  nilck a0 >>= fun p22 =>
  ld cS p22 >>= fun x23 =>
  addr_missing x23 x2 >>= fun r24 =>
  pure (false, r24)
 else
  nilck a0 >>= fun p25 =>
  ld cS p25 >>= fun x26 =>
  (if s4 < (x26.size : Int) then
    nilck a0 >>= fun p27 =>
    ld cS p27 >>= fun x28 =>
    chk ((0 : Int) ≤ s4 ∧ s4 < (x28.size : Int)) >>= fun _ =>
    pure ((sb x28 s4) == 46)
   else
    pure false) >>= fun y31 =>
  (if y31 = true then
    nilck a0 >>= fun p32 =>
    ld cL (Addr.add p32 2) >>= fun x33 =>
    (if (x33.len : Int) > 0 then
      pure true
     else
      nilck a0 >>= fun p34 =>
      ld (cI .i64) (Addr.add p34 3) >>= fun x35 =>
      pure (decide (x35 ≥ 0))) >>= fun y36 =>
    pure y36
   else
    pure false) >>= fun y37 =>
  if y37 = true then
   addr_six_room a0 >>= fun r51 =>
   if r51 < 2 then
    newv 48 c_addr_fault (⟨44, x2⟩ : addr_fault) >>= fun b53 =>
    pure (false, (some (pt b53 0)))
   else
    nilck a0 >>= fun p54 =>
    ld cS p54 >>= fun x55 =>
    addr_four x55 x2 >>= fun r56 =>
    slot 72 >>= fun b57 =>
    draw >>= fun _ =>
    nilck a0 >>= fun p58 =>
    ld cL (Addr.add p58 2) >>= fun x59 =>
    slot 3 >>= fun b60 =>
    same cL (Addr.add p58 2) x59 >>= fun _ =>
    appl (cI .i64) 3 8 0 x59 [bor .i64 (IntKind.wrap .i64 ((IntKind.wrap .i64 (Vec.g r56.1 0 0)) * 2 ^ 8)) (IntKind.wrap .i64 (Vec.g r56.1 1 0)), bor .i64 (IntKind.wrap .i64 ((IntKind.wrap .i64 (Vec.g r56.1 2 0)) * 2 ^ 8)) (IntKind.wrap .i64 (Vec.g r56.1 3 0))] >>= fun r61 =>
    nilck a0 >>= fun p62 =>
    st cL (Addr.add p62 2) r61 >>= fun _ =>
    pure (true, r56.2)
  else
   addr_six_room a0 >>= fun r64 =>
   if r64 < 1 then
    newv 48 c_addr_fault (⟨44, x2⟩ : addr_fault) >>= fun b66 =>
    pure (false, (some (pt b66 0)))
   else
    if (IntKind.wrap .i64 (s4 - x2)) > 4 then
     newv 48 c_addr_fault (⟨43, x2⟩ : addr_fault) >>= fun b68 =>
     pure (false, (some (pt b68 0)))
    else
     nilck a0 >>= fun p69 =>
     ld cL (Addr.add p69 2) >>= fun x70 =>
     slot 3 >>= fun b71 =>
     appl (cI .i64) 3 8 0 x70 [s3] >>= fun r72 =>
     nilck a0 >>= fun p73 =>
     st cL (Addr.add p73 2) r72 >>= fun _ =>
     nilck a0 >>= fun p74 =>
     st (cI .i64) (Addr.add p74 1) s4 >>= fun _ =>
     pure (false, none)
theorem addr_six_group.K1_ok (a0 : (Option Addr)) (x2 : Int) (s3 : Int) (s4 : Int) :
  SJ addr_six_group.cx [.code (c2 (c2 (c2 (c2 addr_six_group.B))))] [(0, .pointer a0), (4, .int .i64 x2), (5, .int .i64 s3), (6, .int .i64 s4)] [] (addr_six_group.K1 a0 x2 s3 s4) addr_six_group.F0 := by
 unfold addr_six_group.K1
 refine SJ.seq <| SJ.sr 3 <| OJ.go 3 [(46, .bool (s4 == x2)), (45, .int .i64 x2), (44, .int .i64 s4)] <| OJ.nil <| SJ.cond (t := (.tmp 46)) (b := (s4 == x2)) beq_iff_eq (fun hc78 => ?_) (fun hc78 => ?_)
 ·refine SJ.sr 8 <| OJ.go 1 [(47, .pointer a0)] <| OJ.nilck (d := 48) (y := .tmp 47) (fun p22 => ?_)
  refine OJ.go 1 [(49, .pointer (some p22))] <| OJ.ld (d := 50) (y := .tmp 49) (pend2 := fun x23 => []) Ty9 (fun _ => rfl) (fun x23 => ?_)
  refine OJ.go 1 [(51, .int .i64 x2)] <| OJ.call (d := 52) (g := 57) (ats := #[9, 3]) (args := [.tmp 50, .tmp 51]) (owed := []) F57 (addr_missing_ok x23 x2) (fun r24 => ?_)
  exact OW.nil <| OJ.go 2 [(3, .pointer r24), (2, .bool false)] <| OJ.nil <| SJ.r2 (.bool false) (.pointer r24) rfl rfl
 ·refine SJ.skip <| SJ.seq <| SJ.sr 31 <| OJ.go 2 [(54, .pointer a0), (53, .int .i64 s4)] <| OJ.nilck (d := 55) (y := .tmp 54) (fun p25 => ?_)
  refine OJ.go 1 [(56, .pointer (some p25))] <| OJ.ld (d := 57) (y := .tmp 56) (pend2 := fun x26 => []) Ty9 (fun _ => rfl) (fun x26 => ?_)
  refine OJ.go 3 [(60, .bool (decide (s4 < (x26.size : Int)))), (59, .bool (decide (s4 < (x26.size : Int)))), (58, .int .i64 (x26.size : Int))] <| OJ.join (b := decide (s4 < (x26.size : Int))) [8, 9, 10, 11, 12, 13, 14, 15] [16, 17, 18, 19, 20, 21, 22, 23, 24, 25, 26, 27, 28, 29, 30] [0, 4, 5, 6, 68] (fun y31 => [(0, .pointer a0), (4, .int .i64 x2), (5, .int .i64 s3), (6, .int .i64 s4), (68, .bool y31)]) [] [] (t := 60) decide_eq_true_iff (fun hp_ => ?_) (fun hp_ => ?_) (fun _ _ _ _ _ _ h_ => h_) (fun y31 => ?_)
  ·refine OJ.go 1 [(61, .pointer a0)] <| OJ.nilck (d := 62) (y := .tmp 61) (fun p27 => ?_)
   refine OJ.go 1 [(63, .pointer (some p27))] <| OJ.ld (d := 64) (y := .tmp 63) (pend2 := fun x28 => []) Ty9 (fun _ => rfl) (fun x28 => ?_)
   refine OJ.go 1 [(65, .int .i64 s4)] <| OJ.idxT (d := 66) (T := 9) (y := .tmp 64) (j := .tmp 65) (k := .i64) (fun hb29 hb30 => ?_)
   exact OJ.go 2 [(68, .bool ((sb x28 s4) == 46)), (67, .bool ((sb x28 s4) == 46))] <| OJ.x0
  ·exact OJ.go 8 [(68, .bool false), (67, undef), (66, undef), (65, undef), (64, undef), (63, undef), (62, undef), (61, undef)] <| OJ.x0
  ·refine OJ.go 1 [(69, .bool y31)] <| OJ.join (b := y31) [17, 18, 19, 20, 21, 22, 23, 24, 25, 26, 27, 28, 29, 30] [] [0, 4, 5, 6, 83] (fun y37 => [(0, .pointer a0), (4, .int .i64 x2), (5, .int .i64 s3), (6, .int .i64 s4), (83, .bool y37)]) [] [] (t := 69) Iff.rfl (fun hp_ => ?_) (fun hp_ => ?_) (fun _ _ _ _ _ _ h_ => h_) (fun y37 => ?_)
   ·refine OJ.go 1 [(70, .pointer a0)] <| OJ.nilck (d := 71) (y := .tmp 70) (fun p32 => ?_)
    refine OJ.go 1 [(72, .pointer (some (Addr.add p32 2)))] <| OJ.ld (d := 73) (y := .tmp 72) (pend2 := fun x33 => []) Ty58 (fun _ => rfl) (fun x33 => ?_)
    refine OJ.go 3 [(76, .bool (decide ((x33.len : Int) > 0))), (75, .bool (decide ((x33.len : Int) > 0))), (74, .int .i64 (x33.len : Int))] <| OJ.join (b := decide ((x33.len : Int) > 0)) [24, 25, 26, 27, 28, 29] [30] [0, 4, 5, 6, 69, 82] (fun y36 => [(0, .pointer a0), (4, .int .i64 x2), (5, .int .i64 s3), (6, .int .i64 s4), (69, .bool true), (82, .bool y36)]) [] [] (t := 76) decide_eq_true_iff (fun hp_ => ?_) (fun hp_ => ?_) (fun _ _ _ _ _ hq_ h_ => ⟨fun e_ he_ => (hq_ e_ he_).elim (fun h => h_.1 e_ h) (fun h => nomatch h), h_.2⟩) (fun y36 => ?_)
    ·exact OJ.go 6 [(82, .bool true), (81, undef), (80, undef), (79, undef), (78, undef), (77, undef)] <| OJ.x0
    ·refine OJ.go 1 [(77, .pointer a0)] <| OJ.nilck (d := 78) (y := .tmp 77) (fun p34 => ?_)
     refine OJ.go 1 [(79, .pointer (some (Addr.add p34 3)))] <| OJ.ld (d := 80) (y := .tmp 79) (pend2 := fun x35 => []) Ty3 (fun _ => rfl) (fun x35 => ?_)
     exact OJ.go 2 [(82, .bool (decide (x35 ≥ 0))), (81, .bool (decide (x35 ≥ 0)))] <| OJ.x0
    ·exact OJ.go 1 [(83, .bool y36)] <| OJ.x0
   ·exact OJ.go 14 [(83, .bool false), (82, undef), (81, undef), (80, undef), (79, undef), (78, undef), (77, undef), (76, undef), (75, undef), (74, undef), (73, undef), (72, undef), (71, undef), (70, undef)] <| OJ.x0
   ·refine OJ.nil <| SJ.cond (t := (.tmp 83)) (b := y37) Iff.rfl (fun hc77 => ?_) (fun hc77 => ?_)
    ·refine SJ.seq <| SJ.sr 3 <| OJ.go 1 [(84, .pointer a0)] <| OJ.call (d := 85) (g := 87) (ats := #[75]) (args := [.tmp 84]) (owed := []) F87 (addr_six_room_ok a0) (fun r51 => ?_)
     refine OW.nil <| OJ.go 1 [(86, .bool (decide (r51 < 2)))] <| OJ.nil <| SJ.cond (t := (.tmp 86)) (b := decide (r51 < 2)) decide_eq_true_iff (fun hc63 => ?_) (fun hc63 => ?_)
     ·refine SJ.sr 5 <| OJ.go 1 [(87, .int .i64 x2)] <| OJ.build (d := 88) (T := 48) (parts := [(0, .const (.int .i64 44)), (1, .tmp 87)]) (ps := [(0, (cI .i64).val 44), (1, (cI .i64).val x2)]) (cd := c_addr_fault) (z0 := z_addr_fault) (⟨44, x2⟩ : addr_fault) Ty48 rfl (Filled.cons (cd := (cI .i64)) (q := 44) (o := 0) (by kernel_rfl) (Up_addr_fault_why z_addr_fault 44) (Filled.cons (cd := (cI .i64)) (q := x2) (o := 1) (by kernel_rfl) (Up_addr_fault_at_ (⟨44, z_addr_fault.at_⟩ : addr_fault) x2) Filled.nil)) ?_
      refine OJ.newOf (d := 89) (op := (.box 48 (.tmp 88))) (cd := c_addr_fault) (u := (⟨44, x2⟩ : addr_fault)) (owed := []) (box_run (by kernel_rfl)) (fun b53 => ?_)
      exact OW.nil <| OJ.go 2 [(3, .pointer (some (pt b53 0))), (2, .bool false)] <| OJ.nil <| SJ.r2 (.bool false) (.pointer (some (pt b53 0))) rfl rfl
     ·refine SJ.skip <| SJ.sr 12 <| OJ.go 1 [(91, .pointer a0)] <| OJ.nilck (d := 92) (y := .tmp 91) (fun p54 => ?_)
      refine OJ.go 1 [(93, .pointer (some p54))] <| OJ.ld (d := 94) (y := .tmp 93) (pend2 := fun x55 => []) Ty9 (fun _ => rfl) (fun x55 => ?_)
      refine OJ.go 1 [(95, .int .i64 x2)] <| OJ.call (d := 96) (g := 29) (ats := #[9, 3]) (args := [.tmp 94, .tmp 95]) (owed := []) F29 (addr_four_ok x55 x2) (fun r56 => ?_)
      refine OW.nil <| OJ.go 3 [(98, .pointer r56.2), (97, ((cI .u8).arr 4).val r56.1), (90, .tuple #[((cI .u8).arr 4).val r56.1, .pointer r56.2])] <| OJ.slotOf (d := 7) (op := (.alloc 72)) (cd := ((cI .u8).arr 4)) (u := (Vec.rep 4 0)) (owed := []) (alloc_run Ty72) (fun b57 => ?_)
      refine OW.nil <| OJ.kst (y := .tmp 7) (z := .tmp 97) (cd := ((cI .u8).arr 4)) (u := r56.1) (j := 0) (b := b57) (o := 0) (((cI .u8).arr 4).enc r56.1) (owed := []) Ty72 rfl (Upd.whole ((Cod.len _ _).trans (Cod.len _ _).symm)) rfl ?_
      refine OW.nil <| OJ.go 1 [(8, .pointer r56.2)] <| OJ.nil <| SJ.seq <| SJ.draw (id := 12) (kd := [0, 0, 0, 0, 1, 0, 1, 0, 0, 0, 1, 0, 0, 0, 1, 0, 0, 0, 1, 0, 0, 2, 2, 0, 0, 2]) (bef := [0, 0, 2, 6, 14, 0, 32, 96, 224, 0, 512, 1536, 4064, 0, 8192, 24576, 57344, 0, 131072, 393216, 1040384, 2097120, 4194302, 8388607, 16777215, 33554431]) (ord := [0, 1, 2, 3, 4, 5, 6, 7, 8, 9, 10, 11, 12, 13, 14, 15, 16, 17, 18, 19, 20, 21, 22, 23, 24, 25]) mixed ?_
      refine OJ.go 2 [(100, .pointer a0), (99, .pointer a0)] <| OJ.nilck (d := 101) (y := .tmp 100) (fun p58 => ?_)
      refine OJ.go 1 [(102, .pointer (some (Addr.add p58 2)))] <| OJ.ld (d := 103) (y := .tmp 102) (pend2 := fun x59 => [⟨4, 58, (Addr.add p58 2), cL.val x59⟩]) Ty58 (fun _ => rfl) (fun x59 => ?_)
      refine OJ.go 1 [(104, .pointer (some (pt b57 0)))] <| OJ.kld (d := 105) (y := .tmp 104) (cd := (cI .u8)) (j := 0) (b := b57) (o := 0) (Vec.g r56.1 0 0) (pend2 := [⟨6, 5, (pt b57 0), (cI .u8).val (Vec.g r56.1 0 0)⟩, ⟨4, 58, (Addr.add p58 2), cL.val x59⟩]) Ty5 rfl (At.zero (At.arr (z := 0) (by decide) (by decide))) rfl ?_
      refine OJ.go 3 [(108, .pointer (some (pt b57 1))), (107, .int .i64 (IntKind.wrap .i64 ((IntKind.wrap .i64 (Vec.g r56.1 0 0)) * 2 ^ 8))), (106, .int .i64 (IntKind.wrap .i64 (Vec.g r56.1 0 0)))] <| OJ.kld (d := 109) (y := .tmp 108) (cd := (cI .u8)) (j := 0) (b := b57) (o := 1) (Vec.g r56.1 1 0) (pend2 := [⟨10, 5, (pt b57 1), (cI .u8).val (Vec.g r56.1 1 0)⟩, ⟨6, 5, (pt b57 0), (cI .u8).val (Vec.g r56.1 0 0)⟩, ⟨4, 58, (Addr.add p58 2), cL.val x59⟩]) Ty5 rfl (At.zero (At.arr (z := 0) (by decide) (by decide))) rfl ?_
      refine OJ.go 3 [(112, .pointer (some (pt b57 2))), (111, .int .i64 (bor .i64 (IntKind.wrap .i64 ((IntKind.wrap .i64 (Vec.g r56.1 0 0)) * 2 ^ 8)) (IntKind.wrap .i64 (Vec.g r56.1 1 0)))), (110, .int .i64 (IntKind.wrap .i64 (Vec.g r56.1 1 0)))] <| OJ.kld (d := 113) (y := .tmp 112) (cd := (cI .u8)) (j := 0) (b := b57) (o := 2) (Vec.g r56.1 2 0) (pend2 := [⟨14, 5, (pt b57 2), (cI .u8).val (Vec.g r56.1 2 0)⟩, ⟨10, 5, (pt b57 1), (cI .u8).val (Vec.g r56.1 1 0)⟩, ⟨6, 5, (pt b57 0), (cI .u8).val (Vec.g r56.1 0 0)⟩, ⟨4, 58, (Addr.add p58 2), cL.val x59⟩]) Ty5 rfl (At.zero (At.arr (z := 0) (by decide) (by decide))) rfl ?_
      refine OJ.go 3 [(116, .pointer (some (pt b57 3))), (115, .int .i64 (IntKind.wrap .i64 ((IntKind.wrap .i64 (Vec.g r56.1 2 0)) * 2 ^ 8))), (114, .int .i64 (IntKind.wrap .i64 (Vec.g r56.1 2 0)))] <| OJ.kld (d := 117) (y := .tmp 116) (cd := (cI .u8)) (j := 0) (b := b57) (o := 3) (Vec.g r56.1 3 0) (pend2 := [⟨18, 5, (pt b57 3), (cI .u8).val (Vec.g r56.1 3 0)⟩, ⟨14, 5, (pt b57 2), (cI .u8).val (Vec.g r56.1 2 0)⟩, ⟨10, 5, (pt b57 1), (cI .u8).val (Vec.g r56.1 1 0)⟩, ⟨6, 5, (pt b57 0), (cI .u8).val (Vec.g r56.1 0 0)⟩, ⟨4, 58, (Addr.add p58 2), cL.val x59⟩]) Ty5 rfl (At.zero (At.arr (z := 0) (by decide) (by decide))) rfl ?_
      refine OJ.go 2 [(119, .int .i64 (bor .i64 (IntKind.wrap .i64 ((IntKind.wrap .i64 (Vec.g r56.1 2 0)) * 2 ^ 8)) (IntKind.wrap .i64 (Vec.g r56.1 3 0)))), (118, .int .i64 (IntKind.wrap .i64 (Vec.g r56.1 3 0)))] <| OJ.rowSlot (d := 120) (t := 58) (parts := [(0, .tmp 111), (1, .tmp 119)]) (ps := [(0, (cI .i64).val (bor .i64 (IntKind.wrap .i64 ((IntKind.wrap .i64 (Vec.g r56.1 0 0)) * 2 ^ 8)) (IntKind.wrap .i64 (Vec.g r56.1 1 0)))), (1, (cI .i64).val (bor .i64 (IntKind.wrap .i64 ((IntKind.wrap .i64 (Vec.g r56.1 2 0)) * 2 ^ 8)) (IntKind.wrap .i64 (Vec.g r56.1 3 0))))]) (cd := (cI .i64)) (⟨[bor .i64 (IntKind.wrap .i64 ((IntKind.wrap .i64 (Vec.g r56.1 0 0)) * 2 ^ 8)) (IntKind.wrap .i64 (Vec.g r56.1 1 0)), bor .i64 (IntKind.wrap .i64 ((IntKind.wrap .i64 (Vec.g r56.1 2 0)) * 2 ^ 8)) (IntKind.wrap .i64 (Vec.g r56.1 3 0))], rfl⟩ : Vec Int 2) (owed := [⟨4, 58, (Addr.add p58 2), cL.val x59⟩]) Ty3 (Filled.cons (cd := (cI .i64)) (q := (bor .i64 (IntKind.wrap .i64 ((IntKind.wrap .i64 (Vec.g r56.1 0 0)) * 2 ^ 8)) (IntKind.wrap .i64 (Vec.g r56.1 1 0)))) (o := 0) rfl (Upd.arr (i := 0) (by decide) (by decide)) (Filled.cons (cd := (cI .i64)) (q := (bor .i64 (IntKind.wrap .i64 ((IntKind.wrap .i64 (Vec.g r56.1 2 0)) * 2 ^ 8)) (IntKind.wrap .i64 (Vec.g r56.1 3 0)))) (o := 1) rfl (Upd.arr (i := 1) (by decide) (by decide)) Filled.nil)) (fun b60 => ?_)
      refine OW.same Ty58 ?_
      refine OW.nil <| OJ.appl (d := 121) (t := 58) (u := 58) (so := .tmp 103) (xo := .tmp 120) (j := 0) (b := b60) (l := ((cI .i64).arr 2).enc (⟨[bor .i64 (IntKind.wrap .i64 ((IntKind.wrap .i64 (Vec.g r56.1 0 0)) * 2 ^ 8)) (IntKind.wrap .i64 (Vec.g r56.1 1 0)), bor .i64 (IntKind.wrap .i64 ((IntKind.wrap .i64 (Vec.g r56.1 2 0)) * 2 ^ 8)) (IntKind.wrap .i64 (Vec.g r56.1 3 0))], rfl⟩ : Vec Int 2)) (n := 2) (k := 2) [bor .i64 (IntKind.wrap .i64 ((IntKind.wrap .i64 (Vec.g r56.1 0 0)) * 2 ^ 8)) (IntKind.wrap .i64 (Vec.g r56.1 1 0)), bor .i64 (IntKind.wrap .i64 ((IntKind.wrap .i64 (Vec.g r56.1 2 0)) * 2 ^ 8)) (IntKind.wrap .i64 (Vec.g r56.1 3 0))] (owed := []) Ty3 (by rfl) (Cod.arr_enc _ _ _) (by rfl) (fun r61 => ?_)
      refine OW.nil <| OJ.nilck (d := 122) (y := .tmp 99) (fun p62 => ?_)
      refine OJ.go 1 [(123, .pointer (some (Addr.add p62 2)))] <| OJ.st (y := .tmp 123) (z := .tmp 121) (owed := []) Ty58 ?_
      exact OW.nil <| OJ.nil <| SJ.sr 3 <| OJ.go 3 [(3, .pointer r56.2), (2, .bool true), (124, .pointer r56.2)] <| OJ.nil <| SJ.r2 (.bool true) (.pointer r56.2) rfl rfl
    ·refine SJ.skip <| SJ.seq <| SJ.sr 3 <| OJ.go 1 [(125, .pointer a0)] <| OJ.call (d := 126) (g := 87) (ats := #[75]) (args := [.tmp 125]) (owed := []) F87 (addr_six_room_ok a0) (fun r64 => ?_)
     refine OW.nil <| OJ.go 1 [(127, .bool (decide (r64 < 1)))] <| OJ.nil <| SJ.cond (t := (.tmp 127)) (b := decide (r64 < 1)) decide_eq_true_iff (fun hc76 => ?_) (fun hc76 => ?_)
     ·refine SJ.sr 5 <| OJ.go 1 [(128, .int .i64 x2)] <| OJ.build (d := 129) (T := 48) (parts := [(0, .const (.int .i64 44)), (1, .tmp 128)]) (ps := [(0, (cI .i64).val 44), (1, (cI .i64).val x2)]) (cd := c_addr_fault) (z0 := z_addr_fault) (⟨44, x2⟩ : addr_fault) Ty48 rfl (Filled.cons (cd := (cI .i64)) (q := 44) (o := 0) (by kernel_rfl) (Up_addr_fault_why z_addr_fault 44) (Filled.cons (cd := (cI .i64)) (q := x2) (o := 1) (by kernel_rfl) (Up_addr_fault_at_ (⟨44, z_addr_fault.at_⟩ : addr_fault) x2) Filled.nil)) ?_
      refine OJ.newOf (d := 130) (op := (.box 48 (.tmp 129))) (cd := c_addr_fault) (u := (⟨44, x2⟩ : addr_fault)) (owed := []) (box_run (by kernel_rfl)) (fun b66 => ?_)
      exact OW.nil <| OJ.go 2 [(3, .pointer (some (pt b66 0))), (2, .bool false)] <| OJ.nil <| SJ.r2 (.bool false) (.pointer (some (pt b66 0))) rfl rfl
     ·refine SJ.skip <| SJ.seq <| SJ.sr 4 <| OJ.go 4 [(134, .bool (decide ((IntKind.wrap .i64 (s4 - x2)) > 4))), (133, .int .i64 (IntKind.wrap .i64 (s4 - x2))), (132, .int .i64 x2), (131, .int .i64 s4)] <| OJ.nil <| SJ.cond (t := (.tmp 134)) (b := decide ((IntKind.wrap .i64 (s4 - x2)) > 4)) decide_eq_true_iff (fun hc75 => ?_) (fun hc75 => ?_)
      ·refine SJ.sr 5 <| OJ.go 1 [(135, .int .i64 x2)] <| OJ.build (d := 136) (T := 48) (parts := [(0, .const (.int .i64 43)), (1, .tmp 135)]) (ps := [(0, (cI .i64).val 43), (1, (cI .i64).val x2)]) (cd := c_addr_fault) (z0 := z_addr_fault) (⟨43, x2⟩ : addr_fault) Ty48 rfl (Filled.cons (cd := (cI .i64)) (q := 43) (o := 0) (by kernel_rfl) (Up_addr_fault_why z_addr_fault 43) (Filled.cons (cd := (cI .i64)) (q := x2) (o := 1) (by kernel_rfl) (Up_addr_fault_at_ (⟨43, z_addr_fault.at_⟩ : addr_fault) x2) Filled.nil)) ?_
       refine OJ.newOf (d := 137) (op := (.box 48 (.tmp 136))) (cd := c_addr_fault) (u := (⟨43, x2⟩ : addr_fault)) (owed := []) (box_run (by kernel_rfl)) (fun b68 => ?_)
       exact OW.nil <| OJ.go 2 [(3, .pointer (some (pt b68 0))), (2, .bool false)] <| OJ.nil <| SJ.r2 (.bool false) (.pointer (some (pt b68 0))) rfl rfl
      ·refine SJ.skip <| SJ.sr 11 <| OJ.go 2 [(139, .pointer a0), (138, .pointer a0)] <| OJ.nilck (d := 140) (y := .tmp 139) (fun p69 => ?_)
       refine OJ.go 1 [(141, .pointer (some (Addr.add p69 2)))] <| OJ.ld (d := 142) (y := .tmp 141) (pend2 := fun x70 => []) Ty58 (fun _ => rfl) (fun x70 => ?_)
       refine OJ.go 1 [(143, .int .i64 s3)] <| OJ.rowSlot (d := 144) (t := 58) (parts := [(0, .tmp 143)]) (ps := [(0, (cI .i64).val s3)]) (cd := (cI .i64)) (⟨[s3], rfl⟩ : Vec Int 1) (owed := []) Ty3 (Filled.cons (cd := (cI .i64)) (q := s3) (o := 0) rfl (Upd.arr (i := 0) (by decide) (by decide)) Filled.nil) (fun b71 => ?_)
       refine OW.nil <| OJ.appl (d := 145) (t := 58) (u := 58) (so := .tmp 142) (xo := .tmp 144) (j := 0) (b := b71) (l := ((cI .i64).arr 1).enc (⟨[s3], rfl⟩ : Vec Int 1)) (n := 1) (k := 1) [s3] (owed := []) Ty3 (by rfl) (Cod.arr_enc _ _ _) (by rfl) (fun r72 => ?_)
       refine OW.nil <| OJ.nilck (d := 146) (y := .tmp 138) (fun p73 => ?_)
       refine OJ.go 1 [(147, .pointer (some (Addr.add p73 2)))] <| OJ.st (y := .tmp 147) (z := .tmp 145) (owed := []) Ty58 ?_
       refine OW.nil <| OJ.nil <| SJ.sr 5 <| OJ.go 2 [(149, .int .i64 s4), (148, .pointer a0)] <| OJ.nilck (d := 150) (y := .tmp 148) (fun p74 => ?_)
       refine OJ.go 1 [(151, .pointer (some (Addr.add p74 1)))] <| OJ.st (y := .tmp 151) (z := .tmp 149) (owed := []) Ty3 ?_
       exact OW.nil <| OJ.nil <| SJ.sr 2 <| OJ.go 2 [(3, .pointer none), (2, .bool false)] <| OJ.nil <| SJ.r2 (.bool false) (.pointer none) rfl rfl
noncomputable def addr_six_group.F1 (a0 : (Option Addr)) (x2 : Int) : (LS (Int × Int) (Bool × (Option Addr))) → Reach := loopF [.inLoop (c1 (c1 (c1 (c2 (c2 (c2 addr_six_group.B)))))), .inBlock 0, .code (c2 (c2 (c2 (c2 addr_six_group.B))))] (fun s_ : (Int × Int) => [(0, .pointer a0), (4, .int .i64 x2), (5, .int .i64 s_.1), (6, .int .i64 s_.2)]) (fun s_ : (Int × Int) => []) addr_six_group.F0
noncomputable def addr_six_group.L1 (a0 : (Option Addr)) (x2 : Int) (s3 : Int) (s4 : Int) : M (LS (Int × Int) (Bool × (Option Addr))) :=
 nilck a0 >>= fun p79 =>
 ld cS p79 >>= fun x80 =>
 (if s4 < (x80.size : Int) then
   nilck a0 >>= fun p81 =>
   ld cS p81 >>= fun x82 =>
   chk ((0 : Int) ≤ s4 ∧ s4 < (x82.size : Int)) >>= fun _ =>
   addr_hexa (sb x82 s4) >>= fun r85 =>
   pure (decide (r85 ≥ 0))
  else
   pure false) >>= fun y86 =>
 if y86 = true then
  nilck a0 >>= fun p87 =>
  ld cS p87 >>= fun x88 =>
  chk ((0 : Int) ≤ s4 ∧ s4 < (x88.size : Int)) >>= fun _ =>
  addr_hexa (sb x88 s4) >>= fun r91 =>
  pure (LS.next (bor .i64 (band .i64 (IntKind.wrap .i64 (s3 * 2 ^ 4)) 1048575) r91, IntKind.wrap .i64 (s4 + 1)))
 else
  (addr_six_group.K1 a0 x2 s3 s4) >>= fun b => pure (LS.done b)
theorem addr_six_group.L1_ok (a0 : (Option Addr)) (x2 : Int) (s3 : Int) (s4 : Int) :
  SJ addr_six_group.cx [.code (c1 (c1 (c1 (c2 (c2 (c2 addr_six_group.B)))))), .inLoop (c1 (c1 (c1 (c2 (c2 (c2 addr_six_group.B)))))), .inBlock 0, .code (c2 (c2 (c2 (c2 addr_six_group.B))))] [(0, .pointer a0), (4, .int .i64 x2), (5, .int .i64 s3), (6, .int .i64 s4)] [] (addr_six_group.L1 a0 x2 s3 s4) (addr_six_group.F1 a0 x2) := by
 unfold addr_six_group.L1
 refine SJ.seq <| SJ.sr 17 <| OJ.go 2 [(15, .pointer a0), (14, .int .i64 s4)] <| OJ.nilck (d := 16) (y := .tmp 15) (fun p79 => ?_)
 refine OJ.go 1 [(17, .pointer (some p79))] <| OJ.ld (d := 18) (y := .tmp 17) (pend2 := fun x80 => []) Ty9 (fun _ => rfl) (fun x80 => ?_)
 refine OJ.go 3 [(21, .bool (decide (s4 < (x80.size : Int)))), (20, .bool (decide (s4 < (x80.size : Int)))), (19, .int .i64 (x80.size : Int))] <| OJ.join (b := decide (s4 < (x80.size : Int))) [8, 9, 10, 11, 12, 13, 14, 15, 16] [] [0, 4, 5, 6, 30] (fun y86 => [(0, .pointer a0), (4, .int .i64 x2), (5, .int .i64 s3), (6, .int .i64 s4), (30, .bool y86)]) [] [] (t := 21) decide_eq_true_iff (fun hp_ => ?_) (fun hp_ => ?_) (fun _ _ _ _ _ _ h_ => h_) (fun y86 => ?_)
 ·refine OJ.go 1 [(22, .pointer a0)] <| OJ.nilck (d := 23) (y := .tmp 22) (fun p81 => ?_)
  refine OJ.go 1 [(24, .pointer (some p81))] <| OJ.ld (d := 25) (y := .tmp 24) (pend2 := fun x82 => []) Ty9 (fun _ => rfl) (fun x82 => ?_)
  refine OJ.go 1 [(26, .int .i64 s4)] <| OJ.idxT (d := 27) (T := 9) (y := .tmp 25) (j := .tmp 26) (k := .i64) (fun hb83 hb84 => ?_)
  refine OJ.call (d := 28) (g := 74) (ats := #[5]) (args := [.tmp 27]) (owed := []) F74 (addr_hexa_ok (sb x82 s4)) (fun r85 => ?_)
  exact OW.nil <| OJ.go 2 [(30, .bool (decide (r85 ≥ 0))), (29, .bool (decide (r85 ≥ 0)))] <| OJ.x0
 ·exact OJ.go 9 [(30, .bool false), (29, undef), (28, undef), (27, undef), (26, undef), (25, undef), (24, undef), (23, undef), (22, undef)] <| OJ.x0
 ·refine OJ.nil <| SJ.cond (t := (.tmp 30)) (b := y86) Iff.rfl (fun hc92 => ?_) (fun hc92 => ?_)
  ·refine SJ.skip <| SJ.block (id := 1) <| SJ.sr 12 <| OJ.go 4 [(34, .pointer a0), (33, .int .i64 (band .i64 (IntKind.wrap .i64 (s3 * 2 ^ 4)) 1048575)), (32, .int .i64 (IntKind.wrap .i64 (s3 * 2 ^ 4))), (31, .int .i64 s3)] <| OJ.nilck (d := 35) (y := .tmp 34) (fun p87 => ?_)
   refine OJ.go 1 [(36, .pointer (some p87))] <| OJ.ld (d := 37) (y := .tmp 36) (pend2 := fun x88 => []) Ty9 (fun _ => rfl) (fun x88 => ?_)
   refine OJ.go 1 [(38, .int .i64 s4)] <| OJ.idxT (d := 39) (T := 9) (y := .tmp 37) (j := .tmp 38) (k := .i64) (fun hb89 hb90 => ?_)
   refine OJ.call (d := 40) (g := 74) (ats := #[5]) (args := [.tmp 39]) (owed := []) F74 (addr_hexa_ok (sb x88 s4)) (fun r91 => ?_)
   exact OW.nil <| OJ.go 2 [(5, .int .i64 (bor .i64 (band .i64 (IntKind.wrap .i64 (s3 * 2 ^ 4)) 1048575) r91)), (41, .int .i64 (bor .i64 (band .i64 (IntKind.wrap .i64 (s3 * 2 ^ 4)) 1048575) r91))] <| OJ.nil <| SJ.rg 3 <| OJ.go 3 [(6, .int .i64 (IntKind.wrap .i64 (s4 + 1))), (43, .int .i64 (IntKind.wrap .i64 (s4 + 1))), (42, .int .i64 s4)] <| OJ.nil <| SJ.inBlock <| SJ.at_ [0, 4, 5, 6] rfl
  ·refine SJ.exit (id := 0) (by rfl) <| SJ.less [0, 4, 5, 6] (m' := [(0, .pointer a0), (4, .int .i64 x2), (5, .int .i64 s3), (6, .int .i64 s4)]) ?_
   refine SJ.done ?_
   exact addr_six_group.K1_ok a0 x2 s3 s4
noncomputable def addr_six_group (a0 : (Option Addr)) : M (Bool × (Option Addr)) :=
 nilck a0 >>= fun p1 =>
 ld (cI .i64) (Addr.add p1 1) >>= fun x2 =>
 loopM (fun s_ : (Int × Int) => addr_six_group.L1 a0 x2 s_.1 s_.2) (0, x2)
theorem addr_six_group_ok (a0 : (Option Addr)) : Ref Tryz.prog 60 [.pointer a0] (addr_six_group a0) addr_six_group.out := by
 refine Ref.of (cd := addr_six_group.B) Tryz.func60 ?_
 show SJ addr_six_group.cx [.code addr_six_group.B] [(0, .pointer a0)] [] (addr_six_group a0) addr_six_group.F0
 unfold addr_six_group
 refine SJ.sr 2 <| OJ.go 2 [(3, .pointer none), (2, .bool false)] <| OJ.nil <| SJ.sr 6 <| OJ.go 1 [(9, .pointer a0)] <| OJ.nilck (d := 10) (y := .tmp 9) (fun p1 => ?_)
 refine OJ.go 1 [(11, .pointer (some (Addr.add p1 1)))] <| OJ.ld (d := 12) (y := .tmp 11) (pend2 := fun x2 => []) Ty3 (fun _ => rfl) (fun x2 => ?_)
 exact OJ.go 2 [(5, .int .i64 0), (4, .int .i64 x2)] <| OJ.nil <| SJ.sr 2 <| OJ.go 2 [(6, .int .i64 x2), (13, .int .i64 x2)] <| OJ.nil <| SJ.seq <| SJ.block (id := 0) <| SJ.loop (fun s_ : (Int × Int) => [(0, .pointer a0), (4, .int .i64 x2), (5, .int .i64 s_.1), (6, .int .i64 s_.2)]) (fun s_ : (Int × Int) => []) [0, 4, 5, 6] rfl (fun _ _ => rfl) (fun s_ => addr_six_group.L1_ok a0 x2 s_.1 s_.2)

/-! ### (*weir/addr.six).read: function 30 -/
noncomputable def addr_six_read.B : Code := (Tryz.f30.body).getD .skip
noncomputable def addr_six_read.cx : Fx := ⟨Tryz.prog, 30, Tryz.f30⟩
noncomputable def addr_six_read.out (r_ : (Option Addr)) : Value := .pointer r_
noncomputable def addr_six_read.F0 (r_ : (Option Addr)) : Reach := .ret (addr_six_read.out r_)
noncomputable def addr_six_read.F1 (a0 : (Option Addr)) : (LS Bool (Option Addr)) → Reach := loopF [.inLoop (c1 (c1 (c2 (c2 (c2 addr_six_read.B))))), .inBlock 0] (fun s_ : Bool => [(0, .pointer a0), (5, .bool s_)]) (fun s_ : Bool => []) addr_six_read.F0
noncomputable def addr_six_read.L1 (a0 : (Option Addr)) (s4 : Bool) : M (LS Bool (Option Addr)) :=
 draw >>= fun _ =>
 nilck a0 >>= fun p5 =>
 ld (cI .i64) (Addr.add p5 1) >>= fun x6 =>
 nilck a0 >>= fun p7 =>
 ld cS p7 >>= fun x8 =>
 (if x6 = (x8.size : Int) then
   pure s4
  else
   pure false) >>= fun y9 =>
 if y9 = true then
  pure (LS.done none)
 else
  addr_six_group a0 >>= fun r10 =>
  if ¬ (r10.2 = none) then
   pure (LS.done r10.2)
  else
   draw >>= fun _ =>
   (if r10.1 = true then
     pure true
    else
     nilck a0 >>= fun p11 =>
     ld (cI .i64) (Addr.add p11 1) >>= fun x12 =>
     nilck a0 >>= fun p13 =>
     ld cS p13 >>= fun x14 =>
     pure (x12 == (x14.size : Int))) >>= fun y15 =>
   if y15 = true then
    nilck a0 >>= fun p28 =>
    ld (cI .i64) (Addr.add p28 3) >>= fun x29 =>
    (if x29 < 0 then
      nilck a0 >>= fun p30 =>
      ld cL (Addr.add p30 2) >>= fun x31 =>
      pure ((x31.len : Int) != 8)
     else
      pure false) >>= fun y32 =>
    if y32 = true then
     nilck a0 >>= fun p36 =>
     ld cS p36 >>= fun x37 =>
     newv 48 c_addr_fault (⟨42, (x37.size : Int)⟩ : addr_fault) >>= fun b38 =>
     pure (LS.done (some (pt b38 0)))
    else
     pure (LS.done none)
   else
    addr_six_double a0 >>= fun r40 =>
    if ¬ (r40.2 = none) then
     pure (LS.done r40.2)
    else
     if ¬ (r40.1 = true) then
      draw >>= fun _ =>
      nilck a0 >>= fun p57 =>
      ld cS p57 >>= fun x58 =>
      nilck a0 >>= fun p59 =>
      ld (cI .i64) (Addr.add p59 1) >>= fun x60 =>
      chk ((0 : Int) ≤ x60 ∧ x60 < (x58.size : Int)) >>= fun _ =>
      if (sb x58 x60) ≠ 58 then
       nilck a0 >>= fun p66 =>
       ld (cI .i64) (Addr.add p66 1) >>= fun x67 =>
       newv 48 c_addr_fault (⟨41, x67⟩ : addr_fault) >>= fun b68 =>
       pure (LS.done (some (pt b68 0)))
      else
       nilck a0 >>= fun p69 =>
       ld (cI .i64) (Addr.add p69 1) >>= fun x70 =>
       nilck a0 >>= fun p71 =>
       st (cI .i64) (Addr.add p71 1) (IntKind.wrap .i64 (x70 + 1)) >>= fun _ =>
       pure (LS.next r40.1)
     else
      pure (LS.next r40.1)
theorem addr_six_read.L1_ok (a0 : (Option Addr)) (s4 : Bool) :
  SJ addr_six_read.cx [.code (c1 (c1 (c2 (c2 (c2 addr_six_read.B))))), .inLoop (c1 (c1 (c2 (c2 (c2 addr_six_read.B))))), .inBlock 0] [(0, .pointer a0), (5, .bool s4)] [] (addr_six_read.L1 a0 s4) (addr_six_read.F1 a0) := by
 unfold addr_six_read.L1
 refine SJ.block (id := 1) <| SJ.seq <| SJ.seq <| SJ.draw (id := 5) (kd := [0, 0, 0, 1, 0, 0, 0, 1, 0, 0, 0, 0, 0]) (bef := [0, 1, 3, 7, 0, 16, 48, 112, 240, 511, 1023, 2047, 4095]) (ord := [0, 1, 2, 3, 4, 5, 6, 7, 8, 9, 10, 11, 12]) mixed ?_
 refine OJ.go 1 [(21, .pointer a0)] <| OJ.nilck (d := 22) (y := .tmp 21) (fun p5 => ?_)
 refine OJ.go 1 [(23, .pointer (some (Addr.add p5 1)))] <| OJ.ld (d := 24) (y := .tmp 23) (pend2 := fun x6 => [⟨3, 3, (Addr.add p5 1), (cI .i64).val x6⟩]) Ty3 (fun _ => rfl) (fun x6 => ?_)
 refine OJ.go 1 [(25, .pointer a0)] <| OJ.nilck (d := 26) (y := .tmp 25) (fun p7 => ?_)
 refine OJ.go 1 [(27, .pointer (some p7))] <| OJ.ld (d := 28) (y := .tmp 27) (pend2 := fun x8 => [⟨7, 9, p7, cS.val x8⟩, ⟨3, 3, (Addr.add p5 1), (cI .i64).val x6⟩]) Ty9 (fun _ => rfl) (fun x8 => ?_)
 refine OJ.go 3 [(31, .bool (x6 == (x8.size : Int))), (30, .bool (x6 == (x8.size : Int))), (29, .int .i64 (x8.size : Int))] <| OJ.join (b := (x6 == (x8.size : Int))) [11, 12] [] [0, 33] (fun y9 => [(0, .pointer a0), (33, .bool y9)]) [⟨7, 9, p7, cS.val x8⟩, ⟨3, 3, (Addr.add p5 1), (cI .i64).val x6⟩] [] (t := 31) beq_iff_eq (fun hp_ => ?_) (fun hp_ => ?_) (fun _ _ _ _ _ _ h_ => h_) (fun y9 => ?_)
 ·exact OJ.go 2 [(33, .bool s4), (32, .bool s4)] <| OJ.nil ⟨(Cov.mem (Cov.keep (List.mem_of_getElem? (i := 0) rfl) (Cov.keep (List.mem_of_getElem? (i := 1) rfl) Cov.nil))), rfl, _, rfl, by kernel_rfl⟩
 ·exact OJ.go 2 [(33, .bool false), (32, undef)] <| OJ.nil ⟨(Cov.mem (Cov.keep (List.mem_of_getElem? (i := 0) rfl) (Cov.keep (List.mem_of_getElem? (i := 1) rfl) Cov.nil))), rfl, _, rfl, by kernel_rfl⟩
 ·refine OJ.nil <| SJ.cond (t := (.tmp 33)) (b := y9) Iff.rfl (fun hc77 => ?_) (fun hc77 => ?_)
  ·exact SJ.sr 1 <| OJ.go 1 [(2, .pointer none)] <| OJ.nil <| SJ.r1 (.pointer none) rfl rfl
  ·refine SJ.skip <| SJ.sr 7 <| OJ.go 1 [(35, .pointer a0)] <| OJ.call (d := 36) (g := 60) (ats := #[75]) (args := [.tmp 35]) (owed := []) F60 (addr_six_group_ok a0) (fun r10 => ?_)
   refine OW.nil <| OJ.go 5 [(7, .pointer r10.2), (6, .bool r10.1), (38, .pointer r10.2), (37, .bool r10.1), (34, .tuple #[.bool r10.1, .pointer r10.2])] <| OJ.nil <| SJ.seq <| SJ.sr 2 <| OJ.go 2 [(40, .bool (!(Option.isNone r10.2))), (39, .pointer r10.2)] <| OJ.nil <| SJ.cond (t := (.tmp 40)) (b := (!(Option.isNone r10.2))) (bnot_iff Option.isNone_iff_eq_none) (fun hc76 => ?_) (fun hc76 => ?_)
   ·exact SJ.sr 2 <| OJ.go 2 [(2, .pointer r10.2), (41, .pointer r10.2)] <| OJ.nil <| SJ.r1 (.pointer r10.2) rfl rfl
   ·refine SJ.skip <| SJ.seq <| SJ.seq <| SJ.draw (id := 10) (kd := [0, 0, 0, 0, 0, 1, 0, 0, 0, 1, 0, 0, 0]) (bef := [0, 1, 3, 7, 15, 31, 3, 67, 195, 451, 963, 2047, 4095]) (ord := [0, 1, 2, 3, 4, 5, 6, 7, 8, 9, 10, 11, 12]) mixed ?_
    refine OJ.go 2 [(43, .bool r10.1), (42, .bool r10.1)] <| OJ.join (b := r10.1) [2, 3, 4, 5, 6, 7, 8, 9, 10, 11, 12] [] [0, 54] (fun y15 => [(0, .pointer a0), (54, .bool y15)]) [] [5, 9] (t := 43) Iff.rfl (fun hp_ => ?_) (fun hp_ => ?_) (fun _ _ _ _ _ _ h_ => h_) (fun y15 => ?_)
    ·exact OJ.go 11 [(54, .bool true), (53, undef), (52, undef), (51, undef), (50, undef), (49, undef), (48, undef), (47, undef), (46, undef), (45, undef), (44, undef)] <| OJ.x0
    ·refine OJ.go 1 [(44, .pointer a0)] <| OJ.nilck (d := 45) (y := .tmp 44) (fun p11 => ?_)
     refine OJ.go 1 [(46, .pointer (some (Addr.add p11 1)))] <| OJ.ld (d := 47) (y := .tmp 46) (pend2 := fun x12 => [⟨5, 3, (Addr.add p11 1), (cI .i64).val x12⟩]) Ty3 (fun _ => rfl) (fun x12 => ?_)
     refine OJ.go 1 [(48, .pointer a0)] <| OJ.nilck (d := 49) (y := .tmp 48) (fun p13 => ?_)
     refine OJ.go 1 [(50, .pointer (some p13))] <| OJ.ld (d := 51) (y := .tmp 50) (pend2 := fun x14 => [⟨9, 9, p13, cS.val x14⟩, ⟨5, 3, (Addr.add p11 1), (cI .i64).val x12⟩]) Ty9 (fun _ => rfl) (fun x14 => ?_)
     exact OJ.go 3 [(54, .bool (x12 == (x14.size : Int))), (53, .bool (x12 == (x14.size : Int))), (52, .int .i64 (x14.size : Int))] <| OJ.nil ⟨(Cov.mem (Cov.drop (List.mem_of_getElem? (i := 1) rfl) (Cov.drop (List.mem_of_getElem? (i := 0) rfl) Cov.nil))), rfl, _, rfl, by kernel_rfl⟩
    ·refine OJ.nil <| SJ.cond (t := (.tmp 54)) (b := y15) Iff.rfl (fun hc75 => ?_) (fun hc75 => ?_)
     ·refine SJ.seq <| SJ.sr 13 <| OJ.go 1 [(55, .pointer a0)] <| OJ.nilck (d := 56) (y := .tmp 55) (fun p28 => ?_)
      refine OJ.go 1 [(57, .pointer (some (Addr.add p28 3)))] <| OJ.ld (d := 58) (y := .tmp 57) (pend2 := fun x29 => []) Ty3 (fun _ => rfl) (fun x29 => ?_)
      refine OJ.go 2 [(60, .bool (decide (x29 < 0))), (59, .bool (decide (x29 < 0)))] <| OJ.join (b := decide (x29 < 0)) [6, 7, 8, 9, 10, 11, 12] [] [0, 67] (fun y32 => [(0, .pointer a0), (67, .bool y32)]) [] [] (t := 60) decide_eq_true_iff (fun hp_ => ?_) (fun hp_ => ?_) (fun _ _ _ _ _ _ h_ => h_) (fun y32 => ?_)
      ·refine OJ.go 1 [(61, .pointer a0)] <| OJ.nilck (d := 62) (y := .tmp 61) (fun p30 => ?_)
       refine OJ.go 1 [(63, .pointer (some (Addr.add p30 2)))] <| OJ.ld (d := 64) (y := .tmp 63) (pend2 := fun x31 => []) Ty58 (fun _ => rfl) (fun x31 => ?_)
       exact OJ.go 3 [(67, .bool ((x31.len : Int) != 8)), (66, .bool ((x31.len : Int) != 8)), (65, .int .i64 (x31.len : Int))] <| OJ.x0
      ·exact OJ.go 7 [(67, .bool false), (66, undef), (65, undef), (64, undef), (63, undef), (62, undef), (61, undef)] <| OJ.x0
      ·refine OJ.nil <| SJ.cond (t := (.tmp 67)) (b := y32) Iff.rfl (fun hc39 => ?_) (fun hc39 => ?_)
       ·refine SJ.sr 8 <| OJ.go 1 [(68, .pointer a0)] <| OJ.nilck (d := 69) (y := .tmp 68) (fun p36 => ?_)
        refine OJ.go 1 [(70, .pointer (some p36))] <| OJ.ld (d := 71) (y := .tmp 70) (pend2 := fun x37 => []) Ty9 (fun _ => rfl) (fun x37 => ?_)
        refine OJ.go 1 [(72, .int .i64 (x37.size : Int))] <| OJ.build (d := 73) (T := 48) (parts := [(0, .const (.int .i64 42)), (1, .tmp 72)]) (ps := [(0, (cI .i64).val 42), (1, (cI .i64).val (x37.size : Int))]) (cd := c_addr_fault) (z0 := z_addr_fault) (⟨42, (x37.size : Int)⟩ : addr_fault) Ty48 rfl (Filled.cons (cd := (cI .i64)) (q := 42) (o := 0) (by kernel_rfl) (Up_addr_fault_why z_addr_fault 42) (Filled.cons (cd := (cI .i64)) (q := (x37.size : Int)) (o := 1) (by kernel_rfl) (Up_addr_fault_at_ (⟨42, z_addr_fault.at_⟩ : addr_fault) (x37.size : Int)) Filled.nil)) ?_
        refine OJ.newOf (d := 74) (op := (.box 48 (.tmp 73))) (cd := c_addr_fault) (u := (⟨42, (x37.size : Int)⟩ : addr_fault)) (owed := []) (box_run (by kernel_rfl)) (fun b38 => ?_)
        exact OW.nil <| OJ.go 1 [(2, .pointer (some (pt b38 0)))] <| OJ.nil <| SJ.r1 (.pointer (some (pt b38 0))) rfl rfl
       ·exact SJ.skip <| SJ.sr 1 <| OJ.go 1 [(2, .pointer none)] <| OJ.nil <| SJ.r1 (.pointer none) rfl rfl
     ·refine SJ.skip <| SJ.sr 7 <| OJ.go 1 [(76, .pointer a0)] <| OJ.call (d := 77) (g := 59) (ats := #[75]) (args := [.tmp 76]) (owed := []) F59 (addr_six_double_ok a0) (fun r40 => ?_)
      refine OW.nil <| OJ.go 5 [(7, .pointer r40.2), (5, .bool r40.1), (79, .pointer r40.2), (78, .bool r40.1), (75, .tuple #[.bool r40.1, .pointer r40.2])] <| OJ.nil <| SJ.seq <| SJ.sr 2 <| OJ.go 2 [(81, .bool (!(Option.isNone r40.2))), (80, .pointer r40.2)] <| OJ.nil <| SJ.cond (t := (.tmp 81)) (b := (!(Option.isNone r40.2))) (bnot_iff Option.isNone_iff_eq_none) (fun hc74 => ?_) (fun hc74 => ?_)
      ·exact SJ.sr 2 <| OJ.go 2 [(2, .pointer r40.2), (82, .pointer r40.2)] <| OJ.nil <| SJ.r1 (.pointer r40.2) rfl rfl
      ·refine SJ.skip <| SJ.sr 2 <| OJ.go 2 [(84, .bool (!r40.1)), (83, .bool r40.1)] <| OJ.nil <| SJ.cond (t := (.tmp 84)) (b := (!r40.1)) (bnot_iff Iff.rfl) (fun hc73 => ?_) (fun hc73 => ?_)
       ·refine SJ.seq <| SJ.seq <| SJ.draw (id := 18) (kd := [0, 0, 0, 1, 0, 0, 0, 1, 0, 0]) (bef := [0, 1, 3, 7, 0, 16, 48, 112, 255, 511]) (ord := [0, 1, 2, 3, 4, 5, 6, 7, 8, 9]) mixed ?_
        refine OJ.go 1 [(85, .pointer a0)] <| OJ.nilck (d := 86) (y := .tmp 85) (fun p57 => ?_)
        refine OJ.go 1 [(87, .pointer (some p57))] <| OJ.ld (d := 88) (y := .tmp 87) (pend2 := fun x58 => [⟨3, 9, p57, cS.val x58⟩]) Ty9 (fun _ => rfl) (fun x58 => ?_)
        refine OJ.go 1 [(89, .pointer a0)] <| OJ.nilck (d := 90) (y := .tmp 89) (fun p59 => ?_)
        refine OJ.go 1 [(91, .pointer (some (Addr.add p59 1)))] <| OJ.ld (d := 92) (y := .tmp 91) (pend2 := fun x60 => [⟨7, 3, (Addr.add p59 1), (cI .i64).val x60⟩, ⟨3, 9, p57, cS.val x58⟩]) Ty3 (fun _ => rfl) (fun x60 => ?_)
        refine OJ.idxT (d := 93) (T := 9) (y := .tmp 88) (j := .tmp 92) (k := .i64) (fun hb61 hb62 => ?_)
        refine OJ.go 1 [(94, .bool ((sb x58 x60) != 58))] <| OJ.nil <| SJ.cond (t := (.tmp 94)) (b := ((sb x58 x60) != 58)) bne_iff_ne (fun hc72 => ?_) (fun hc72 => ?_)
        ·refine SJ.sr 7 <| OJ.go 1 [(95, .pointer a0)] <| OJ.nilck (d := 96) (y := .tmp 95) (fun p66 => ?_)
         refine OJ.go 1 [(97, .pointer (some (Addr.add p66 1)))] <| OJ.ld (d := 98) (y := .tmp 97) (pend2 := fun x67 => []) Ty3 (fun _ => rfl) (fun x67 => ?_)
         refine OJ.build (d := 99) (T := 48) (parts := [(0, .const (.int .i64 41)), (1, .tmp 98)]) (ps := [(0, (cI .i64).val 41), (1, (cI .i64).val x67)]) (cd := c_addr_fault) (z0 := z_addr_fault) (⟨41, x67⟩ : addr_fault) Ty48 rfl (Filled.cons (cd := (cI .i64)) (q := 41) (o := 0) (by kernel_rfl) (Up_addr_fault_why z_addr_fault 41) (Filled.cons (cd := (cI .i64)) (q := x67) (o := 1) (by kernel_rfl) (Up_addr_fault_at_ (⟨41, z_addr_fault.at_⟩ : addr_fault) x67) Filled.nil)) ?_
         refine OJ.newOf (d := 100) (op := (.box 48 (.tmp 99))) (cd := c_addr_fault) (u := (⟨41, x67⟩ : addr_fault)) (owed := []) (box_run (by kernel_rfl)) (fun b68 => ?_)
         exact OW.nil <| OJ.go 1 [(2, .pointer (some (pt b68 0)))] <| OJ.nil <| SJ.r1 (.pointer (some (pt b68 0))) rfl rfl
        ·refine SJ.skip <| SJ.rg 8 <| OJ.go 1 [(101, .pointer a0)] <| OJ.nilck (d := 102) (y := .tmp 101) (fun p69 => ?_)
         refine OJ.go 1 [(103, .pointer (some (Addr.add p69 1)))] <| OJ.ld (d := 104) (y := .tmp 103) (pend2 := fun x70 => []) Ty3 (fun _ => rfl) (fun x70 => ?_)
         refine OJ.go 1 [(105, .int .i64 (IntKind.wrap .i64 (x70 + 1)))] <| OJ.nilck (d := 106) (y := .tmp 101) (fun p71 => ?_)
         refine OJ.go 1 [(107, .pointer (some (Addr.add p71 1)))] <| OJ.st (y := .tmp 107) (z := .tmp 105) (owed := []) Ty3 ?_
         exact OW.nil <| OJ.nil <| SJ.inBlock <| SJ.at_ [0, 5] rfl
       ·exact SJ.skip <| SJ.inBlock <| SJ.at_ [0, 5] rfl
noncomputable def addr_six_read (a0 : (Option Addr)) : M (Option Addr) :=
 addr_six_double a0 >>= fun r1 =>
 if ¬ (r1.2 = none) then
  pure r1.2
 else
  nilck a0 >>= fun p2 =>
  ld (cI .i64) (Addr.add p2 3) >>= fun x3 =>
  loopM (fun s_ : Bool => addr_six_read.L1 a0 s_) (decide (x3 ≥ 0))
theorem addr_six_read_ok (a0 : (Option Addr)) : Ref Tryz.prog 30 [.pointer a0] (addr_six_read a0) addr_six_read.out := by
 refine Ref.of (cd := addr_six_read.B) Tryz.func30 ?_
 show SJ addr_six_read.cx [.code addr_six_read.B] [(0, .pointer a0)] [] (addr_six_read a0) addr_six_read.F0
 unfold addr_six_read
 refine SJ.sr 1 <| OJ.go 1 [(2, .pointer none)] <| OJ.nil <| SJ.seq <| SJ.sr 7 <| OJ.go 1 [(9, .pointer a0)] <| OJ.call (d := 10) (g := 59) (ats := #[75]) (args := [.tmp 9]) (owed := []) F59 (addr_six_double_ok a0) (fun r1 => ?_)
 refine OW.nil <| OJ.go 5 [(4, .pointer r1.2), (3, .bool r1.1), (12, .pointer r1.2), (11, .bool r1.1), (8, .tuple #[.bool r1.1, .pointer r1.2])] <| OJ.nil <| SJ.sr 2 <| OJ.go 2 [(14, .bool (!(Option.isNone r1.2))), (13, .pointer r1.2)] <| OJ.nil <| SJ.cond (t := (.tmp 14)) (b := (!(Option.isNone r1.2))) (bnot_iff Option.isNone_iff_eq_none) (fun hc78 => ?_) (fun hc78 => ?_)
 ·exact SJ.sr 2 <| OJ.go 2 [(2, .pointer r1.2), (15, .pointer r1.2)] <| OJ.nil <| SJ.r1 (.pointer r1.2) rfl rfl
 ·refine SJ.skip <| SJ.sr 6 <| OJ.go 1 [(16, .pointer a0)] <| OJ.nilck (d := 17) (y := .tmp 16) (fun p2 => ?_)
  refine OJ.go 1 [(18, .pointer (some (Addr.add p2 3)))] <| OJ.ld (d := 19) (y := .tmp 18) (pend2 := fun x3 => []) Ty3 (fun _ => rfl) (fun x3 => ?_)
  exact OJ.go 2 [(5, .bool (decide (x3 ≥ 0))), (20, .bool (decide (x3 ≥ 0)))] <| OJ.nil <| SJ.block (id := 0) <| SJ.loop (fun s_ : Bool => [(0, .pointer a0), (5, .bool s_)]) (fun s_ : Bool => []) [0, 5] rfl (fun _ _ => rfl) (fun s_ => addr_six_read.L1_ok a0 s_)

/-! ### (*weir/addr.six).bytes: function 31 -/
noncomputable def addr_six_bytes.B : Code := (Tryz.f31.body).getD .skip
noncomputable def addr_six_bytes.cx : Fx := ⟨Tryz.prog, 31, Tryz.f31⟩
noncomputable def addr_six_bytes.out (r_ : (Vec Int 16)) : Value := ((cI .u8).arr 16).val r_
noncomputable def addr_six_bytes.F0 (r_ : (Vec Int 16)) : Reach := .ret (addr_six_bytes.out r_)
noncomputable def addr_six_bytes.F1 (a0 : (Option Addr)) (b1 : Nat) (b2 : Nat) (x4 : Sl) : (LS (Int × (Vec Int 16)) (Vec Int 16)) → Reach := loopF [.inLoop (c1 (c1 (c2 (c1 (c2 (c2 addr_six_bytes.B)))))), .inBlock 0, .code (c2 (c2 (c2 addr_six_bytes.B)))] (fun s_ : (Int × (Vec Int 16)) => [(0, .pointer a0), (2, .pointer (some (pt b1 0))), (3, .pointer (some (pt b2 0))), (9, Sl.v x4), (10, .int .i64 (x4.len : Int)), (11, .int .i64 s_.1)]) (fun s_ : (Int × (Vec Int 16)) => [(b2, ((cI .u8).arr 16).enc s_.2), (b1, ((cI .u8).arr 16).enc (Vec.rep 16 0))]) addr_six_bytes.F0
noncomputable def addr_six_bytes.K1 (s5 : Int) (s6 : (Vec Int 16)) (x26 : Int) (j34 : Int) : M (LS (Int × (Vec Int 16)) (Vec Int 16)) :=
 chk ((0 : Int) ≤ (IntKind.wrap .i64 (2 * j34)) ∧ (IntKind.wrap .i64 (2 * j34)) < (16 : Nat)) >>= fun _ =>
 chk ((0 : Int) ≤ (IntKind.wrap .i64 ((IntKind.wrap .i64 (2 * j34)) + 1)) ∧ (IntKind.wrap .i64 ((IntKind.wrap .i64 (2 * j34)) + 1)) < (16 : Nat)) >>= fun _ =>
 pure (LS.next (IntKind.wrap .i64 (s5 + 1), (Vec.s (Vec.s s6 (IntKind.wrap .i64 (2 * j34)) (IntKind.wrap .u8 (Int.fdiv x26 (2 ^ 8)))) (IntKind.wrap .i64 ((IntKind.wrap .i64 (2 * j34)) + 1)) (IntKind.wrap .u8 x26))))
theorem addr_six_bytes.K1_ok (a0 : (Option Addr)) (b1 : Nat) (b2 : Nat) (x4 : Sl) (s5 : Int) (s6 : (Vec Int 16)) (x26 : Int) (j34 : Int) :
  SJ addr_six_bytes.cx [.code (c2 (c2 (c1 (c1 (c2 (c2 (c1 (c1 (c2 (c1 (c2 (c2 addr_six_bytes.B)))))))))))), .inBlock 1, .code (c2 (c2 (c2 (c1 (c1 (c2 (c1 (c2 (c2 addr_six_bytes.B))))))))), .inLoop (c1 (c1 (c2 (c1 (c2 (c2 addr_six_bytes.B)))))), .inBlock 0, .code (c2 (c2 (c2 addr_six_bytes.B)))] [(0, .pointer a0), (2, .pointer (some (pt b1 0))), (3, .pointer (some (pt b2 0))), (9, Sl.v x4), (10, .int .i64 (x4.len : Int)), (11, .int .i64 s5), (4, .int .i64 j34), (5, .int .i64 x26)] [(b2, ((cI .u8).arr 16).enc s6), (b1, ((cI .u8).arr 16).enc (Vec.rep 16 0))] (addr_six_bytes.K1 s5 s6 x26 j34) (addr_six_bytes.F1 a0 b1 b2 x4) := by
 unfold addr_six_bytes.K1
 refine SJ.rg 14 <| OJ.go 10 [(46, .int .u8 (IntKind.wrap .u8 x26)), (45, .int .i64 x26), (44, .int .u8 (IntKind.wrap .u8 (Int.fdiv x26 (2 ^ 8)))), (43, .int .i64 (Int.fdiv x26 (2 ^ 8))), (42, .int .i64 x26), (41, .int .i64 (IntKind.wrap .i64 ((IntKind.wrap .i64 (2 * j34)) + 1))), (40, .int .i64 (IntKind.wrap .i64 (2 * j34))), (39, .int .i64 j34), (38, .int .i64 (IntKind.wrap .i64 (2 * j34))), (37, .int .i64 j34)] <| OJ.idxK (d := 47) (T := 26) (y := .tmp 3) (j := .tmp 38) (E := 5) (sz := 1) (b := b2) (o := 0) (k := .i64) (fun hb35 hb36 => ?_)
 refine OJ.kst (y := .tmp 47) (z := .tmp 44) (cd := (cI .u8)) (u := (IntKind.wrap .u8 (Int.fdiv x26 (2 ^ 8)))) (j := 0) (b := b2) (o := (0 + (IntKind.wrap .i64 (2 * j34)).toNat * 1)) (((cI .u8).arr 16).enc (Vec.s s6 (IntKind.wrap .i64 (2 * j34)) (IntKind.wrap .u8 (Int.fdiv x26 (2 ^ 8))))) (owed := []) Ty5 rfl (Upd.zero (Upd.arr hb35 hb36)) rfl ?_
 refine OW.nil <| OJ.idxK (d := 48) (T := 26) (y := .tmp 3) (j := .tmp 41) (E := 5) (sz := 1) (b := b2) (o := 0) (k := .i64) (fun hb37 hb38 => ?_)
 refine OJ.kst (y := .tmp 48) (z := .tmp 46) (cd := (cI .u8)) (u := (IntKind.wrap .u8 x26)) (j := 0) (b := b2) (o := (0 + (IntKind.wrap .i64 ((IntKind.wrap .i64 (2 * j34)) + 1)).toNat * 1)) (((cI .u8).arr 16).enc (Vec.s (Vec.s s6 (IntKind.wrap .i64 (2 * j34)) (IntKind.wrap .u8 (Int.fdiv x26 (2 ^ 8)))) (IntKind.wrap .i64 ((IntKind.wrap .i64 (2 * j34)) + 1)) (IntKind.wrap .u8 x26))) (owed := []) Ty5 rfl (Upd.zero (Upd.arr hb37 hb38)) rfl ?_
 exact OW.nil <| OJ.nil <| SJ.inBlock <| SJ.rg 2 <| OJ.go 2 [(11, .int .i64 (IntKind.wrap .i64 (s5 + 1))), (49, .int .i64 (IntKind.wrap .i64 (s5 + 1)))] <| OJ.nil <| SJ.at_ [0, 2, 3, 9, 10, 11] rfl
noncomputable def addr_six_bytes.L1 (a0 : (Option Addr)) (x4 : Sl) (s5 : Int) (s6 : (Vec Int 16)) : M (LS (Int × (Vec Int 16)) (Vec Int 16)) :=
 if s5 < (x4.len : Int) then
  idx x4.a x4.len s5 1 >>= fun p25 =>
  ld (cI .i64) p25 >>= fun x26 =>
  nilck a0 >>= fun p27 =>
  ld (cI .i64) (Addr.add p27 3) >>= fun x28 =>
  (if x28 ≥ 0 then
    nilck a0 >>= fun p29 =>
    ld (cI .i64) (Addr.add p29 3) >>= fun x30 =>
    pure (decide (s5 ≥ x30))
   else
    pure false) >>= fun y31 =>
  if y31 = true then
   nilck a0 >>= fun p39 =>
   ld cL (Addr.add p39 2) >>= fun x40 =>
   addr_six_bytes.K1 s5 s6 x26 (IntKind.wrap .i64 (s5 + (IntKind.wrap .i64 (8 - (x40.len : Int)))))
  else
   addr_six_bytes.K1 s5 s6 x26 s5
 else
  pure (LS.done s6)
theorem addr_six_bytes.L1_ok (a0 : (Option Addr)) (b1 : Nat) (b2 : Nat) (x4 : Sl) (s5 : Int) (s6 : (Vec Int 16)) :
  SJ addr_six_bytes.cx [.code (c1 (c1 (c2 (c1 (c2 (c2 addr_six_bytes.B)))))), .inLoop (c1 (c1 (c2 (c1 (c2 (c2 addr_six_bytes.B)))))), .inBlock 0, .code (c2 (c2 (c2 addr_six_bytes.B)))] [(0, .pointer a0), (2, .pointer (some (pt b1 0))), (3, .pointer (some (pt b2 0))), (9, Sl.v x4), (10, .int .i64 (x4.len : Int)), (11, .int .i64 s5)] [(b2, ((cI .u8).arr 16).enc s6), (b1, ((cI .u8).arr 16).enc (Vec.rep 16 0))] (addr_six_bytes.L1 a0 x4 s5 s6) (addr_six_bytes.F1 a0 b1 b2 x4) := by
 unfold addr_six_bytes.L1
 refine SJ.sr 1 <| OJ.go 1 [(12, .bool (decide (s5 < (x4.len : Int))))] <| OJ.nil <| SJ.seq <| SJ.cond (t := (.tmp 12)) (b := decide (s5 < (x4.len : Int))) decide_eq_true_iff (fun hc42 => ?_) (fun hc42 => ?_)
 ·refine SJ.skip <| SJ.seq <| SJ.block (id := 1) <| SJ.sr 5 <| OJ.go 1 [(13, .int .i64 s5)] <| OJ.idxS (d := 14) (T := 58) (y := .tmp 9) (j := .tmp 11) (E := 3) (cap := x4.cap) (k := .i64) (fun p25 => ?_)
  refine OJ.ld (d := 15) (y := .tmp 14) (pend2 := fun x26 => []) Ty3 (fun _ => rfl) (fun x26 => ?_)
  refine OJ.go 2 [(5, .int .i64 x26), (4, .int .i64 s5)] <| OJ.nil <| SJ.seq <| SJ.sr 13 <| OJ.go 1 [(16, .pointer a0)] <| OJ.nilck (d := 17) (y := .tmp 16) (fun p27 => ?_)
  refine OJ.go 1 [(18, .pointer (some (Addr.add p27 3)))] <| OJ.ld (d := 19) (y := .tmp 18) (pend2 := fun x28 => []) Ty3 (fun _ => rfl) (fun x28 => ?_)
  refine OJ.go 2 [(21, .bool (decide (x28 ≥ 0))), (20, .bool (decide (x28 ≥ 0)))] <| OJ.join (b := decide (x28 ≥ 0)) [6, 7, 8, 9, 10, 11, 12] [] [0, 2, 3, 9, 10, 11, 4, 5, 28] (fun y31 => [(0, .pointer a0), (2, .pointer (some (pt b1 0))), (3, .pointer (some (pt b2 0))), (9, Sl.v x4), (10, .int .i64 (x4.len : Int)), (11, .int .i64 s5), (4, .int .i64 s5), (5, .int .i64 x26), (28, .bool y31)]) [] [] (t := 21) decide_eq_true_iff (fun hp_ => ?_) (fun hp_ => ?_) (fun _ _ _ _ _ _ h_ => h_) (fun y31 => ?_)
  ·refine OJ.go 2 [(23, .pointer a0), (22, .int .i64 s5)] <| OJ.nilck (d := 24) (y := .tmp 23) (fun p29 => ?_)
   refine OJ.go 1 [(25, .pointer (some (Addr.add p29 3)))] <| OJ.ld (d := 26) (y := .tmp 25) (pend2 := fun x30 => []) Ty3 (fun _ => rfl) (fun x30 => ?_)
   exact OJ.go 2 [(28, .bool (decide (s5 ≥ x30))), (27, .bool (decide (s5 ≥ x30)))] <| OJ.x0
  ·exact OJ.go 7 [(28, .bool false), (27, undef), (26, undef), (25, undef), (24, undef), (23, undef), (22, undef)] <| OJ.x0
  ·refine OJ.nil <| SJ.cond (t := (.tmp 28)) (b := y31) Iff.rfl (fun hc41 => ?_) (fun hc41 => ?_)
   ·refine SJ.rg 9 <| OJ.go 2 [(30, .pointer a0), (29, .int .i64 s5)] <| OJ.nilck (d := 31) (y := .tmp 30) (fun p39 => ?_)
    refine OJ.go 1 [(32, .pointer (some (Addr.add p39 2)))] <| OJ.ld (d := 33) (y := .tmp 32) (pend2 := fun x40 => []) Ty58 (fun _ => rfl) (fun x40 => ?_)
    refine OJ.go 4 [(4, .int .i64 (IntKind.wrap .i64 (s5 + (IntKind.wrap .i64 (8 - (x40.len : Int)))))), (36, .int .i64 (IntKind.wrap .i64 (s5 + (IntKind.wrap .i64 (8 - (x40.len : Int)))))), (35, .int .i64 (IntKind.wrap .i64 (8 - (x40.len : Int)))), (34, .int .i64 (x40.len : Int))] <| OJ.nil <| SJ.less [0, 2, 3, 9, 10, 11, 4, 5] (m' := [(0, .pointer a0), (2, .pointer (some (pt b1 0))), (3, .pointer (some (pt b2 0))), (9, Sl.v x4), (10, .int .i64 (x4.len : Int)), (11, .int .i64 s5), (4, .int .i64 (IntKind.wrap .i64 (s5 + (IntKind.wrap .i64 (8 - (x40.len : Int)))))), (5, .int .i64 x26)]) ?_
    exact addr_six_bytes.K1_ok a0 b1 b2 x4 s5 s6 x26 (IntKind.wrap .i64 (s5 + (IntKind.wrap .i64 (8 - (x40.len : Int)))))
   ·refine SJ.skip <| SJ.less [0, 2, 3, 9, 10, 11, 4, 5] (m' := [(0, .pointer a0), (2, .pointer (some (pt b1 0))), (3, .pointer (some (pt b2 0))), (9, Sl.v x4), (10, .int .i64 (x4.len : Int)), (11, .int .i64 s5), (4, .int .i64 s5), (5, .int .i64 x26)]) ?_
    exact addr_six_bytes.K1_ok a0 b1 b2 x4 s5 s6 x26 s5
 ·refine SJ.exit (id := 0) (by rfl) <| SJ.sr 2 <| OJ.kld (d := 50) (y := .tmp 3) (cd := ((cI .u8).arr 16)) (j := 0) (b := b2) (o := 0) s6 (pend2 := []) Ty26 rfl (At.whole _) rfl ?_
  refine OJ.kst (y := .tmp 2) (z := .tmp 50) (cd := ((cI .u8).arr 16)) (u := s6) (j := 1) (b := b1) (o := 0) (((cI .u8).arr 16).enc s6) (owed := []) Ty26 rfl (Upd.whole ((Cod.len _ _).trans (Cod.len _ _).symm)) rfl ?_
  exact OW.nil <| OJ.nil <| SJ.ret rfl (Res.run (ys := [((cI .u8).arr 16).val s6]) (.cell (j := 1) (b := b1) (cd := ((cI .u8).arr 16)) (q := s6) (by kernel_rfl) rfl Ty26 (At.whole _) .nil) rfl)
noncomputable def addr_six_bytes (a0 : (Option Addr)) : M (Vec Int 16) :=
 slot 26 >>= fun b1 =>
 slot 26 >>= fun b2 =>
 nilck a0 >>= fun p3 =>
 ld cL (Addr.add p3 2) >>= fun x4 =>
 loopM (fun s_ : (Int × (Vec Int 16)) => addr_six_bytes.L1 a0 x4 s_.1 s_.2) (0, (Vec.rep 16 0))
theorem addr_six_bytes_ok (a0 : (Option Addr)) : Ref Tryz.prog 31 [.pointer a0] (addr_six_bytes a0) addr_six_bytes.out := by
 refine Ref.of (cd := addr_six_bytes.B) Tryz.func31 ?_
 show SJ addr_six_bytes.cx [.code addr_six_bytes.B] [(0, .pointer a0)] [] (addr_six_bytes a0) addr_six_bytes.F0
 unfold addr_six_bytes
 refine SJ.sr 1 <| OJ.slotOf (d := 2) (op := (.alloc 26)) (cd := ((cI .u8).arr 16)) (u := (Vec.rep 16 0)) (owed := []) (alloc_run Ty26) (fun b1 => ?_)
 refine OW.nil <| OJ.nil <| SJ.sr 1 <| OJ.slotOf (d := 3) (op := (.alloc 26)) (cd := ((cI .u8).arr 16)) (u := (Vec.rep 16 0)) (owed := []) (alloc_run Ty26) (fun b2 => ?_)
 refine OW.nil <| OJ.nil <| SJ.seq <| SJ.sr 6 <| OJ.go 1 [(6, .pointer a0)] <| OJ.nilck (d := 7) (y := .tmp 6) (fun p3 => ?_)
 refine OJ.go 1 [(8, .pointer (some (Addr.add p3 2)))] <| OJ.ld (d := 9) (y := .tmp 8) (pend2 := fun x4 => []) Ty58 (fun _ => rfl) (fun x4 => ?_)
 exact OJ.go 2 [(11, .int .i64 0), (10, .int .i64 (x4.len : Int))] <| OJ.nil <| SJ.block (id := 0) <| SJ.loop (fun s_ : (Int × (Vec Int 16)) => [(0, .pointer a0), (2, .pointer (some (pt b1 0))), (3, .pointer (some (pt b2 0))), (9, Sl.v x4), (10, .int .i64 (x4.len : Int)), (11, .int .i64 s_.1)]) (fun s_ : (Int × (Vec Int 16)) => [(b2, ((cI .u8).arr 16).enc s_.2), (b1, ((cI .u8).arr 16).enc (Vec.rep 16 0))]) [0, 2, 3, 9, 10, 11] rfl (fun _ _ => rfl) (fun s_ => addr_six_bytes.L1_ok a0 b1 b2 x4 s_.1 s_.2)

/-! ### weir/addr.parse: function 15 -/
noncomputable def addr_parse.B : Code := (Tryz.f15.body).getD .skip
noncomputable def addr_parse.cx : Fx := ⟨Tryz.prog, 15, Tryz.f15⟩
noncomputable def addr_parse.out (r_ : (api_IP × (Option Addr))) : Value := .tuple #[c_api_IP.val r_.1, .pointer r_.2]
noncomputable def addr_parse.F0 (r_ : (api_IP × (Option Addr))) : Reach := .ret (addr_parse.out r_)
noncomputable def addr_parse (a0 : ByteArray) : M (api_IP × (Option Addr)) :=
 slot 28 >>= fun b1 =>
 if (a0.size : Int) > 45 then
  newv 48 c_addr_fault (⟨2, 45⟩ : addr_fault) >>= fun b3 =>
  pure (z_api_IP, (some (pt b3 0)))
 else
  strings_Contains a0 str1 >>= fun r4 =>
  if ¬ (r4 = true) then
   addr_four a0 0 >>= fun r8 =>
   slot 72 >>= fun b9 =>
   if ¬ (r8.2 = none) then
    pure (z_api_IP, r8.2)
   else
    pure ((⟨4, (⟨[(Vec.g r8.1 0 0), (Vec.g r8.1 1 0), (Vec.g r8.1 2 0), (Vec.g r8.1 3 0), 0, 0, 0, 0, 0, 0, 0, 0, 0, 0, 0, 0], rfl⟩ : (Vec Int 16))⟩ : api_IP), none)
  else
   newv 77 c_addr_six (⟨a0, z_addr_six.at_, z_addr_six.groups, (-1)⟩ : addr_six) >>= fun b11 =>
   addr_six_read (some (pt b11 0)) >>= fun r12 =>
   if ¬ (r12 = none) then
    pure (z_api_IP, r12)
   else
    addr_six_bytes (some (pt b11 0)) >>= fun r13 =>
    pure ((⟨6, r13⟩ : api_IP), none)
theorem addr_parse_ok (a0 : ByteArray) : Ref Tryz.prog 15 [.string a0] (addr_parse a0) addr_parse.out := by
 refine Ref.of (cd := addr_parse.B) Tryz.func15 ?_
 show SJ addr_parse.cx [.code addr_parse.B] [(0, .string a0)] [] (addr_parse a0) addr_parse.F0
 unfold addr_parse
 refine SJ.sr 2 <| OJ.slotOf (d := 2) (op := (.alloc 28)) (cd := c_api_IP) (u := z_api_IP) (owed := []) (alloc_run Ty28) (fun b1 => ?_)
 refine OW.nil <| OJ.go 1 [(3, .pointer none)] <| OJ.nil <| SJ.seq <| SJ.sr 3 <| OJ.go 3 [(10, .bool (decide ((a0.size : Int) > 45))), (9, .int .i64 (a0.size : Int)), (8, .string a0)] <| OJ.nil <| SJ.cond (t := (.tmp 10)) (b := decide ((a0.size : Int) > 45)) decide_eq_true_iff (fun hc16 => ?_) (fun hc16 => ?_)
 ·refine SJ.sr 5 <| OJ.build (d := 11) (T := 28) (parts := []) (ps := []) (cd := c_api_IP) (z0 := z_api_IP) z_api_IP Ty28 rfl Filled.nil ?_
  refine OJ.build (d := 12) (T := 48) (parts := [(0, .const (.int .i64 2)), (1, .const (.int .i64 45))]) (ps := [(0, (cI .i64).val 2), (1, (cI .i64).val 45)]) (cd := c_addr_fault) (z0 := z_addr_fault) (⟨2, 45⟩ : addr_fault) Ty48 rfl (Filled.cons (cd := (cI .i64)) (q := 2) (o := 0) (by kernel_rfl) (Up_addr_fault_why z_addr_fault 2) (Filled.cons (cd := (cI .i64)) (q := 45) (o := 1) (by kernel_rfl) (Up_addr_fault_at_ (⟨2, z_addr_fault.at_⟩ : addr_fault) 45) Filled.nil)) ?_
  refine OJ.newOf (d := 13) (op := (.box 48 (.tmp 12))) (cd := c_addr_fault) (u := (⟨2, 45⟩ : addr_fault)) (owed := []) (box_run (by kernel_rfl)) (fun b3 => ?_)
  refine OW.nil <| OJ.kst (y := .tmp 2) (z := .tmp 11) (cd := c_api_IP) (u := z_api_IP) (j := 0) (b := b1) (o := 0) (c_api_IP.enc z_api_IP) (owed := []) Ty28 rfl (Upd.whole ((Cod.len _ _).trans (Cod.len _ _).symm)) rfl ?_
  exact OW.nil <| OJ.go 1 [(3, .pointer (some (pt b3 0)))] <| OJ.nil <| SJ.ret rfl (Res.run (ys := [c_api_IP.val z_api_IP, .pointer (some (pt b3 0))]) (.cell (j := 0) (b := b1) (cd := c_api_IP) (q := z_api_IP) (by kernel_rfl) rfl Ty28 (At.whole _) (.tmp (by kernel_rfl) .nil)) rfl)
 ·refine SJ.skip <| SJ.seq <| SJ.sr 3 <| OJ.go 1 [(14, .string a0)] <| OJ.call (d := 15) (g := 28) (ats := #[9, 9]) (args := [.tmp 14, .const (.string str1)]) (owed := []) F28 (strings_Contains_ok a0 str1) (fun r4 => ?_)
  refine OW.nil <| OJ.go 1 [(16, .bool (!r4))] <| OJ.nil <| SJ.cond (t := (.tmp 16)) (b := (!r4)) (bnot_iff Iff.rfl) (fun hc15 => ?_) (fun hc15 => ?_)
  ·refine SJ.sr 8 <| OJ.go 1 [(18, .string a0)] <| OJ.call (d := 19) (g := 29) (ats := #[9, 3]) (args := [.tmp 18, .const (.int .i64 0)]) (owed := []) F29 (addr_four_ok a0 0) (fun r8 => ?_)
   refine OW.nil <| OJ.go 3 [(21, .pointer r8.2), (20, ((cI .u8).arr 4).val r8.1), (17, .tuple #[((cI .u8).arr 4).val r8.1, .pointer r8.2])] <| OJ.slotOf (d := 4) (op := (.alloc 72)) (cd := ((cI .u8).arr 4)) (u := (Vec.rep 4 0)) (owed := []) (alloc_run Ty72) (fun b9 => ?_)
   refine OW.nil <| OJ.kst (y := .tmp 4) (z := .tmp 20) (cd := ((cI .u8).arr 4)) (u := r8.1) (j := 0) (b := b9) (o := 0) (((cI .u8).arr 4).enc r8.1) (owed := []) Ty72 rfl (Upd.whole ((Cod.len _ _).trans (Cod.len _ _).symm)) rfl ?_
   refine OW.nil <| OJ.go 1 [(5, .pointer r8.2)] <| OJ.nil <| SJ.seq <| SJ.sr 2 <| OJ.go 2 [(23, .bool (!(Option.isNone r8.2))), (22, .pointer r8.2)] <| OJ.nil <| SJ.cond (t := (.tmp 23)) (b := (!(Option.isNone r8.2))) (bnot_iff Option.isNone_iff_eq_none) (fun hc10 => ?_) (fun hc10 => ?_)
   ·refine SJ.sr 4 <| OJ.build (d := 24) (T := 28) (parts := []) (ps := []) (cd := c_api_IP) (z0 := z_api_IP) z_api_IP Ty28 rfl Filled.nil ?_
    refine OJ.go 1 [(25, .pointer r8.2)] <| OJ.kst (y := .tmp 2) (z := .tmp 24) (cd := c_api_IP) (u := z_api_IP) (j := 1) (b := b1) (o := 0) (c_api_IP.enc z_api_IP) (owed := []) Ty28 rfl (Upd.whole ((Cod.len _ _).trans (Cod.len _ _).symm)) rfl ?_
    exact OW.nil <| OJ.go 1 [(3, .pointer r8.2)] <| OJ.nil <| SJ.ret rfl (Res.run (ys := [c_api_IP.val z_api_IP, .pointer r8.2]) (.cell (j := 1) (b := b1) (cd := c_api_IP) (q := z_api_IP) (by kernel_rfl) rfl Ty28 (At.whole _) (.tmp (by kernel_rfl) .nil)) rfl)
   ·refine SJ.skip <| SJ.sr 12 <| OJ.go 1 [(26, .pointer (some (pt b9 0)))] <| OJ.kld (d := 27) (y := .tmp 26) (cd := (cI .u8)) (j := 0) (b := b9) (o := 0) (Vec.g r8.1 0 0) (pend2 := []) Ty5 rfl (At.zero (At.arr (z := 0) (by decide) (by decide))) rfl ?_
    refine OJ.go 1 [(28, .pointer (some (pt b9 1)))] <| OJ.kld (d := 29) (y := .tmp 28) (cd := (cI .u8)) (j := 0) (b := b9) (o := 1) (Vec.g r8.1 1 0) (pend2 := []) Ty5 rfl (At.zero (At.arr (z := 0) (by decide) (by decide))) rfl ?_
    refine OJ.go 1 [(30, .pointer (some (pt b9 2)))] <| OJ.kld (d := 31) (y := .tmp 30) (cd := (cI .u8)) (j := 0) (b := b9) (o := 2) (Vec.g r8.1 2 0) (pend2 := []) Ty5 rfl (At.zero (At.arr (z := 0) (by decide) (by decide))) rfl ?_
    refine OJ.go 1 [(32, .pointer (some (pt b9 3)))] <| OJ.kld (d := 33) (y := .tmp 32) (cd := (cI .u8)) (j := 0) (b := b9) (o := 3) (Vec.g r8.1 3 0) (pend2 := []) Ty5 rfl (At.zero (At.arr (z := 0) (by decide) (by decide))) rfl ?_
    refine OJ.build (d := 34) (T := 26) (parts := [(0, .tmp 27), (1, .tmp 29), (2, .tmp 31), (3, .tmp 33)]) (ps := [(0, (cI .u8).val (Vec.g r8.1 0 0)), (1, (cI .u8).val (Vec.g r8.1 1 0)), (2, (cI .u8).val (Vec.g r8.1 2 0)), (3, (cI .u8).val (Vec.g r8.1 3 0))]) (cd := ((cI .u8).arr 16)) (z0 := (Vec.rep 16 0)) (⟨[(Vec.g r8.1 0 0), (Vec.g r8.1 1 0), (Vec.g r8.1 2 0), (Vec.g r8.1 3 0), 0, 0, 0, 0, 0, 0, 0, 0, 0, 0, 0, 0], rfl⟩ : (Vec Int 16)) Ty26 rfl (Filled.cons (cd := (cI .u8)) (q := (Vec.g r8.1 0 0)) (o := 0) (by kernel_rfl) (Upd.arr (i := 0) (by decide) (by decide)) (Filled.cons (cd := (cI .u8)) (q := (Vec.g r8.1 1 0)) (o := 1) (by kernel_rfl) (Upd.arr (i := 1) (by decide) (by decide)) (Filled.cons (cd := (cI .u8)) (q := (Vec.g r8.1 2 0)) (o := 2) (by kernel_rfl) (Upd.arr (i := 2) (by decide) (by decide)) (Filled.cons (cd := (cI .u8)) (q := (Vec.g r8.1 3 0)) (o := 3) (by kernel_rfl) (Upd.arr (i := 3) (by decide) (by decide)) Filled.nil)))) ?_
    refine OJ.build (d := 35) (T := 28) (parts := [(0, .const (.int .i64 4)), (1, .tmp 34)]) (ps := [(0, (cI .i64).val 4), (1, ((cI .u8).arr 16).val (⟨[(Vec.g r8.1 0 0), (Vec.g r8.1 1 0), (Vec.g r8.1 2 0), (Vec.g r8.1 3 0), 0, 0, 0, 0, 0, 0, 0, 0, 0, 0, 0, 0], rfl⟩ : (Vec Int 16)))]) (cd := c_api_IP) (z0 := z_api_IP) (⟨4, (⟨[(Vec.g r8.1 0 0), (Vec.g r8.1 1 0), (Vec.g r8.1 2 0), (Vec.g r8.1 3 0), 0, 0, 0, 0, 0, 0, 0, 0, 0, 0, 0, 0], rfl⟩ : (Vec Int 16))⟩ : api_IP) Ty28 rfl (Filled.cons (cd := (cI .i64)) (q := 4) (o := 0) (by kernel_rfl) (Up_api_IP_V z_api_IP 4) (Filled.cons (cd := ((cI .u8).arr 16)) (q := (⟨[(Vec.g r8.1 0 0), (Vec.g r8.1 1 0), (Vec.g r8.1 2 0), (Vec.g r8.1 3 0), 0, 0, 0, 0, 0, 0, 0, 0, 0, 0, 0, 0], rfl⟩ : (Vec Int 16))) (o := 1) (by kernel_rfl) (Up_api_IP_A (⟨4, z_api_IP.A⟩ : api_IP) (⟨[(Vec.g r8.1 0 0), (Vec.g r8.1 1 0), (Vec.g r8.1 2 0), (Vec.g r8.1 3 0), 0, 0, 0, 0, 0, 0, 0, 0, 0, 0, 0, 0], rfl⟩ : (Vec Int 16))) Filled.nil)) ?_
    refine OJ.kst (y := .tmp 2) (z := .tmp 35) (cd := c_api_IP) (u := (⟨4, (⟨[(Vec.g r8.1 0 0), (Vec.g r8.1 1 0), (Vec.g r8.1 2 0), (Vec.g r8.1 3 0), 0, 0, 0, 0, 0, 0, 0, 0, 0, 0, 0, 0], rfl⟩ : (Vec Int 16))⟩ : api_IP)) (j := 1) (b := b1) (o := 0) (c_api_IP.enc (⟨4, (⟨[(Vec.g r8.1 0 0), (Vec.g r8.1 1 0), (Vec.g r8.1 2 0), (Vec.g r8.1 3 0), 0, 0, 0, 0, 0, 0, 0, 0, 0, 0, 0, 0], rfl⟩ : (Vec Int 16))⟩ : api_IP)) (owed := []) Ty28 rfl (Upd.whole ((Cod.len _ _).trans (Cod.len _ _).symm)) rfl ?_
    exact OW.nil <| OJ.go 1 [(3, .pointer none)] <| OJ.nil <| SJ.ret rfl (Res.run (ys := [c_api_IP.val (⟨4, (⟨[(Vec.g r8.1 0 0), (Vec.g r8.1 1 0), (Vec.g r8.1 2 0), (Vec.g r8.1 3 0), 0, 0, 0, 0, 0, 0, 0, 0, 0, 0, 0, 0], rfl⟩ : (Vec Int 16))⟩ : api_IP), .pointer none]) (.cell (j := 1) (b := b1) (cd := c_api_IP) (q := (⟨4, (⟨[(Vec.g r8.1 0 0), (Vec.g r8.1 1 0), (Vec.g r8.1 2 0), (Vec.g r8.1 3 0), 0, 0, 0, 0, 0, 0, 0, 0, 0, 0, 0, 0], rfl⟩ : (Vec Int 16))⟩ : api_IP)) (by kernel_rfl) rfl Ty28 (At.whole _) (.tmp (by kernel_rfl) .nil)) rfl)
  ·refine SJ.skip <| SJ.sr 4 <| OJ.go 1 [(36, .string a0)] <| OJ.build (d := 37) (T := 77) (parts := [(0, .tmp 36), (3, .const (.int .i64 (-1)))]) (ps := [(0, cS.val a0), (3, (cI .i64).val (-1))]) (cd := c_addr_six) (z0 := z_addr_six) (⟨a0, z_addr_six.at_, z_addr_six.groups, (-1)⟩ : addr_six) Ty77 rfl (Filled.cons (cd := cS) (q := a0) (o := 0) (by kernel_rfl) (Up_addr_six_s z_addr_six a0) (Filled.cons (cd := (cI .i64)) (q := (-1)) (o := 3) (by kernel_rfl) (Up_addr_six_gap (⟨a0, z_addr_six.at_, z_addr_six.groups, z_addr_six.gap⟩ : addr_six) (-1)) Filled.nil)) ?_
   refine OJ.newOf (d := 38) (op := (.box 77 (.tmp 37))) (cd := c_addr_six) (u := (⟨a0, z_addr_six.at_, z_addr_six.groups, (-1)⟩ : addr_six)) (owed := []) (box_run (by kernel_rfl)) (fun b11 => ?_)
   refine OW.nil <| OJ.go 1 [(6, .pointer (some (pt b11 0)))] <| OJ.nil <| SJ.seq <| SJ.sr 3 <| OJ.go 1 [(39, .pointer (some (pt b11 0)))] <| OJ.call (d := 40) (g := 30) (ats := #[75]) (args := [.tmp 39]) (owed := []) F30 (addr_six_read_ok (some (pt b11 0))) (fun r12 => ?_)
   refine OW.nil <| OJ.go 1 [(7, .pointer r12)] <| OJ.nil <| SJ.sr 2 <| OJ.go 2 [(42, .bool (!(Option.isNone r12))), (41, .pointer r12)] <| OJ.nil <| SJ.cond (t := (.tmp 42)) (b := (!(Option.isNone r12))) (bnot_iff Option.isNone_iff_eq_none) (fun hc14 => ?_) (fun hc14 => ?_)
   ·refine SJ.sr 4 <| OJ.build (d := 43) (T := 28) (parts := []) (ps := []) (cd := c_api_IP) (z0 := z_api_IP) z_api_IP Ty28 rfl Filled.nil ?_
    refine OJ.go 1 [(44, .pointer r12)] <| OJ.kst (y := .tmp 2) (z := .tmp 43) (cd := c_api_IP) (u := z_api_IP) (j := 0) (b := b1) (o := 0) (c_api_IP.enc z_api_IP) (owed := []) Ty28 rfl (Upd.whole ((Cod.len _ _).trans (Cod.len _ _).symm)) rfl ?_
    exact OW.nil <| OJ.go 1 [(3, .pointer r12)] <| OJ.nil <| SJ.ret rfl (Res.run (ys := [c_api_IP.val z_api_IP, .pointer r12]) (.cell (j := 0) (b := b1) (cd := c_api_IP) (q := z_api_IP) (by kernel_rfl) rfl Ty28 (At.whole _) (.tmp (by kernel_rfl) .nil)) rfl)
   ·refine SJ.skip <| SJ.sr 5 <| OJ.go 1 [(45, .pointer (some (pt b11 0)))] <| OJ.call (d := 46) (g := 31) (ats := #[75]) (args := [.tmp 45]) (owed := []) F31 (addr_six_bytes_ok (some (pt b11 0))) (fun r13 => ?_)
    refine OW.nil <| OJ.build (d := 47) (T := 28) (parts := [(0, .const (.int .i64 6)), (1, .tmp 46)]) (ps := [(0, (cI .i64).val 6), (1, ((cI .u8).arr 16).val r13)]) (cd := c_api_IP) (z0 := z_api_IP) (⟨6, r13⟩ : api_IP) Ty28 rfl (Filled.cons (cd := (cI .i64)) (q := 6) (o := 0) (by kernel_rfl) (Up_api_IP_V z_api_IP 6) (Filled.cons (cd := ((cI .u8).arr 16)) (q := r13) (o := 1) (by kernel_rfl) (Up_api_IP_A (⟨6, z_api_IP.A⟩ : api_IP) r13) Filled.nil)) ?_
    refine OJ.kst (y := .tmp 2) (z := .tmp 47) (cd := c_api_IP) (u := (⟨6, r13⟩ : api_IP)) (j := 0) (b := b1) (o := 0) (c_api_IP.enc (⟨6, r13⟩ : api_IP)) (owed := []) Ty28 rfl (Upd.whole ((Cod.len _ _).trans (Cod.len _ _).symm)) rfl ?_
    exact OW.nil <| OJ.go 1 [(3, .pointer none)] <| OJ.nil <| SJ.ret rfl (Res.run (ys := [c_api_IP.val (⟨6, r13⟩ : api_IP), .pointer none]) (.cell (j := 0) (b := b1) (cd := c_api_IP) (q := (⟨6, r13⟩ : api_IP)) (by kernel_rfl) rfl Ty28 (At.whole _) (.tmp (by kernel_rfl) .nil)) rfl)

/-! ### weir/addr.ParseIP: function 9 -/
noncomputable def addr_ParseIP.B : Code := (Tryz.f9.body).getD .skip
noncomputable def addr_ParseIP.cx : Fx := ⟨Tryz.prog, 9, Tryz.f9⟩
noncomputable def addr_ParseIP.out (r_ : (api_IP × Int × Int)) : Value := .tuple #[c_api_IP.val r_.1, .int .i64 r_.2.1, .int .i64 r_.2.2]
noncomputable def addr_ParseIP.F0 (r_ : (api_IP × Int × Int)) : Reach := .ret (addr_ParseIP.out r_)
noncomputable def addr_ParseIP (a0 : ByteArray) : M (api_IP × Int × Int) :=
 slot 28 >>= fun b1 =>
 addr_parse a0 >>= fun r2 =>
 slot 28 >>= fun b3 =>
 if ¬ (r2.2 = none) then
  draw >>= fun _ =>
  nilck r2.2 >>= fun p8 =>
  ld (cI .i64) p8 >>= fun x9 =>
  nilck r2.2 >>= fun p10 =>
  ld (cI .i64) (Addr.add p10 1) >>= fun x11 =>
  same (cI .i64) (Addr.add p10 1) x11 >>= fun _ =>
  same (cI .i64) p8 x9 >>= fun _ =>
  pure (z_api_IP, x9, x11)
 else
  pure (r2.1, 0, 0)
theorem addr_ParseIP_ok (a0 : ByteArray) : Ref Tryz.prog 9 [.string a0] (addr_ParseIP a0) addr_ParseIP.out := by
 refine Ref.of (cd := addr_ParseIP.B) Tryz.func9 ?_
 show SJ addr_ParseIP.cx [.code addr_ParseIP.B] [(0, .string a0)] [] (addr_ParseIP a0) addr_ParseIP.F0
 unfold addr_ParseIP
 refine SJ.sr 3 <| OJ.slotOf (d := 2) (op := (.alloc 28)) (cd := c_api_IP) (u := z_api_IP) (owed := []) (alloc_run Ty28) (fun b1 => ?_)
 refine OW.nil <| OJ.go 2 [(4, .int .i64 0), (3, .int .i64 0)] <| OJ.nil <| SJ.sr 8 <| OJ.go 1 [(8, .string a0)] <| OJ.call (d := 9) (g := 15) (ats := #[9]) (args := [.tmp 8]) (owed := []) F15 (addr_parse_ok a0) (fun r2 => ?_)
 refine OW.nil <| OJ.go 3 [(11, .pointer r2.2), (10, c_api_IP.val r2.1), (7, .tuple #[c_api_IP.val r2.1, .pointer r2.2])] <| OJ.slotOf (d := 5) (op := (.alloc 28)) (cd := c_api_IP) (u := z_api_IP) (owed := []) (alloc_run Ty28) (fun b3 => ?_)
 refine OW.nil <| OJ.kst (y := .tmp 5) (z := .tmp 10) (cd := c_api_IP) (u := r2.1) (j := 0) (b := b3) (o := 0) (c_api_IP.enc r2.1) (owed := []) Ty28 rfl (Upd.whole ((Cod.len _ _).trans (Cod.len _ _).symm)) rfl ?_
 refine OW.nil <| OJ.go 1 [(6, .pointer r2.2)] <| OJ.nil <| SJ.seq <| SJ.sr 2 <| OJ.go 2 [(13, .bool (!(Option.isNone r2.2))), (12, .pointer r2.2)] <| OJ.nil <| SJ.cond (t := (.tmp 13)) (b := (!(Option.isNone r2.2))) (bnot_iff Option.isNone_iff_eq_none) (fun hc12 => ?_) (fun hc12 => ?_)
 ·refine SJ.seq <| SJ.draw (id := 3) (kd := [0, 0, 0, 0, 1, 0, 0, 0, 1, 2, 0, 0]) (bef := [0, 0, 2, 6, 14, 0, 32, 96, 224, 1, 543, 2047]) (ord := [0, 1, 2, 3, 4, 5, 6, 7, 8, 9, 10, 11]) mixed ?_
  refine OJ.build (d := 14) (T := 28) (parts := []) (ps := []) (cd := c_api_IP) (z0 := z_api_IP) z_api_IP Ty28 rfl Filled.nil ?_
  refine OJ.go 1 [(15, .pointer r2.2)] <| OJ.nilck (d := 16) (y := .tmp 15) (fun p8 => ?_)
  refine OJ.go 1 [(17, .pointer (some p8))] <| OJ.ld (d := 18) (y := .tmp 17) (pend2 := fun x9 => [⟨4, 29, p8, (cI .i64).val x9⟩]) Ty29 (fun _ => rfl) (fun x9 => ?_)
  refine OJ.go 1 [(19, .pointer r2.2)] <| OJ.nilck (d := 20) (y := .tmp 19) (fun p10 => ?_)
  refine OJ.go 1 [(21, .pointer (some (Addr.add p10 1)))] <| OJ.ld (d := 22) (y := .tmp 21) (pend2 := fun x11 => [⟨8, 3, (Addr.add p10 1), (cI .i64).val x11⟩, ⟨4, 29, p8, (cI .i64).val x9⟩]) Ty3 (fun _ => rfl) (fun x11 => ?_)
  refine OJ.kst (y := .tmp 2) (z := .tmp 14) (cd := c_api_IP) (u := z_api_IP) (j := 1) (b := b1) (o := 0) (c_api_IP.enc z_api_IP) (owed := [⟨8, 3, (Addr.add p10 1), (cI .i64).val x11⟩, ⟨4, 29, p8, (cI .i64).val x9⟩]) Ty28 rfl (Upd.whole ((Cod.len _ _).trans (Cod.len _ _).symm)) rfl ?_
  refine OW.same Ty3 ?_
  refine OW.same Ty29 ?_
  exact OW.nil <| OJ.go 2 [(4, .int .i64 x11), (3, .int .i64 x9)] <| OJ.nil <| SJ.ret rfl (Res.run (ys := [c_api_IP.val z_api_IP, .int .i64 x9, .int .i64 x11]) (.cell (j := 1) (b := b1) (cd := c_api_IP) (q := z_api_IP) (by kernel_rfl) rfl Ty28 (At.whole _) (.tmp (by kernel_rfl) (.tmp (by kernel_rfl) .nil))) rfl)
 ·refine SJ.skip <| SJ.sr 4 <| OJ.kld (d := 23) (y := .tmp 5) (cd := c_api_IP) (j := 0) (b := b3) (o := 0) r2.1 (pend2 := []) Ty28 rfl (At.whole _) rfl ?_
  refine OJ.kst (y := .tmp 2) (z := .tmp 23) (cd := c_api_IP) (u := r2.1) (j := 1) (b := b1) (o := 0) (c_api_IP.enc r2.1) (owed := []) Ty28 rfl (Upd.whole ((Cod.len _ _).trans (Cod.len _ _).symm)) rfl ?_
  exact OW.nil <| OJ.go 2 [(4, .int .i64 0), (3, .int .i64 0)] <| OJ.nil <| SJ.ret rfl (Res.run (ys := [c_api_IP.val r2.1, .int .i64 0, .int .i64 0]) (.cell (j := 1) (b := b1) (cd := c_api_IP) (q := r2.1) (by kernel_rfl) rfl Ty28 (At.whole _) (.tmp (by kernel_rfl) (.tmp (by kernel_rfl) .nil))) rfl)

/-! ### weir/weirlaw4.loop: function 11 -/
noncomputable def l4_loop.B : Code := (Tryz.f11.body).getD .skip
noncomputable def l4_loop.cx : Fx := ⟨Tryz.prog, 11, Tryz.f11⟩
noncomputable def l4_loop.out (r_ : api_IP) : Value := c_api_IP.val r_
noncomputable def l4_loop.F0 (r_ : api_IP) : Reach := .ret (l4_loop.out r_)
noncomputable def l4_loop  : M api_IP :=
 slot 28 >>= fun b1 =>
 pure (⟨4, (⟨[127, 0, 0, 1, 0, 0, 0, 0, 0, 0, 0, 0, 0, 0, 0, 0], rfl⟩ : (Vec Int 16))⟩ : api_IP)
theorem l4_loop_ok  : Ref Tryz.prog 11 [] (l4_loop) l4_loop.out := by
 refine Ref.of (cd := l4_loop.B) Tryz.func11 ?_
 show SJ l4_loop.cx [.code l4_loop.B] [] [] (l4_loop) l4_loop.F0
 unfold l4_loop
 refine SJ.sr 1 <| OJ.slotOf (d := 0) (op := (.alloc 28)) (cd := c_api_IP) (u := z_api_IP) (owed := []) (alloc_run Ty28) (fun b1 => ?_)
 refine OW.nil <| OJ.nil <| SJ.sr 3 <| OJ.build (d := 1) (T := 26) (parts := [(0, .const (.int .u8 127)), (1, .const (.int .u8 0)), (2, .const (.int .u8 0)), (3, .const (.int .u8 1))]) (ps := [(0, (cI .u8).val 127), (1, (cI .u8).val 0), (2, (cI .u8).val 0), (3, (cI .u8).val 1)]) (cd := ((cI .u8).arr 16)) (z0 := (Vec.rep 16 0)) (⟨[127, 0, 0, 1, 0, 0, 0, 0, 0, 0, 0, 0, 0, 0, 0, 0], rfl⟩ : (Vec Int 16)) Ty26 rfl (Filled.cons (cd := (cI .u8)) (q := 127) (o := 0) (by kernel_rfl) (Upd.arr (i := 0) (by decide) (by decide)) (Filled.cons (cd := (cI .u8)) (q := 0) (o := 1) (by kernel_rfl) (Upd.arr (i := 1) (by decide) (by decide)) (Filled.cons (cd := (cI .u8)) (q := 0) (o := 2) (by kernel_rfl) (Upd.arr (i := 2) (by decide) (by decide)) (Filled.cons (cd := (cI .u8)) (q := 1) (o := 3) (by kernel_rfl) (Upd.arr (i := 3) (by decide) (by decide)) Filled.nil)))) ?_
 refine OJ.build (d := 2) (T := 28) (parts := [(0, .const (.int .i64 4)), (1, .tmp 1)]) (ps := [(0, (cI .i64).val 4), (1, ((cI .u8).arr 16).val (⟨[127, 0, 0, 1, 0, 0, 0, 0, 0, 0, 0, 0, 0, 0, 0, 0], rfl⟩ : (Vec Int 16)))]) (cd := c_api_IP) (z0 := z_api_IP) (⟨4, (⟨[127, 0, 0, 1, 0, 0, 0, 0, 0, 0, 0, 0, 0, 0, 0, 0], rfl⟩ : (Vec Int 16))⟩ : api_IP) Ty28 rfl (Filled.cons (cd := (cI .i64)) (q := 4) (o := 0) (by kernel_rfl) (Up_api_IP_V z_api_IP 4) (Filled.cons (cd := ((cI .u8).arr 16)) (q := (⟨[127, 0, 0, 1, 0, 0, 0, 0, 0, 0, 0, 0, 0, 0, 0, 0], rfl⟩ : (Vec Int 16))) (o := 1) (by kernel_rfl) (Up_api_IP_A (⟨4, z_api_IP.A⟩ : api_IP) (⟨[127, 0, 0, 1, 0, 0, 0, 0, 0, 0, 0, 0, 0, 0, 0, 0], rfl⟩ : (Vec Int 16))) Filled.nil)) ?_
 refine OJ.kst (y := .tmp 0) (z := .tmp 2) (cd := c_api_IP) (u := (⟨4, (⟨[127, 0, 0, 1, 0, 0, 0, 0, 0, 0, 0, 0, 0, 0, 0, 0], rfl⟩ : (Vec Int 16))⟩ : api_IP)) (j := 0) (b := b1) (o := 0) (c_api_IP.enc (⟨4, (⟨[127, 0, 0, 1, 0, 0, 0, 0, 0, 0, 0, 0, 0, 0, 0, 0], rfl⟩ : (Vec Int 16))⟩ : api_IP)) (owed := []) Ty28 rfl (Upd.whole ((Cod.len _ _).trans (Cod.len _ _).symm)) rfl ?_
 exact OW.nil <| OJ.nil <| SJ.ret rfl (Res.run (ys := [c_api_IP.val (⟨4, (⟨[127, 0, 0, 1, 0, 0, 0, 0, 0, 0, 0, 0, 0, 0, 0, 0], rfl⟩ : (Vec Int 16))⟩ : api_IP)]) (.cell (j := 0) (b := b1) (cd := c_api_IP) (q := (⟨4, (⟨[127, 0, 0, 1, 0, 0, 0, 0, 0, 0, 0, 0, 0, 0, 0, 0], rfl⟩ : (Vec Int 16))⟩ : api_IP)) (by kernel_rfl) rfl Ty28 (At.whole _) .nil) rfl)

/-! ### weir/addr.size: function 32 -/
noncomputable def addr_size.B : Code := (Tryz.f32.body).getD .skip
noncomputable def addr_size.cx : Fx := ⟨Tryz.prog, 32, Tryz.f32⟩
noncomputable def addr_size.out (r_ : Int) : Value := .int .i64 r_
noncomputable def addr_size.F0 (r_ : Int) : Reach := .ret (addr_size.out r_)
noncomputable def addr_size (a0 : api_IP) : M Int :=
 newv 28 c_api_IP a0 >>= fun b1 =>
 ld (cI .i64) (pt b1 0) >>= fun x2 =>
 if x2 = 6 then
  pure 128
 else
  ld (cI .i64) (pt b1 0) >>= fun x3 =>
  (if x3 ≠ 4 then
    pure true
   else
    cut 1 ⟨some (Addr.add (pt b1 0) 1), 16, 16⟩ (some 4) none none >>= fun r4 =>
    (chk (12 ≤ r4.len) >>= fun _ => nilck r4.a) >>= fun p5 =>
    ld ((cI .u8).arr 12) p5 >>= fun x6 =>
    pure (!eqv x6 (⟨[0, 0, 0, 0, 0, 0, 0, 0, 0, 0, 0, 0], rfl⟩ : (Vec Int 12)))) >>= fun y7 =>
  if y7 = true then
   pure 0
  else
   pure 32
theorem addr_size_ok (a0 : api_IP) : Ref Tryz.prog 32 [c_api_IP.val a0] (addr_size a0) addr_size.out := by
 refine Ref.of (cd := addr_size.B) Tryz.func32 ?_
 show SJ addr_size.cx [.code addr_size.B] [(0, c_api_IP.val a0)] [] (addr_size a0) addr_size.F0
 unfold addr_size
 refine SJ.sr 2 <| OJ.newOf (d := 1) (op := (.box 28 (.tmp 0))) (cd := c_api_IP) (u := a0) (owed := []) (box_run (by kernel_rfl)) (fun b1 => ?_)
 refine OW.nil <| OJ.go 1 [(2, .int .i64 0)] <| OJ.nil <| SJ.seq <| SJ.sr 3 <| OJ.go 1 [(3, .pointer (some (pt b1 0)))] <| OJ.ld (d := 4) (y := .tmp 3) (pend2 := fun x2 => []) Ty3 (fun _ => rfl) (fun x2 => ?_)
 refine OJ.go 1 [(5, .bool (x2 == 6))] <| OJ.nil <| SJ.cond (t := (.tmp 5)) (b := (x2 == 6)) beq_iff_eq (fun hc9 => ?_) (fun hc9 => ?_)
 ·exact SJ.sr 1 <| OJ.go 1 [(2, .int .i64 128)] <| OJ.nil <| SJ.r1 (.int .i64 128) rfl rfl
 ·refine SJ.skip <| SJ.seq <| SJ.sr 11 <| OJ.go 1 [(6, .pointer (some (pt b1 0)))] <| OJ.ld (d := 7) (y := .tmp 6) (pend2 := fun x3 => []) Ty3 (fun _ => rfl) (fun x3 => ?_)
  refine OJ.go 2 [(9, .bool (x3 != 4)), (8, .bool (x3 != 4))] <| OJ.join (b := (x3 != 4)) [4, 5, 6, 7, 8, 9, 10] [] [16] (fun y7 => [(16, .bool y7)]) [] [] (t := 9) bne_iff_ne (fun hp_ => ?_) (fun hp_ => ?_) (fun _ _ _ _ _ _ h_ => h_) (fun y7 => ?_)
  ·exact OJ.go 7 [(16, .bool true), (15, undef), (14, undef), (13, undef), (12, undef), (11, undef), (10, undef)] <| OJ.x0
  ·refine OJ.go 1 [(10, .pointer (some (Addr.add (pt b1 0) 1)))] <| OJ.cutA (d := 11) (t := 26) (E := 5) (y := .tmp 10) (lo := (some (.const (.int .i64 4)))) (hi := none) (mx := none) (lo' := some (.i64, 4)) (hi' := none) (mx' := none) (fun h => by cases h) (fun r4 => ?_)
   refine OJ.toArr (d := 12) (t := 52) (E := 5) (y := .tmp 11) (s := r4) (fun p5 => ?_)
   refine OJ.ld (d := 13) (y := .tmp 12) (pend2 := fun x6 => []) Ty52 (fun _ => rfl) (fun x6 => ?_)
   refine OJ.build (d := 14) (T := 52) (parts := []) (ps := []) (cd := ((cI .u8).arr 12)) (z0 := (Vec.rep 12 0)) (⟨[0, 0, 0, 0, 0, 0, 0, 0, 0, 0, 0, 0], rfl⟩ : (Vec Int 12)) Ty52 rfl Filled.nil ?_
   refine OJ.neq (d := 15) (T := 52) (yT := 52) (y := .tmp 13) (z := .tmp 14) (cd := ((cI .u8).arr 12)) (p := x6) (q := (⟨[0, 0, 0, 0, 0, 0, 0, 0, 0, 0, 0, 0], rfl⟩ : (Vec Int 12))) rfl Eq52 ?_
   exact OJ.go 1 [(16, .bool (!eqv x6 (⟨[0, 0, 0, 0, 0, 0, 0, 0, 0, 0, 0, 0], rfl⟩ : (Vec Int 12))))] <| OJ.x0
  ·refine OJ.nil <| SJ.cond (t := (.tmp 16)) (b := y7) Iff.rfl (fun hc8 => ?_) (fun hc8 => ?_)
   ·exact SJ.sr 1 <| OJ.go 1 [(2, .int .i64 0)] <| OJ.nil <| SJ.r1 (.int .i64 0) rfl rfl
   ·exact SJ.skip <| SJ.sr 1 <| OJ.go 1 [(2, .int .i64 32)] <| OJ.nil <| SJ.r1 (.int .i64 32) rfl rfl

/-! ### weir/addr.Valid: function 16 -/
noncomputable def addr_Valid.B : Code := (Tryz.f16.body).getD .skip
noncomputable def addr_Valid.cx : Fx := ⟨Tryz.prog, 16, Tryz.f16⟩
noncomputable def addr_Valid.out (r_ : Bool) : Value := .bool r_
noncomputable def addr_Valid.F0 (r_ : Bool) : Reach := .ret (addr_Valid.out r_)
noncomputable def addr_Valid (a0 : api_IP) : M Bool :=
 slot 28 >>= fun b1 =>
 addr_size a0 >>= fun r2 =>
 pure (decide (r2 > 0))
theorem addr_Valid_ok (a0 : api_IP) : Ref Tryz.prog 16 [c_api_IP.val a0] (addr_Valid a0) addr_Valid.out := by
 refine Ref.of (cd := addr_Valid.B) Tryz.func16 ?_
 show SJ addr_Valid.cx [.code addr_Valid.B] [(0, c_api_IP.val a0)] [] (addr_Valid a0) addr_Valid.F0
 unfold addr_Valid
 refine SJ.sr 2 <| OJ.slotOf (d := 1) (op := (.box 28 (.tmp 0))) (cd := c_api_IP) (u := a0) (owed := []) (box_run (by kernel_rfl)) (fun b1 => ?_)
 refine OW.nil <| OJ.go 1 [(2, .bool false)] <| OJ.nil <| SJ.sr 4 <| OJ.kld (d := 3) (y := .tmp 1) (cd := c_api_IP) (j := 0) (b := b1) (o := 0) a0 (pend2 := []) Ty28 rfl (At.whole _) rfl ?_
 refine OJ.call (d := 4) (g := 32) (ats := #[28]) (args := [.tmp 3]) (owed := []) F32 (addr_size_ok a0) (fun r2 => ?_)
 exact OW.nil <| OJ.go 2 [(2, .bool (decide (r2 > 0))), (5, .bool (decide (r2 > 0)))] <| OJ.nil <| SJ.r1 (.bool (decide (r2 > 0))) rfl rfl
end Go.Proofs.YtddmmgcfanpmmaaGreatDoor.Lx
