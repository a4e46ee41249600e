/- Programs of the M-world for Go functions, each with the proof that the Go text does what it says. Printed by lxgen.py. -/
import Derived.Test.YtfjcjecgalijfaaDoorLxT
import Derived.Test.YtfjcjecgalijfaaDoorLxP0
import Derived.Test.YtfjcjecgalijfaaDoorLxP1
set_option maxRecDepth 100000
set_option linter.unusedVariables false
set_option linter.unusedSimpArgs false
namespace Go.Proofs.YtfjcjecgalijfaaDoor.Lx
open Go Go.Proofs
/-! ### internal/strconv.FormatInt: function 10 -/
noncomputable def strconv_FormatInt.B : Code := (Tryd.f10.body).getD .skip
noncomputable def strconv_FormatInt.cx : Fx := ⟨Tryd.prog, 10, Tryd.f10⟩
noncomputable def strconv_FormatInt.out (r_ : ByteArray) : Value := .string r_
noncomputable def strconv_FormatInt.F0 (r_ : ByteArray) : Reach := .ret (strconv_FormatInt.out r_)
noncomputable def strconv_FormatInt.K1 (a0 : Int) (b21 : Nat) (j22 : Int) : M ByteArray :=
  strconv_numDigits j22 >>= fun r23 =>
  cut 1 ⟨some (pt b21 0), 24, 24⟩ (some 1) (some (IntKind.wrap .i64 (1 + r23))) none >>= fun r24 =>
  strconv_formatBase10 r24 j22 >>= fun r25 =>
  if a0 < 0 then
    st (cI .u8) (pt b21 0) 45 >>= fun _ =>
    cut 1 ⟨some (pt b21 0), 24, 24⟩ none (some (IntKind.wrap .i64 (1 + r23))) none >>= fun r28 =>
    toStr r28 >>= fun r29 =>
    pure r29
  else
    cut 1 ⟨some (pt b21 0), 24, 24⟩ (some 1) (some (IntKind.wrap .i64 (1 + r23))) none >>= fun r30 =>
    toStr r30 >>= fun r31 =>
    pure r31
theorem strconv_FormatInt.K1_ok (a0 : Int) (b21 : Nat) (j22 : Int) :
    SJ strconv_FormatInt.cx [.code (c2 (c2 (c2 (c2 (c1 (c2 (c1 (c2 strconv_FormatInt.B)))))))), .code (c2 (c2 strconv_FormatInt.B))] [(0, .int .i64 a0), (5, .pointer (some (pt b21 0))), (6, .int .u64 j22)] [] (strconv_FormatInt.K1 a0 b21 j22) strconv_FormatInt.F0 := by
  unfold strconv_FormatInt.K1
  refine SJ.sr 3 ?_
  refine OJ.go 1 [(26, .int .u64 j22)] ?_
  refine OJ.call (d := 27) (g := 12) (ats := #[33]) (args := [.tmp 26]) (owed := []) F12 (strconv_numDigits_ok j22) (fun r23 => ?_)
  refine OW.nil ?_
  refine OJ.go 1 [(7, .int .i64 r23)] ?_
  refine OJ.nil ?_
  refine SJ.sr 5 ?_
  refine OJ.go 2 [(29, .int .i64 (IntKind.wrap .i64 (1 + r23))), (28, .int .i64 r23)] ?_
  refine OJ.cutA (d := 30) (t := 32) (E := 5) (y := .tmp 5) (lo := (some (.const (.int .i64 1)))) (hi := (some (.tmp 29))) (mx := none) (lo' := some (.i64, 1)) (hi' := some (.i64, IntKind.wrap .i64 (1 + r23))) (mx' := none) (fun h => by cases h) (fun r24 => ?_)
  refine OJ.go 1 [(31, .int .u64 j22)] ?_
  refine OJ.call (d := 32) (g := 13) (ats := #[36, 33]) (args := [.tmp 30, .tmp 31]) (owed := []) F13 (strconv_formatBase10_ok r24 j22) (fun r25 => ?_)
  refine OW.nil ?_
  refine OJ.nil ?_
  refine SJ.seq ?_
  refine SJ.sr 2 ?_
  refine OJ.go 2 [(34, .bool (decide (a0 < 0))), (33, .int .i64 a0)] ?_
  refine OJ.nil ?_
  refine SJ.cond (t := (.tmp 34)) (b := decide (a0 < 0)) decide_eq_true_iff (fun hc32 => ?_) (fun hc32 => ?_)
  · refine SJ.sr 2 ?_
    refine OJ.go 1 [(35, .pointer (some (pt b21 0)))] ?_
    refine OJ.st (y := .tmp 35) (z := .const (.int .u8 45)) (owed := []) Ty5 ?_
    refine OW.nil ?_
    refine OJ.nil ?_
    refine SJ.sr 5 ?_
    refine OJ.go 2 [(37, .int .i64 (IntKind.wrap .i64 (1 + r23))), (36, .int .i64 r23)] ?_
    refine OJ.cutA (d := 38) (t := 32) (E := 5) (y := .tmp 5) (lo := none) (hi := (some (.tmp 37))) (mx := none) (lo' := none) (hi' := some (.i64, IntKind.wrap .i64 (1 + r23))) (mx' := none) (fun h => by cases h) (fun r28 => ?_)
    refine OJ.toStr (d := 39) (t := 36) (u := 9) (E := 5) (x := .tmp 38) (owed := []) (fun r29 => ?_)
    refine OW.nil ?_
    refine OJ.go 1 [(4, .string r29)] ?_
    refine OJ.nil ?_
    exact SJ.ret rfl (Res.run (ys := [.string r29]) (.tmp (by kernel_rfl) .nil) rfl)
  · refine SJ.skip ?_
    refine SJ.sr 5 ?_
    refine OJ.go 2 [(41, .int .i64 (IntKind.wrap .i64 (1 + r23))), (40, .int .i64 r23)] ?_
    refine OJ.cutA (d := 42) (t := 32) (E := 5) (y := .tmp 5) (lo := (some (.const (.int .i64 1)))) (hi := (some (.tmp 41))) (mx := none) (lo' := some (.i64, 1)) (hi' := some (.i64, IntKind.wrap .i64 (1 + r23))) (mx' := none) (fun h => by cases h) (fun r30 => ?_)
    refine OJ.toStr (d := 43) (t := 36) (u := 9) (E := 5) (x := .tmp 42) (owed := []) (fun r31 => ?_)
    refine OW.nil ?_
    refine OJ.go 1 [(4, .string r31)] ?_
    refine OJ.nil ?_
    exact SJ.ret rfl (Res.run (ys := [.string r31]) (.tmp (by kernel_rfl) .nil) rfl)
noncomputable def strconv_FormatInt (a0 : Int) (a1 : Int) : M ByteArray :=
  if a1 = 10 then
    (if 0 ≤ a0 then
        pure (decide (a0 < 100))
      else
        pure false) >>= fun y18 =>
    if y18 = true then
      strconv_small a0 >>= fun r20 =>
      pure r20
    else
      newv 32 ((cI .u8).arr 24) (Vec.rep 24 0) >>= fun b21 =>
      if a0 < 0 then
        strconv_FormatInt.K1 a0 b21 (IntKind.wrap .u64 (0 - (IntKind.wrap .u64 a0)))
      else
        strconv_FormatInt.K1 a0 b21 (IntKind.wrap .u64 a0)
  else
    strconv_formatBits Sl.nil (IntKind.wrap .u64 a0) a1 (decide (a0 < 0)) false >>= fun r35 =>
    pure r35.2
theorem strconv_FormatInt_ok (a0 : Int) (a1 : Int) : Ref Tryd.prog 10 [.int .i64 a0, .int .i64 a1] (strconv_FormatInt a0 a1) strconv_FormatInt.out := by
  refine Ref.of (cd := strconv_FormatInt.B) Tryd.func10 ?_
  show SJ strconv_FormatInt.cx [.code strconv_FormatInt.B] [(0, .int .i64 a0), (1, .int .i64 a1)] [] (strconv_FormatInt a0 a1) strconv_FormatInt.F0
  unfold strconv_FormatInt
  refine SJ.sr 1 ?_
  refine OJ.go 1 [(4, .string ByteArray.empty)] ?_
  refine OJ.nil ?_
  refine SJ.seq ?_
  refine SJ.sr 2 ?_
  refine OJ.go 2 [(11, .bool (a1 == 10)), (10, .int .i64 a1)] ?_
  refine OJ.nil ?_
  refine SJ.cond (t := (.tmp 11)) (b := (a1 == 10)) beq_iff_eq (fun hc36 => ?_) (fun hc36 => ?_)
  · refine SJ.seq ?_
    refine SJ.sr 6 ?_
    refine OJ.go 3 [(14, .bool (decide (0 ≤ a0))), (13, .bool (decide (0 ≤ a0))), (12, .int .i64 a0)] ?_
    refine OJ.join (b := decide (0 ≤ a0)) [3, 4, 5] [] [0, 17] (fun y18 => [(0, .int .i64 a0), (17, .bool y18)]) [] [] (t := 14) decide_eq_true_iff (fun hp_ => ?_) (fun hp_ => ?_) (fun _ _ _ _ _ _ h_ => h_) (fun y18 => ?_)
    · refine OJ.go 3 [(17, .bool (decide (a0 < 100))), (16, .bool (decide (a0 < 100))), (15, .int .i64 a0)] ?_
      exact OJ.nil ⟨(Cov.mem Cov.nil), rfl, _, rfl, by kernel_rfl⟩
    · refine OJ.go 3 [(17, .bool false), (16, undef), (15, undef)] ?_
      exact OJ.nil ⟨(Cov.mem Cov.nil), rfl, _, rfl, by kernel_rfl⟩
    · refine OJ.nil ?_
      refine SJ.cond (t := (.tmp 17)) (b := y18) Iff.rfl (fun hc34 => ?_) (fun hc34 => ?_)
      · refine SJ.sr 3 ?_
        refine OJ.go 1 [(18, .int .i64 a0)] ?_
        refine OJ.call (d := 19) (g := 11) (ats := #[3]) (args := [.tmp 18]) (owed := []) F11 (strconv_small_ok a0) (fun r20 => ?_)
        refine OW.nil ?_
        refine OJ.go 1 [(4, .string r20)] ?_
        refine OJ.nil ?_
        exact SJ.ret rfl (Res.run (ys := [.string r20]) (.tmp (by kernel_rfl) .nil) rfl)
      · refine SJ.skip ?_
        refine SJ.sr 1 ?_
        refine OJ.newOf (d := 5) (op := (.alloc 32)) (cd := ((cI .u8).arr 24)) (u := (Vec.rep 24 0)) (owed := []) (alloc_run Ty32) (fun b21 => ?_)
        refine OW.nil ?_
        refine OJ.nil ?_
        refine SJ.sr 3 ?_
        refine OJ.go 3 [(6, .int .u64 (IntKind.wrap .u64 a0)), (21, .int .u64 (IntKind.wrap .u64 a0)), (20, .int .i64 a0)] ?_
        refine OJ.nil ?_
        refine SJ.seq ?_
        refine SJ.sr 2 ?_
        refine OJ.go 2 [(23, .bool (decide (a0 < 0))), (22, .int .i64 a0)] ?_
        refine OJ.nil ?_
        refine SJ.cond (t := (.tmp 23)) (b := decide (a0 < 0)) decide_eq_true_iff (fun hc33 => ?_) (fun hc33 => ?_)
        · refine SJ.rg 3 ?_
          refine OJ.go 3 [(6, .int .u64 (IntKind.wrap .u64 (0 - (IntKind.wrap .u64 a0)))), (25, .int .u64 (IntKind.wrap .u64 (0 - (IntKind.wrap .u64 a0)))), (24, .int .u64 (IntKind.wrap .u64 a0))] ?_
          refine OJ.nil ?_
          refine SJ.less [0, 5, 6] (m' := [(0, .int .i64 a0), (5, .pointer (some (pt b21 0))), (6, .int .u64 (IntKind.wrap .u64 (0 - (IntKind.wrap .u64 a0))))]) ?_
          exact strconv_FormatInt.K1_ok a0 b21 (IntKind.wrap .u64 (0 - (IntKind.wrap .u64 a0)))
        · refine SJ.skip ?_
          refine SJ.less [0, 5, 6] (m' := [(0, .int .i64 a0), (5, .pointer (some (pt b21 0))), (6, .int .u64 (IntKind.wrap .u64 a0))]) ?_
          exact strconv_FormatInt.K1_ok a0 b21 (IntKind.wrap .u64 a0)
  · refine SJ.skip ?_
    refine SJ.sr 11 ?_
    refine OJ.go 5 [(49, .bool (decide (a0 < 0))), (48, .int .i64 a0), (47, .int .i64 a1), (46, .int .u64 (IntKind.wrap .u64 a0)), (45, .int .i64 a0)] ?_
    refine OJ.call (d := 50) (g := 14) (ats := #[36, 33, 3, 4, 4]) (args := [.const (.slice none 0 0), .tmp 46, .tmp 47, .tmp 49, .const (.bool false)]) (owed := []) F14 (strconv_formatBits_ok Sl.nil (IntKind.wrap .u64 a0) a1 (decide (a0 < 0)) false) (fun r35 => ?_)
    refine OW.nil ?_
    refine OJ.go 5 [(9, .string r35.2), (8, Sl.v r35.1), (52, .string r35.2), (51, Sl.v r35.1), (44, .tuple #[Sl.v r35.1, .string r35.2])] ?_
    refine OJ.nil ?_
    refine SJ.sr 2 ?_
    refine OJ.go 2 [(4, .string r35.2), (53, .string r35.2)] ?_
    refine OJ.nil ?_
    exact SJ.ret rfl (Res.run (ys := [.string r35.2]) (.tmp (by kernel_rfl) .nil) rfl)

/-! ### internal/strconv.Itoa: function 9 -/
noncomputable def strconv_Itoa.B : Code := (Tryd.f9.body).getD .skip
noncomputable def strconv_Itoa.cx : Fx := ⟨Tryd.prog, 9, Tryd.f9⟩
noncomputable def strconv_Itoa.out (r_ : ByteArray) : Value := .string r_
noncomputable def strconv_Itoa.F0 (r_ : ByteArray) : Reach := .ret (strconv_Itoa.out r_)
noncomputable def strconv_Itoa (a0 : Int) : M ByteArray :=
  strconv_FormatInt a0 10 >>= fun r1 =>
  pure r1
theorem strconv_Itoa_ok (a0 : Int) : Ref Tryd.prog 9 [.int .i64 a0] (strconv_Itoa a0) strconv_Itoa.out := by
  refine Ref.of (cd := strconv_Itoa.B) Tryd.func9 ?_
  show SJ strconv_Itoa.cx [.code strconv_Itoa.B] [(0, .int .i64 a0)] [] (strconv_Itoa a0) strconv_Itoa.F0
  unfold strconv_Itoa
  refine SJ.sr 1 ?_
  refine OJ.go 1 [(2, .string ByteArray.empty)] ?_
  refine OJ.nil ?_
  refine SJ.sr 3 ?_
  refine OJ.go 1 [(3, .int .i64 a0)] ?_
  refine OJ.call (d := 4) (g := 10) (ats := #[2, 3]) (args := [.tmp 3, .const (.int .i64 10)]) (owed := []) F10 (strconv_FormatInt_ok a0 10) (fun r1 => ?_)
  refine OW.nil ?_
  refine OJ.go 1 [(2, .string r1)] ?_
  refine OJ.nil ?_
  exact SJ.ret rfl (Res.run (ys := [.string r1]) (.tmp (by kernel_rfl) .nil) rfl)

/-! ### strconv.Itoa: function 8 -/
noncomputable def strconv_Itoa_.B : Code := (Tryd.f8.body).getD .skip
noncomputable def strconv_Itoa_.cx : Fx := ⟨Tryd.prog, 8, Tryd.f8⟩
noncomputable def strconv_Itoa_.out (r_ : ByteArray) : Value := .string r_
noncomputable def strconv_Itoa_.F0 (r_ : ByteArray) : Reach := .ret (strconv_Itoa_.out r_)
noncomputable def strconv_Itoa_ (a0 : Int) : M ByteArray :=
  strconv_Itoa a0 >>= fun r1 =>
  pure r1
theorem strconv_Itoa__ok (a0 : Int) : Ref Tryd.prog 8 [.int .i64 a0] (strconv_Itoa_ a0) strconv_Itoa_.out := by
  refine Ref.of (cd := strconv_Itoa_.B) Tryd.func8 ?_
  show SJ strconv_Itoa_.cx [.code strconv_Itoa_.B] [(0, .int .i64 a0)] [] (strconv_Itoa_ a0) strconv_Itoa_.F0
  unfold strconv_Itoa_
  refine SJ.sr 1 ?_
  refine OJ.go 1 [(2, .string ByteArray.empty)] ?_
  refine OJ.nil ?_
  refine SJ.sr 3 ?_
  refine OJ.go 1 [(3, .int .i64 a0)] ?_
  refine OJ.call (d := 4) (g := 9) (ats := #[3]) (args := [.tmp 3]) (owed := []) F9 (strconv_Itoa_ok a0) (fun r1 => ?_)
  refine OW.nil ?_
  refine OJ.go 1 [(2, .string r1)] ?_
  refine OJ.nil ?_
  exact SJ.ret rfl (Res.run (ys := [.string r1]) (.tmp (by kernel_rfl) .nil) rfl)

/-! ### (weir/api.Errno).Error: function 7 -/
noncomputable def api_Errno_Error.B : Code := (Tryd.f7.body).getD .skip
noncomputable def api_Errno_Error.cx : Fx := ⟨Tryd.prog, 7, Tryd.f7⟩
noncomputable def api_Errno_Error.out (r_ : ByteArray) : Value := .string r_
noncomputable def api_Errno_Error.F0 (r_ : ByteArray) : Reach := .ret (api_Errno_Error.out r_)
noncomputable def api_Errno_Error (a0 : Int) : M ByteArray :=
  strconv_Itoa_ a0 >>= fun r1 =>
  chk (((str4.size + r1.size : Nat) : Int) ≤ 9223372036854775807) >>= fun _ =>
  pure (str4 ++ r1)
theorem api_Errno_Error_ok (a0 : Int) : Ref Tryd.prog 7 [.int .i64 a0] (api_Errno_Error a0) api_Errno_Error.out := by
  refine Ref.of (cd := api_Errno_Error.B) Tryd.func7 ?_
  show SJ api_Errno_Error.cx [.code api_Errno_Error.B] [(0, .int .i64 a0)] [] (api_Errno_Error a0) api_Errno_Error.F0
  unfold api_Errno_Error
  refine SJ.sr 1 ?_
  refine OJ.go 1 [(2, .string ByteArray.empty)] ?_
  refine OJ.nil ?_
  refine SJ.sr 4 ?_
  refine OJ.go 1 [(3, .int .i64 a0)] ?_
  refine OJ.call (d := 4) (g := 8) (ats := #[3]) (args := [.tmp 3]) (owed := []) F8 (strconv_Itoa__ok a0) (fun r1 => ?_)
  refine OW.nil ?_
  refine OJ.cat (d := 5) (T := 9) (yT := 9) (y := .const (.string str4)) (z := .tmp 4) (p := str4) (q := r1) ?_
  refine OJ.go 1 [(2, .string (str4 ++ r1))] ?_
  refine OJ.nil ?_
  exact SJ.ret rfl (Res.run (ys := [.string (str4 ++ r1)]) (.tmp (by kernel_rfl) .nil) rfl)

/-! ### weir/weirlaw0.NamesNumbers: function 3 -/
noncomputable def weirlaw0_NamesNumbers.B : Code := (Tryd.f3.body).getD .skip
noncomputable def weirlaw0_NamesNumbers.cx : Fx := ⟨Tryd.prog, 3, Tryd.f3⟩
noncomputable def weirlaw0_NamesNumbers.out (r_ : Bool) : Value := .bool r_
noncomputable def weirlaw0_NamesNumbers.F0 (r_ : Bool) : Reach := .ret (weirlaw0_NamesNumbers.out r_)
noncomputable def weirlaw0_NamesNumbers.K1  : M Bool :=
  weirlaw0_errno 33 >>= fun r15 =>
  (if r15 = 33 then
      api_Errno_Error 33 >>= fun r16 =>
      pure (r16.toList == str5.toList)
    else
      pure false) >>= fun y17 =>
  (if y17 = true then
      api_Errno_Error (-5) >>= fun r18 =>
      pure (r18.toList == str6.toList)
    else
      pure false) >>= fun y19 =>
  pure y19
theorem weirlaw0_NamesNumbers.K1_ok  :
    SJ weirlaw0_NamesNumbers.cx [.code (c2 (c2 (c2 weirlaw0_NamesNumbers.B)))] [] [] (weirlaw0_NamesNumbers.K1) weirlaw0_NamesNumbers.F0 := by
  unfold weirlaw0_NamesNumbers.K1
  refine SJ.sr 1 ?_
  refine OJ.go 1 [(5, .int .i64 33)] ?_
  refine OJ.nil ?_
  refine SJ.sr 13 ?_
  refine OJ.go 1 [(30, .int .i64 33)] ?_
  refine OJ.call (d := 31) (g := 6) (ats := #[26]) (args := [.tmp 30]) (owed := []) F6 (weirlaw0_errno_ok 33) (fun r15 => ?_)
  refine OW.nil ?_
  refine OJ.go 2 [(33, .bool (r15 == 33)), (32, .bool (r15 == 33))] ?_
  refine OJ.join (b := (r15 == 33)) [4, 5, 6, 7] [8, 9, 10, 11, 12] [37] (fun y17 => [(37, .bool y17)]) [] [] (t := 33) beq_iff_eq (fun hp_ => ?_) (fun hp_ => ?_) (fun _ _ _ _ _ _ h_ => h_) (fun y17 => ?_)
  · refine OJ.go 1 [(34, .int .i64 33)] ?_
    refine OJ.call (d := 35) (g := 7) (ats := #[26]) (args := [.tmp 34]) (owed := []) F7 (api_Errno_Error_ok 33) (fun r16 => ?_)
    refine OW.nil ?_
    refine OJ.go 2 [(37, .bool (r16.toList == str5.toList)), (36, .bool (r16.toList == str5.toList))] ?_
    exact OJ.nil ⟨(Cov.mem Cov.nil), rfl, _, rfl, by kernel_rfl⟩
  · refine OJ.go 4 [(37, .bool false), (36, undef), (35, undef), (34, undef)] ?_
    exact OJ.nil ⟨(Cov.mem Cov.nil), rfl, _, rfl, by kernel_rfl⟩
  · refine OJ.go 1 [(38, .bool y17)] ?_
    refine OJ.join (b := y17) [9, 10, 11] [12] [41] (fun y19 => [(41, .bool y19)]) [] [] (t := 38) Iff.rfl (fun hp_ => ?_) (fun hp_ => ?_) (fun _ _ _ _ _ _ h_ => h_) (fun y19 => ?_)
    · refine OJ.call (d := 39) (g := 7) (ats := #[26]) (args := [.const (.int .i64 (-5))]) (owed := []) F7 (api_Errno_Error_ok (-5)) (fun r18 => ?_)
      refine OW.nil ?_
      refine OJ.go 2 [(41, .bool (r18.toList == str6.toList)), (40, .bool (r18.toList == str6.toList))] ?_
      exact OJ.nil ⟨(Cov.mem Cov.nil), rfl, _, rfl, by kernel_rfl⟩
    · refine OJ.go 3 [(41, .bool false), (40, undef), (39, undef)] ?_
      exact OJ.nil ⟨(Cov.mem Cov.nil), rfl, _, rfl, by kernel_rfl⟩
    · refine OJ.go 1 [(0, .bool y19)] ?_
      refine OJ.nil ?_
      exact SJ.ret rfl (Res.run (ys := [.bool y19]) (.tmp (by kernel_rfl) .nil) rfl)
noncomputable def weirlaw0_NamesNumbers.F1 (r8 : Sl) : (LS Int Bool) → Reach := loopF [.inLoop (c1 (c1 (c2 (c1 (c2 (c2 weirlaw0_NamesNumbers.B)))))), .inBlock 2, .code (c2 (c2 (c2 weirlaw0_NamesNumbers.B)))] (fun s_ : Int => [(18, Sl.v r8), (19, .int .i64 (r8.len : Int)), (20, .int .i64 s_)]) (fun s_ : Int => []) weirlaw0_NamesNumbers.F0
noncomputable def weirlaw0_NamesNumbers.L1 (r8 : Sl) (s9 : Int) : M (LS Int Bool) :=
  if s9 < (r8.len : Int) then
    idx r8.a r8.len s9 2 >>= fun p20 =>
    ld c_weirlaw0_pair p20 >>= fun x21 =>
    slot 25 >>= fun b22 =>
    if x21.is ≠ x21.want then
      pure (LS.done false)
    else
      pure (LS.next (IntKind.wrap .i64 (s9 + 1)))
  else
    (weirlaw0_NamesNumbers.K1) >>= fun b => pure (LS.done b)
theorem weirlaw0_NamesNumbers.L1_ok (r8 : Sl) (s9 : Int) :
    SJ weirlaw0_NamesNumbers.cx [.code (c1 (c1 (c2 (c1 (c2 (c2 weirlaw0_NamesNumbers.B)))))), .inLoop (c1 (c1 (c2 (c1 (c2 (c2 weirlaw0_NamesNumbers.B)))))), .inBlock 2, .code (c2 (c2 (c2 weirlaw0_NamesNumbers.B)))] [(18, Sl.v r8), (19, .int .i64 (r8.len : Int)), (20, .int .i64 s9)] [] (weirlaw0_NamesNumbers.L1 r8 s9) (weirlaw0_NamesNumbers.F1 r8) := by
  unfold weirlaw0_NamesNumbers.L1
  refine SJ.sr 1 ?_
  refine OJ.go 1 [(21, .bool (decide (s9 < (r8.len : Int))))] ?_
  refine OJ.nil ?_
  refine SJ.seq ?_
  refine SJ.cond (t := (.tmp 21)) (b := decide (s9 < (r8.len : Int))) decide_eq_true_iff (fun hc24 => ?_) (fun hc24 => ?_)
  · refine SJ.skip ?_
    refine SJ.seq ?_
    refine SJ.block (id := 3) ?_
    refine SJ.sr 4 ?_
    refine OJ.idxS (d := 22) (T := 22) (y := .tmp 18) (j := .tmp 20) (E := 25) (cap := r8.cap) (k := .i64) (fun p20 => ?_)
    refine OJ.ld (d := 23) (y := .tmp 22) (pend2 := fun x21 => []) Ty25 (fun _ => rfl) (fun x21 => ?_)
    refine OJ.slotOf (d := 4) (op := (.alloc 25)) (cd := c_weirlaw0_pair) (u := z_weirlaw0_pair) (owed := []) (alloc_run Ty25) (fun b22 => ?_)
    refine OW.nil ?_
    refine OJ.kst (y := .tmp 4) (z := .tmp 23) (cd := c_weirlaw0_pair) (u := x21) (j := 0) (b := b22) (o := 0) (c_weirlaw0_pair.enc x21) (owed := []) Ty25 rfl (Upd.whole ((Cod.len _ _).trans (Cod.len _ _).symm)) rfl ?_
    refine OW.nil ?_
    refine OJ.nil ?_
    refine SJ.sr 5 ?_
    refine OJ.go 1 [(24, .pointer (some (pt b22 0)))] ?_
    refine OJ.kld (d := 25) (y := .tmp 24) (cd := (cI .i64)) (j := 0) (b := b22) (o := 0) x21.is (pend2 := []) Ty3 rfl (At_weirlaw0_pair_is x21) rfl ?_
    refine OJ.go 1 [(26, .pointer (some (pt b22 1)))] ?_
    refine OJ.kld (d := 27) (y := .tmp 26) (cd := (cI .i64)) (j := 0) (b := b22) (o := 1) x21.want (pend2 := []) Ty3 rfl (At_weirlaw0_pair_want x21) rfl ?_
    refine OJ.go 1 [(28, .bool (x21.is != x21.want))] ?_
    refine OJ.nil ?_
    refine SJ.cond (t := (.tmp 28)) (b := (x21.is != x21.want)) bne_iff_ne (fun hc23 => ?_) (fun hc23 => ?_)
    · refine SJ.sr 1 ?_
      refine OJ.go 1 [(0, .bool false)] ?_
      refine OJ.nil ?_
      exact SJ.ret rfl (Res.run (ys := [.bool false]) (.tmp (by kernel_rfl) .nil) rfl)
    · refine SJ.skip ?_
      refine SJ.inBlock ?_
      refine SJ.rg 2 ?_
      refine OJ.go 2 [(20, .int .i64 (IntKind.wrap .i64 (s9 + 1))), (29, .int .i64 (IntKind.wrap .i64 (s9 + 1)))] ?_
      refine OJ.nil ?_
      refine SJ.forget (List.Sublist.cons _ List.Sublist.slnil) ?_
      exact SJ.at_ [18, 19, 20] rfl
  · refine SJ.exit (id := 2) (by rfl) ?_
    refine SJ.less [] (m' := []) ?_
    refine SJ.done ?_
    exact weirlaw0_NamesNumbers.K1_ok 
noncomputable def weirlaw0_NamesNumbers.K2  : M Bool :=
  weirlaw0_limits >>= fun r8 =>
  loopM (fun s_ : Int => weirlaw0_NamesNumbers.L1 r8 s_) 0
theorem weirlaw0_NamesNumbers.K2_ok  :
    SJ weirlaw0_NamesNumbers.cx [.code (c2 (c2 weirlaw0_NamesNumbers.B))] [] [] (weirlaw0_NamesNumbers.K2) weirlaw0_NamesNumbers.F0 := by
  unfold weirlaw0_NamesNumbers.K2
  refine SJ.seq ?_
  refine SJ.sr 3 ?_
  refine OJ.call (d := 18) (g := 5) (ats := #[]) (args := []) (owed := []) F5 (weirlaw0_limits_ok ) (fun r8 => ?_)
  refine OW.nil ?_
  refine OJ.go 2 [(20, .int .i64 0), (19, .int .i64 (r8.len : Int))] ?_
  refine OJ.nil ?_
  refine SJ.block (id := 2) ?_
  exact SJ.loop (fun s_ : Int => [(18, Sl.v r8), (19, .int .i64 (r8.len : Int)), (20, .int .i64 s_)]) (fun s_ : Int => []) [18, 19, 20] rfl (fun _ _ => rfl) (fun s_ => weirlaw0_NamesNumbers.L1_ok r8 s_)
noncomputable def weirlaw0_NamesNumbers.F2 (r1 : Sl) : (LS Int Bool) → Reach := loopF [.inLoop (c1 (c1 (c2 (c1 (c2 weirlaw0_NamesNumbers.B))))), .inBlock 0, .code (c2 (c2 weirlaw0_NamesNumbers.B))] (fun s_ : Int => [(6, Sl.v r1), (7, .int .i64 (r1.len : Int)), (8, .int .i64 s_)]) (fun s_ : Int => []) weirlaw0_NamesNumbers.F0
noncomputable def weirlaw0_NamesNumbers.L2 (r1 : Sl) (s2 : Int) : M (LS Int Bool) :=
  if s2 < (r1.len : Int) then
    idx r1.a r1.len s2 2 >>= fun p25 =>
    ld c_weirlaw0_pair p25 >>= fun x26 =>
    slot 25 >>= fun b27 =>
    if x26.is ≠ x26.want then
      pure (LS.done false)
    else
      pure (LS.next (IntKind.wrap .i64 (s2 + 1)))
  else
    (weirlaw0_NamesNumbers.K2) >>= fun b => pure (LS.done b)
theorem weirlaw0_NamesNumbers.L2_ok (r1 : Sl) (s2 : Int) :
    SJ weirlaw0_NamesNumbers.cx [.code (c1 (c1 (c2 (c1 (c2 weirlaw0_NamesNumbers.B))))), .inLoop (c1 (c1 (c2 (c1 (c2 weirlaw0_NamesNumbers.B))))), .inBlock 0, .code (c2 (c2 weirlaw0_NamesNumbers.B))] [(6, Sl.v r1), (7, .int .i64 (r1.len : Int)), (8, .int .i64 s2)] [] (weirlaw0_NamesNumbers.L2 r1 s2) (weirlaw0_NamesNumbers.F2 r1) := by
  unfold weirlaw0_NamesNumbers.L2
  refine SJ.sr 1 ?_
  refine OJ.go 1 [(9, .bool (decide (s2 < (r1.len : Int))))] ?_
  refine OJ.nil ?_
  refine SJ.seq ?_
  refine SJ.cond (t := (.tmp 9)) (b := decide (s2 < (r1.len : Int))) decide_eq_true_iff (fun hc29 => ?_) (fun hc29 => ?_)
  · refine SJ.skip ?_
    refine SJ.seq ?_
    refine SJ.block (id := 1) ?_
    refine SJ.sr 4 ?_
    refine OJ.idxS (d := 10) (T := 22) (y := .tmp 6) (j := .tmp 8) (E := 25) (cap := r1.cap) (k := .i64) (fun p25 => ?_)
    refine OJ.ld (d := 11) (y := .tmp 10) (pend2 := fun x26 => []) Ty25 (fun _ => rfl) (fun x26 => ?_)
    refine OJ.slotOf (d := 2) (op := (.alloc 25)) (cd := c_weirlaw0_pair) (u := z_weirlaw0_pair) (owed := []) (alloc_run Ty25) (fun b27 => ?_)
    refine OW.nil ?_
    refine OJ.kst (y := .tmp 2) (z := .tmp 11) (cd := c_weirlaw0_pair) (u := x26) (j := 0) (b := b27) (o := 0) (c_weirlaw0_pair.enc x26) (owed := []) Ty25 rfl (Upd.whole ((Cod.len _ _).trans (Cod.len _ _).symm)) rfl ?_
    refine OW.nil ?_
    refine OJ.nil ?_
    refine SJ.sr 5 ?_
    refine OJ.go 1 [(12, .pointer (some (pt b27 0)))] ?_
    refine OJ.kld (d := 13) (y := .tmp 12) (cd := (cI .i64)) (j := 0) (b := b27) (o := 0) x26.is (pend2 := []) Ty3 rfl (At_weirlaw0_pair_is x26) rfl ?_
    refine OJ.go 1 [(14, .pointer (some (pt b27 1)))] ?_
    refine OJ.kld (d := 15) (y := .tmp 14) (cd := (cI .i64)) (j := 0) (b := b27) (o := 1) x26.want (pend2 := []) Ty3 rfl (At_weirlaw0_pair_want x26) rfl ?_
    refine OJ.go 1 [(16, .bool (x26.is != x26.want))] ?_
    refine OJ.nil ?_
    refine SJ.cond (t := (.tmp 16)) (b := (x26.is != x26.want)) bne_iff_ne (fun hc28 => ?_) (fun hc28 => ?_)
    · refine SJ.sr 1 ?_
      refine OJ.go 1 [(0, .bool false)] ?_
      refine OJ.nil ?_
      exact SJ.ret rfl (Res.run (ys := [.bool false]) (.tmp (by kernel_rfl) .nil) rfl)
    · refine SJ.skip ?_
      refine SJ.inBlock ?_
      refine SJ.rg 2 ?_
      refine OJ.go 2 [(8, .int .i64 (IntKind.wrap .i64 (s2 + 1))), (17, .int .i64 (IntKind.wrap .i64 (s2 + 1)))] ?_
      refine OJ.nil ?_
      refine SJ.forget (List.Sublist.cons _ List.Sublist.slnil) ?_
      exact SJ.at_ [6, 7, 8] rfl
  · refine SJ.exit (id := 0) (by rfl) ?_
    refine SJ.less [] (m' := []) ?_
    refine SJ.done ?_
    exact weirlaw0_NamesNumbers.K2_ok 
noncomputable def weirlaw0_NamesNumbers  : M Bool :=
  weirlaw0_errs >>= fun r1 =>
  loopM (fun s_ : Int => weirlaw0_NamesNumbers.L2 r1 s_) 0
theorem weirlaw0_NamesNumbers_ok  : Ref Tryd.prog 3 [] (weirlaw0_NamesNumbers) weirlaw0_NamesNumbers.out := by
  refine Ref.of (cd := weirlaw0_NamesNumbers.B) Tryd.func3 ?_
  show SJ weirlaw0_NamesNumbers.cx [.code weirlaw0_NamesNumbers.B] [] [] (weirlaw0_NamesNumbers) weirlaw0_NamesNumbers.F0
  unfold weirlaw0_NamesNumbers
  refine SJ.sr 1 ?_
  refine OJ.go 1 [(0, .bool false)] ?_
  refine OJ.nil ?_
  refine SJ.seq ?_
  refine SJ.sr 3 ?_
  refine OJ.call (d := 6) (g := 4) (ats := #[]) (args := []) (owed := []) F4 (weirlaw0_errs_ok ) (fun r1 => ?_)
  refine OW.nil ?_
  refine OJ.go 2 [(8, .int .i64 0), (7, .int .i64 (r1.len : Int))] ?_
  refine OJ.nil ?_
  refine SJ.block (id := 0) ?_
  exact SJ.loop (fun s_ : Int => [(6, Sl.v r1), (7, .int .i64 (r1.len : Int)), (8, .int .i64 s_)]) (fun s_ : Int => []) [6, 7, 8] rfl (fun _ _ => rfl) (fun s_ => weirlaw0_NamesNumbers.L2_ok r1 s_)
end Go.Proofs.YtfjcjecgalijfaaDoor.Lx
