/- Programs of the M-world for Go functions, each with the proof that the Go text does what it says. Printed by lxgen.py. -/
import Derived.Test.YtddmmgcfanpmmaaGreatDoorLxT
import Derived.Test.YtddmmgcfanpmmaaGreatDoorLxP0
import Derived.Test.YtddmmgcfanpmmaaGreatDoorLxP1
set_option linter.unusedVariables false
set_option linter.unusedSimpArgs false
namespace Go.Proofs.YtddmmgcfanpmmaaGreatDoor.Lx
open Go Go.Proofs
/-! ### weir/weirref4.has: function 66 -/
noncomputable def r4_has.B : Code := (Tryz.f66.body).getD .skip
noncomputable def r4_has.cx : Fx := ⟨Tryz.prog, 66, Tryz.f66⟩
noncomputable def r4_has.out (r_ : Bool) : Value := .bool r_
noncomputable def r4_has.F0 (r_ : Bool) : Reach := .ret (r4_has.out r_)
noncomputable def r4_has.F1 (a0 : ByteArray) (a1 : Int) : (LS Int Bool) → Reach := loopF [.inLoop (c1 (c1 (c2 (c1 (c2 r4_has.B))))), .inBlock 0, .code (c2 (c2 r4_has.B))] (fun s_ : Int => [(0, .string a0), (1, .int .u8 a1), (5, .int .i64 s_)]) (fun s_ : Int => []) r4_has.F0
noncomputable def r4_has.L1 (a0 : ByteArray) (a1 : Int) (s1 : Int) : M (LS Int Bool) :=
 if s1 < (a0.size : Int) then
  chk ((0 : Int) ≤ s1 ∧ s1 < (a0.size : Int)) >>= fun _ =>
  if (sb a0 s1) = a1 then
   pure (LS.done true)
  else
   pure (LS.next (IntKind.wrap .i64 (s1 + 1)))
 else
  pure (LS.done false)
theorem r4_has.L1_ok (a0 : ByteArray) (a1 : Int) (s1 : Int) :
  SJ r4_has.cx [.code (c1 (c1 (c2 (c1 (c2 r4_has.B))))), .inLoop (c1 (c1 (c2 (c1 (c2 r4_has.B))))), .inBlock 0, .code (c2 (c2 r4_has.B))] [(0, .string a0), (1, .int .u8 a1), (5, .int .i64 s1)] [] (r4_has.L1 a0 a1 s1) (r4_has.F1 a0 a1) := by
 unfold r4_has.L1
 refine SJ.seq <| SJ.sr 4 <| OJ.go 4 [(9, .bool (decide (s1 < (a0.size : Int)))), (8, .int .i64 (a0.size : Int)), (7, .string a0), (6, .int .i64 s1)] <| OJ.nil <| SJ.cond (t := (.tmp 9)) (b := decide (s1 < (a0.size : Int))) decide_eq_true_iff (fun hc9 => ?_) (fun hc9 => ?_)
 ·refine SJ.skip <| SJ.seq <| SJ.block (id := 1) <| SJ.sr 5 <| OJ.go 2 [(13, .int .i64 s1), (12, .string a0)] <| OJ.idxT (d := 14) (T := 9) (y := .tmp 12) (j := .tmp 13) (k := .i64) (fun hb6 hb7 => ?_)
  refine OJ.go 2 [(16, .bool ((sb a0 s1) == a1)), (15, .int .u8 a1)] <| OJ.nil <| SJ.cond (t := (.tmp 16)) (b := ((sb a0 s1) == a1)) beq_iff_eq (fun hc8 => ?_) (fun hc8 => ?_)
  ·exact SJ.sr 1 <| OJ.go 1 [(4, .bool true)] <| OJ.nil <| SJ.r1 (.bool true) rfl rfl
  ·exact SJ.skip <| SJ.inBlock <| SJ.rg 3 <| OJ.go 3 [(5, .int .i64 (IntKind.wrap .i64 (s1 + 1))), (11, .int .i64 (IntKind.wrap .i64 (s1 + 1))), (10, .int .i64 s1)] <| OJ.nil <| SJ.at_ [0, 1, 5] rfl
 ·exact SJ.exit (id := 0) (by rfl) <| SJ.sr 1 <| OJ.go 1 [(4, .bool false)] <| OJ.nil <| SJ.r1 (.bool false) rfl rfl
noncomputable def r4_has (a0 : ByteArray) (a1 : Int) : M Bool :=
 loopM (fun s_ : Int => r4_has.L1 a0 a1 s_) 0
theorem r4_has_ok (a0 : ByteArray) (a1 : Int) : Ref Tryz.prog 66 [.string a0, .int .u8 a1] (r4_has a0 a1) r4_has.out := by
 refine Ref.of (cd := r4_has.B) Tryz.func66 ?_
 show SJ r4_has.cx [.code r4_has.B] [(0, .string a0), (1, .int .u8 a1)] [] (r4_has a0 a1) r4_has.F0
 unfold r4_has
 exact SJ.sr 1 <| OJ.go 1 [(4, .bool false)] <| OJ.nil <| SJ.seq <| SJ.sr 1 <| OJ.go 1 [(5, .int .i64 0)] <| OJ.nil <| SJ.block (id := 0) <| SJ.loop (fun s_ : Int => [(0, .string a0), (1, .int .u8 a1), (5, .int .i64 s_)]) (fun s_ : Int => []) [0, 1, 5] rfl (fun _ _ => rfl) (fun s_ => r4_has.L1_ok a0 a1 s_)

/-! ### weir/weirref4.two: function 94 -/
noncomputable def r4_two.B : Code := (Tryz.f94.body).getD .skip
noncomputable def r4_two.cx : Fx := ⟨Tryz.prog, 94, Tryz.f94⟩
noncomputable def r4_two.out (r_ : Bool) : Value := .bool r_
noncomputable def r4_two.F0 (r_ : Bool) : Reach := .ret (r4_two.out r_)
noncomputable def r4_two (a0 : ByteArray) (a1 : Int) : M Bool :=
 (if (IntKind.wrap .i64 (a1 + 1)) < (a0.size : Int) then
   chk ((0 : Int) ≤ a1 ∧ a1 < (a0.size : Int)) >>= fun _ =>
   pure ((sb a0 a1) == 58)
  else
   pure false) >>= fun y3 =>
 (if y3 = true then
   chk ((0 : Int) ≤ (IntKind.wrap .i64 (a1 + 1)) ∧ (IntKind.wrap .i64 (a1 + 1)) < (a0.size : Int)) >>= fun _ =>
   pure ((sb a0 (IntKind.wrap .i64 (a1 + 1))) == 58)
  else
   pure false) >>= fun y6 =>
 pure y6
theorem r4_two_ok (a0 : ByteArray) (a1 : Int) : Ref Tryz.prog 94 [.string a0, .int .i64 a1] (r4_two a0 a1) r4_two.out := by
 refine Ref.of (cd := r4_two.B) Tryz.func94 ?_
 show SJ r4_two.cx [.code r4_two.B] [(0, .string a0), (1, .int .i64 a1)] [] (r4_two a0 a1) r4_two.F0
 unfold r4_two
 refine SJ.sr 1 <| OJ.go 1 [(4, .bool false)] <| OJ.nil <| SJ.sr 19 <| OJ.go 6 [(10, .bool (decide ((IntKind.wrap .i64 (a1 + 1)) < (a0.size : Int)))), (9, .bool (decide ((IntKind.wrap .i64 (a1 + 1)) < (a0.size : Int)))), (8, .int .i64 (a0.size : Int)), (7, .string a0), (6, .int .i64 (IntKind.wrap .i64 (a1 + 1))), (5, .int .i64 a1)] <| OJ.join (b := decide ((IntKind.wrap .i64 (a1 + 1)) < (a0.size : Int))) [6, 7, 8, 9, 10] [11, 12, 13, 14, 15, 16, 17, 18] [0, 1, 15] (fun y3 => [(0, .string a0), (1, .int .i64 a1), (15, .bool y3)]) [] [] (t := 10) decide_eq_true_iff (fun hp_ => ?_) (fun hp_ => ?_) (fun _ _ _ _ _ _ h_ => h_) (fun y3 => ?_)
 ·refine OJ.go 2 [(12, .int .i64 a1), (11, .string a0)] <| OJ.idxT (d := 13) (T := 9) (y := .tmp 11) (j := .tmp 12) (k := .i64) (fun hb1 hb2 => ?_)
  exact OJ.go 2 [(15, .bool ((sb a0 a1) == 58)), (14, .bool ((sb a0 a1) == 58))] <| OJ.x0
 ·exact OJ.go 5 [(15, .bool false), (14, undef), (13, undef), (12, undef), (11, undef)] <| OJ.x0
 ·refine OJ.go 1 [(16, .bool y3)] <| OJ.join (b := y3) [12, 13, 14, 15, 16, 17] [18] [22] (fun y6 => [(22, .bool y6)]) [] [] (t := 16) Iff.rfl (fun hp_ => ?_) (fun hp_ => ?_) (fun _ _ _ _ _ _ h_ => h_) (fun y6 => ?_)
  ·refine OJ.go 3 [(19, .int .i64 (IntKind.wrap .i64 (a1 + 1))), (18, .int .i64 a1), (17, .string a0)] <| OJ.idxT (d := 20) (T := 9) (y := .tmp 17) (j := .tmp 19) (k := .i64) (fun hb4 hb5 => ?_)
   exact OJ.go 2 [(22, .bool ((sb a0 (IntKind.wrap .i64 (a1 + 1))) == 58)), (21, .bool ((sb a0 (IntKind.wrap .i64 (a1 + 1))) == 58))] <| OJ.x0
  ·exact OJ.go 6 [(22, .bool false), (21, undef), (20, undef), (19, undef), (18, undef), (17, undef)] <| OJ.x0
  ·exact OJ.go 1 [(4, .bool y6)] <| OJ.nil <| SJ.r1 (.bool y6) rfl rfl

/-! ### weir/weirref4.digit: function 70 -/
noncomputable def r4_digit.B : Code := (Tryz.f70.body).getD .skip
noncomputable def r4_digit.cx : Fx := ⟨Tryz.prog, 70, Tryz.f70⟩
noncomputable def r4_digit.out (r_ : Bool) : Value := .bool r_
noncomputable def r4_digit.F0 (r_ : Bool) : Reach := .ret (r4_digit.out r_)
noncomputable def r4_digit (a0 : Int) : M Bool :=
 (if a0 ≥ 48 then
   pure (decide (a0 ≤ 57))
  else
   pure false) >>= fun y1 =>
 pure y1
theorem r4_digit_ok (a0 : Int) : Ref Tryz.prog 70 [.int .u8 a0] (r4_digit a0) r4_digit.out := by
 refine Ref.of (cd := r4_digit.B) Tryz.func70 ?_
 show SJ r4_digit.cx [.code r4_digit.B] [(0, .int .u8 a0)] [] (r4_digit a0) r4_digit.F0
 unfold r4_digit
 refine SJ.sr 1 <| OJ.go 1 [(2, .bool false)] <| OJ.nil <| SJ.sr 7 <| OJ.go 3 [(5, .bool (decide (a0 ≥ 48))), (4, .bool (decide (a0 ≥ 48))), (3, .int .u8 a0)] <| OJ.join (b := decide (a0 ≥ 48)) [3, 4, 5] [6] [8] (fun y1 => [(8, .bool y1)]) [] [] (t := 5) decide_eq_true_iff (fun hp_ => ?_) (fun hp_ => ?_) (fun _ _ _ _ _ _ h_ => h_) (fun y1 => ?_)
 ·exact OJ.go 3 [(8, .bool (decide (a0 ≤ 57))), (7, .bool (decide (a0 ≤ 57))), (6, .int .u8 a0)] <| OJ.x0
 ·exact OJ.go 3 [(8, .bool false), (7, undef), (6, undef)] <| OJ.x0
 ·exact OJ.go 1 [(2, .bool y1)] <| OJ.nil <| SJ.r1 (.bool y1) rfl rfl

/-! ### weir/weirref4.worth: function 75 -/
noncomputable def r4_worth.B : Code := (Tryz.f75.body).getD .skip
noncomputable def r4_worth.cx : Fx := ⟨Tryz.prog, 75, Tryz.f75⟩
noncomputable def r4_worth.out (r_ : Int) : Value := .int .i64 r_
noncomputable def r4_worth.F0 (r_ : Int) : Reach := .ret (r4_worth.out r_)
noncomputable def r4_worth (a0 : Int) : M Int :=
 r4_digit a0 >>= fun r1 =>
 if r1 = true then
  pure (IntKind.wrap .i64 (IntKind.wrap .u8 (a0 - 48)))
 else
  (if a0 ≥ 97 then
    pure (decide (a0 ≤ 102))
   else
    pure false) >>= fun y2 =>
  if y2 = true then
   pure (IntKind.wrap .i64 ((IntKind.wrap .i64 (IntKind.wrap .u8 (a0 - 97))) + 10))
  else
   (if a0 ≥ 65 then
     pure (decide (a0 ≤ 70))
    else
     pure false) >>= fun y3 =>
   if y3 = true then
    pure (IntKind.wrap .i64 ((IntKind.wrap .i64 (IntKind.wrap .u8 (a0 - 65))) + 10))
   else
    pure (-1)
theorem r4_worth_ok (a0 : Int) : Ref Tryz.prog 75 [.int .u8 a0] (r4_worth a0) r4_worth.out := by
 refine Ref.of (cd := r4_worth.B) Tryz.func75 ?_
 show SJ r4_worth.cx [.code r4_worth.B] [(0, .int .u8 a0)] [] (r4_worth a0) r4_worth.F0
 unfold r4_worth
 refine SJ.sr 1 <| OJ.go 1 [(2, .int .i64 0)] <| OJ.nil <| SJ.seq <| SJ.sr 2 <| OJ.go 1 [(3, .int .u8 a0)] <| OJ.call (d := 4) (g := 70) (ats := #[5]) (args := [.tmp 3]) (owed := []) F70 (r4_digit_ok a0) (fun r1 => ?_)
 refine OW.nil <| OJ.nil <| SJ.cond (t := (.tmp 4)) (b := r1) Iff.rfl (fun hc6 => ?_) (fun hc6 => ?_)
 ·exact SJ.sr 4 <| OJ.go 4 [(2, .int .i64 (IntKind.wrap .i64 (IntKind.wrap .u8 (a0 - 48)))), (7, .int .i64 (IntKind.wrap .i64 (IntKind.wrap .u8 (a0 - 48)))), (6, .int .u8 (IntKind.wrap .u8 (a0 - 48))), (5, .int .u8 a0)] <| OJ.nil <| SJ.r1 (.int .i64 (IntKind.wrap .i64 (IntKind.wrap .u8 (a0 - 48)))) rfl rfl
 ·refine SJ.skip <| SJ.seq <| SJ.sr 6 <| OJ.go 3 [(10, .bool (decide (a0 ≥ 97))), (9, .bool (decide (a0 ≥ 97))), (8, .int .u8 a0)] <| OJ.join (b := decide (a0 ≥ 97)) [3, 4, 5] [] [0, 13] (fun y2 => [(0, .int .u8 a0), (13, .bool y2)]) [] [] (t := 10) decide_eq_true_iff (fun hp_ => ?_) (fun hp_ => ?_) (fun _ _ _ _ _ _ h_ => h_) (fun y2 => ?_)
  ·exact OJ.go 3 [(13, .bool (decide (a0 ≤ 102))), (12, .bool (decide (a0 ≤ 102))), (11, .int .u8 a0)] <| OJ.x0
  ·exact OJ.go 3 [(13, .bool false), (12, undef), (11, undef)] <| OJ.x0
  ·refine OJ.nil <| SJ.cond (t := (.tmp 13)) (b := y2) Iff.rfl (fun hc5 => ?_) (fun hc5 => ?_)
   ·exact SJ.sr 5 <| OJ.go 5 [(2, .int .i64 (IntKind.wrap .i64 ((IntKind.wrap .i64 (IntKind.wrap .u8 (a0 - 97))) + 10))), (17, .int .i64 (IntKind.wrap .i64 ((IntKind.wrap .i64 (IntKind.wrap .u8 (a0 - 97))) + 10))), (16, .int .i64 (IntKind.wrap .i64 (IntKind.wrap .u8 (a0 - 97)))), (15, .int .u8 (IntKind.wrap .u8 (a0 - 97))), (14, .int .u8 a0)] <| OJ.nil <| SJ.r1 (.int .i64 (IntKind.wrap .i64 ((IntKind.wrap .i64 (IntKind.wrap .u8 (a0 - 97))) + 10))) rfl rfl
   ·refine SJ.skip <| SJ.seq <| SJ.sr 6 <| OJ.go 3 [(20, .bool (decide (a0 ≥ 65))), (19, .bool (decide (a0 ≥ 65))), (18, .int .u8 a0)] <| OJ.join (b := decide (a0 ≥ 65)) [3, 4, 5] [] [0, 23] (fun y3 => [(0, .int .u8 a0), (23, .bool y3)]) [] [] (t := 20) decide_eq_true_iff (fun hp_ => ?_) (fun hp_ => ?_) (fun _ _ _ _ _ _ h_ => h_) (fun y3 => ?_)
    ·exact OJ.go 3 [(23, .bool (decide (a0 ≤ 70))), (22, .bool (decide (a0 ≤ 70))), (21, .int .u8 a0)] <| OJ.x0
    ·exact OJ.go 3 [(23, .bool false), (22, undef), (21, undef)] <| OJ.x0
    ·refine OJ.nil <| SJ.cond (t := (.tmp 23)) (b := y3) Iff.rfl (fun hc4 => ?_) (fun hc4 => ?_)
     ·exact SJ.sr 5 <| OJ.go 5 [(2, .int .i64 (IntKind.wrap .i64 ((IntKind.wrap .i64 (IntKind.wrap .u8 (a0 - 65))) + 10))), (27, .int .i64 (IntKind.wrap .i64 ((IntKind.wrap .i64 (IntKind.wrap .u8 (a0 - 65))) + 10))), (26, .int .i64 (IntKind.wrap .i64 (IntKind.wrap .u8 (a0 - 65)))), (25, .int .u8 (IntKind.wrap .u8 (a0 - 65))), (24, .int .u8 a0)] <| OJ.nil <| SJ.r1 (.int .i64 (IntKind.wrap .i64 ((IntKind.wrap .i64 (IntKind.wrap .u8 (a0 - 65))) + 10))) rfl rfl
     ·exact SJ.skip <| SJ.sr 1 <| OJ.go 1 [(2, .int .i64 (-1))] <| OJ.nil <| SJ.r1 (.int .i64 (-1)) rfl rfl

/-! ### weir/weirref4.here: function 71 -/
noncomputable def r4_here.B : Code := (Tryz.f71.body).getD .skip
noncomputable def r4_here.cx : Fx := ⟨Tryz.prog, 71, Tryz.f71⟩
noncomputable def r4_here.out (r_ : (Int × Int)) : Value := .tuple #[.int .i64 r_.1, .int .i64 r_.2]
noncomputable def r4_here.F0 (r_ : (Int × Int)) : Reach := .ret (r4_here.out r_)
noncomputable def r4_here (a0 : ByteArray) (a1 : Int) : M (Int × Int) :=
 if a1 ≥ (a0.size : Int) then
  pure (42, (a0.size : Int))
 else
  pure (41, a1)
theorem r4_here_ok (a0 : ByteArray) (a1 : Int) : Ref Tryz.prog 71 [.string a0, .int .i64 a1] (r4_here a0 a1) r4_here.out := by
 refine Ref.of (cd := r4_here.B) Tryz.func71 ?_
 show SJ r4_here.cx [.code r4_here.B] [(0, .string a0), (1, .int .i64 a1)] [] (r4_here a0 a1) r4_here.F0
 unfold r4_here
 refine SJ.sr 2 <| OJ.go 2 [(5, .int .i64 0), (4, .int .i64 0)] <| OJ.nil <| SJ.seq <| SJ.sr 4 <| OJ.go 4 [(9, .bool (decide (a1 ≥ (a0.size : Int)))), (8, .int .i64 (a0.size : Int)), (7, .string a0), (6, .int .i64 a1)] <| OJ.nil <| SJ.cond (t := (.tmp 9)) (b := decide (a1 ≥ (a0.size : Int))) decide_eq_true_iff (fun hc1 => ?_) (fun hc1 => ?_)
 ·exact SJ.sr 4 <| OJ.go 4 [(5, .int .i64 (a0.size : Int)), (4, .int .i64 42), (11, .int .i64 (a0.size : Int)), (10, .string a0)] <| OJ.nil <| SJ.r2 (.int .i64 42) (.int .i64 (a0.size : Int)) rfl rfl
 ·exact SJ.skip <| SJ.sr 3 <| OJ.go 3 [(5, .int .i64 a1), (4, .int .i64 41), (12, .int .i64 a1)] <| OJ.nil <| SJ.r2 (.int .i64 41) (.int .i64 a1) rfl rfl

/-! ### (*weir/weirref4.six).fail: function 97 -/
noncomputable def r4_six_fail.B : Code := (Tryz.f97.body).getD .skip
noncomputable def r4_six_fail.cx : Fx := ⟨Tryz.prog, 97, Tryz.f97⟩
noncomputable def r4_six_fail.out (r_ : Unit) : Value := .tuple #[]
noncomputable def r4_six_fail.F0 (r_ : Unit) : Reach := .ret (r4_six_fail.out r_)
noncomputable def r4_six_fail (a0 : (Option Addr)) (a1 : Int) (a2 : Int) : M Unit :=
 nilck a0 >>= fun p1 =>
 ld (cI .i64) (Addr.add p1 4) >>= fun x2 =>
 if x2 = 0 then
  nilck a0 >>= fun p5 =>
  st (cI .i64) (Addr.add p5 4) a1 >>= fun _ =>
  nilck a0 >>= fun p6 =>
  st (cI .i64) (Addr.add p6 5) a2 >>= fun _ =>
  pure ()
 else
  pure ()
theorem r4_six_fail_ok (a0 : (Option Addr)) (a1 : Int) (a2 : Int) : Ref Tryz.prog 97 [.pointer a0, .int .i64 a1, .int .i64 a2] (r4_six_fail a0 a1 a2) r4_six_fail.out := by
 refine Ref.of (cd := r4_six_fail.B) Tryz.func97 ?_
 show SJ r4_six_fail.cx [.code r4_six_fail.B] [(0, .pointer a0), (1, .int .i64 a1), (2, .int .i64 a2)] [] (r4_six_fail a0 a1 a2) r4_six_fail.F0
 unfold r4_six_fail
 refine SJ.sr 5 <| OJ.go 1 [(6, .pointer a0)] <| OJ.nilck (d := 7) (y := .tmp 6) (fun p1 => ?_)
 refine OJ.go 1 [(8, .pointer (some (Addr.add p1 4)))] <| OJ.ld (d := 9) (y := .tmp 8) (pend2 := fun x2 => []) Ty3 (fun _ => rfl) (fun x2 => ?_)
 refine OJ.go 1 [(10, .bool (x2 == 0))] <| OJ.nil <| SJ.cond (t := (.tmp 10)) (b := (x2 == 0)) beq_iff_eq (fun hc7 => ?_) (fun hc7 => ?_)
 ·refine SJ.sr 5 <| OJ.go 2 [(12, .int .i64 a1), (11, .pointer a0)] <| OJ.nilck (d := 13) (y := .tmp 11) (fun p5 => ?_)
  refine OJ.go 1 [(14, .pointer (some (Addr.add p5 4)))] <| OJ.st (y := .tmp 14) (z := .tmp 12) (owed := []) Ty3 ?_
  refine OW.nil <| OJ.nil <| SJ.rg 5 <| OJ.go 2 [(16, .int .i64 a2), (15, .pointer a0)] <| OJ.nilck (d := 17) (y := .tmp 15) (fun p6 => ?_)
  refine OJ.go 1 [(18, .pointer (some (Addr.add p6 5)))] <| OJ.st (y := .tmp 18) (z := .tmp 16) (owed := []) Ty3 ?_
  exact OW.nil <| OJ.nil <| SJ.end_ rfl (Res.run (ys := []) .nil rfl)
 ·exact SJ.skip <| SJ.end_ rfl (Res.run (ys := []) .nil rfl)

/-! ### (*weir/weirref4.six).room: function 111 -/
noncomputable def r4_six_room.B : Code := (Tryz.f111.body).getD .skip
noncomputable def r4_six_room.cx : Fx := ⟨Tryz.prog, 111, Tryz.f111⟩
noncomputable def r4_six_room.out (r_ : Int) : Value := .int .i64 r_
noncomputable def r4_six_room.F0 (r_ : Int) : Reach := .ret (r4_six_room.out r_)
noncomputable def r4_six_room (a0 : (Option Addr)) : M Int :=
 nilck a0 >>= fun p1 =>
 ld (cI .i64) (Addr.add p1 2) >>= fun x2 =>
 if x2 ≥ 0 then
  pure 7
 else
  pure 8
theorem r4_six_room_ok (a0 : (Option Addr)) : Ref Tryz.prog 111 [.pointer a0] (r4_six_room a0) r4_six_room.out := by
 refine Ref.of (cd := r4_six_room.B) Tryz.func111 ?_
 show SJ r4_six_room.cx [.code r4_six_room.B] [(0, .pointer a0)] [] (r4_six_room a0) r4_six_room.F0
 unfold r4_six_room
 refine SJ.sr 1 <| OJ.go 1 [(2, .int .i64 0)] <| OJ.nil <| SJ.seq <| SJ.sr 5 <| OJ.go 1 [(3, .pointer a0)] <| OJ.nilck (d := 4) (y := .tmp 3) (fun p1 => ?_)
 refine OJ.go 1 [(5, .pointer (some (Addr.add p1 2)))] <| OJ.ld (d := 6) (y := .tmp 5) (pend2 := fun x2 => []) Ty3 (fun _ => rfl) (fun x2 => ?_)
 refine OJ.go 1 [(7, .bool (decide (x2 ≥ 0)))] <| OJ.nil <| SJ.cond (t := (.tmp 7)) (b := decide (x2 ≥ 0)) decide_eq_true_iff (fun hc3 => ?_) (fun hc3 => ?_)
 ·exact SJ.sr 1 <| OJ.go 1 [(2, .int .i64 7)] <| OJ.nil <| SJ.r1 (.int .i64 7) rfl rfl
 ·exact SJ.skip <| SJ.sr 1 <| OJ.go 1 [(2, .int .i64 8)] <| OJ.nil <| SJ.r1 (.int .i64 8) rfl rfl

/-! ### weir/weirref4.decimal: function 72 -/
noncomputable def r4_decimal.B : Code := (Tryz.f72.body).getD .skip
noncomputable def r4_decimal.cx : Fx := ⟨Tryz.prog, 72, Tryz.f72⟩
noncomputable def r4_decimal.out (r_ : Int) : Value := .int .i64 r_
noncomputable def r4_decimal.F0 (r_ : Int) : Reach := .ret (r4_decimal.out r_)
noncomputable def r4_decimal.F1 (a0 : ByteArray) (a2 : Int) (a3 : Int) : (LS (Int × Int) Int) → Reach := loopF [.inLoop (c1 (c1 (c2 (c1 (c2 (c2 (c2 r4_decimal.B))))))), .inBlock 0, .code (c2 (c2 (c2 (c2 r4_decimal.B))))] (fun s_ : (Int × Int) => [(0, .string a0), (2, .int .i64 a2), (3, .int .i64 a3), (9, .int .i64 s_.1), (10, .int .i64 s_.2)]) (fun s_ : (Int × Int) => []) r4_decimal.F0
noncomputable def r4_decimal.L1 (a0 : ByteArray) (a2 : Int) (a3 : Int) (s5 : Int) (s6 : Int) : M (LS (Int × Int) Int) :=
 if s6 < a2 then
  chk ((0 : Int) ≤ s6 ∧ s6 < (a0.size : Int)) >>= fun _ =>
  pure (LS.next (IntKind.wrap .i64 ((IntKind.wrap .i64 (10 * s5)) + (IntKind.wrap .i64 (IntKind.wrap .u8 ((sb a0 s6) - 48)))), IntKind.wrap .i64 (s6 + 1)))
 else
  if s5 > a3 then
   pure (LS.done (-1))
  else
   pure (LS.done s5)
theorem r4_decimal.L1_ok (a0 : ByteArray) (a2 : Int) (a3 : Int) (s5 : Int) (s6 : Int) :
  SJ r4_decimal.cx [.code (c1 (c1 (c2 (c1 (c2 (c2 (c2 r4_decimal.B))))))), .inLoop (c1 (c1 (c2 (c1 (c2 (c2 (c2 r4_decimal.B))))))), .inBlock 0, .code (c2 (c2 (c2 (c2 r4_decimal.B))))] [(0, .string a0), (2, .int .i64 a2), (3, .int .i64 a3), (9, .int .i64 s5), (10, .int .i64 s6)] [] (r4_decimal.L1 a0 a2 a3 s5 s6) (r4_decimal.F1 a0 a2 a3) := by
 unfold r4_decimal.L1
 refine SJ.seq <| SJ.sr 3 <| OJ.go 3 [(30, .bool (decide (s6 < a2))), (29, .int .i64 a2), (28, .int .i64 s6)] <| OJ.nil <| SJ.cond (t := (.tmp 30)) (b := decide (s6 < a2)) decide_eq_true_iff (fun hc14 => ?_) (fun hc14 => ?_)
 ·refine SJ.skip <| SJ.seq <| SJ.block (id := 1) <| SJ.rg 9 <| OJ.go 4 [(36, .int .i64 s6), (35, .string a0), (34, .int .i64 (IntKind.wrap .i64 (10 * s5))), (33, .int .i64 s5)] <| OJ.idxT (d := 37) (T := 9) (y := .tmp 35) (j := .tmp 36) (k := .i64) (fun hb11 hb12 => ?_)
  exact OJ.go 4 [(9, .int .i64 (IntKind.wrap .i64 ((IntKind.wrap .i64 (10 * s5)) + (IntKind.wrap .i64 (IntKind.wrap .u8 ((sb a0 s6) - 48)))))), (40, .int .i64 (IntKind.wrap .i64 ((IntKind.wrap .i64 (10 * s5)) + (IntKind.wrap .i64 (IntKind.wrap .u8 ((sb a0 s6) - 48)))))), (39, .int .i64 (IntKind.wrap .i64 (IntKind.wrap .u8 ((sb a0 s6) - 48)))), (38, .int .u8 (IntKind.wrap .u8 ((sb a0 s6) - 48)))] <| OJ.nil <| SJ.inBlock <| SJ.rg 3 <| OJ.go 3 [(10, .int .i64 (IntKind.wrap .i64 (s6 + 1))), (32, .int .i64 (IntKind.wrap .i64 (s6 + 1))), (31, .int .i64 s6)] <| OJ.nil <| SJ.at_ [0, 2, 3, 9, 10] rfl
 ·refine SJ.exit (id := 0) (by rfl) <| SJ.seq <| SJ.sr 3 <| OJ.go 3 [(43, .bool (decide (s5 > a3))), (42, .int .i64 a3), (41, .int .i64 s5)] <| OJ.nil <| SJ.cond (t := (.tmp 43)) (b := decide (s5 > a3)) decide_eq_true_iff (fun hc13 => ?_) (fun hc13 => ?_)
  ·exact SJ.sr 1 <| OJ.go 1 [(8, .int .i64 (-1))] <| OJ.nil <| SJ.r1 (.int .i64 (-1)) rfl rfl
  ·exact SJ.skip <| SJ.sr 2 <| OJ.go 2 [(8, .int .i64 s5), (44, .int .i64 s5)] <| OJ.nil <| SJ.r1 (.int .i64 s5) rfl rfl
noncomputable def r4_decimal (a0 : ByteArray) (a1 : Int) (a2 : Int) (a3 : Int) : M Int :=
 (if (IntKind.wrap .i64 (a2 - a1)) > 3 then
   pure true
  else
   (if (IntKind.wrap .i64 (a2 - a1)) > 1 then
     chk ((0 : Int) ≤ a1 ∧ a1 < (a0.size : Int)) >>= fun _ =>
     pure ((sb a0 a1) == 48)
    else
     pure false) >>= fun y3 =>
   pure y3) >>= fun y4 =>
 if y4 = true then
  pure (-1)
 else
  loopM (fun s_ : (Int × Int) => r4_decimal.L1 a0 a2 a3 s_.1 s_.2) (0, a1)
theorem r4_decimal_ok (a0 : ByteArray) (a1 : Int) (a2 : Int) (a3 : Int) : Ref Tryz.prog 72 [.string a0, .int .i64 a1, .int .i64 a2, .int .i64 a3] (r4_decimal a0 a1 a2 a3) r4_decimal.out := by
 refine Ref.of (cd := r4_decimal.B) Tryz.func72 ?_
 show SJ r4_decimal.cx [.code r4_decimal.B] [(0, .string a0), (1, .int .i64 a1), (2, .int .i64 a2), (3, .int .i64 a3)] [] (r4_decimal a0 a1 a2 a3) r4_decimal.F0
 unfold r4_decimal
 refine SJ.sr 1 <| OJ.go 1 [(8, .int .i64 0)] <| OJ.nil <| SJ.seq <| SJ.sr 16 <| OJ.go 5 [(15, .bool (decide ((IntKind.wrap .i64 (a2 - a1)) > 3))), (14, .bool (decide ((IntKind.wrap .i64 (a2 - a1)) > 3))), (13, .int .i64 (IntKind.wrap .i64 (a2 - a1))), (12, .int .i64 a1), (11, .int .i64 a2)] <| OJ.join (b := decide ((IntKind.wrap .i64 (a2 - a1)) > 3)) [5, 6, 7, 8, 9, 10, 11, 12, 13, 14, 15] [] [0, 1, 2, 3, 26] (fun y4 => [(0, .string a0), (1, .int .i64 a1), (2, .int .i64 a2), (3, .int .i64 a3), (26, .bool y4)]) [] [] (t := 15) decide_eq_true_iff (fun hp_ => ?_) (fun hp_ => ?_) (fun _ _ _ _ _ _ h_ => h_) (fun y4 => ?_)
 ·exact OJ.go 11 [(26, .bool true), (25, undef), (24, undef), (23, undef), (22, undef), (21, undef), (20, undef), (19, undef), (18, undef), (17, undef), (16, undef)] <| OJ.x0
 ·refine OJ.go 5 [(20, .bool (decide ((IntKind.wrap .i64 (a2 - a1)) > 1))), (19, .bool (decide ((IntKind.wrap .i64 (a2 - a1)) > 1))), (18, .int .i64 (IntKind.wrap .i64 (a2 - a1))), (17, .int .i64 a1), (16, .int .i64 a2)] <| OJ.join (b := decide ((IntKind.wrap .i64 (a2 - a1)) > 1)) [10, 11, 12, 13, 14] [15] [0, 1, 2, 3, 15, 25] (fun y3 => [(0, .string a0), (1, .int .i64 a1), (2, .int .i64 a2), (3, .int .i64 a3), (15, .bool false), (25, .bool y3)]) [] [] (t := 20) decide_eq_true_iff (fun hp_ => ?_) (fun hp_ => ?_) (fun _ _ _ _ _ hq_ h_ => ⟨fun e_ he_ => (hq_ e_ he_).elim (fun h => h_.1 e_ h) (fun h => nomatch h), h_.2⟩) (fun y3 => ?_)
  ·refine OJ.go 2 [(22, .int .i64 a1), (21, .string a0)] <| OJ.idxT (d := 23) (T := 9) (y := .tmp 21) (j := .tmp 22) (k := .i64) (fun hb1 hb2 => ?_)
   exact OJ.go 2 [(25, .bool ((sb a0 a1) == 48)), (24, .bool ((sb a0 a1) == 48))] <| OJ.x0
  ·exact OJ.go 5 [(25, .bool false), (24, undef), (23, undef), (22, undef), (21, undef)] <| OJ.x0
  ·exact OJ.go 1 [(26, .bool y3)] <| OJ.x0
 ·refine OJ.nil <| SJ.cond (t := (.tmp 26)) (b := y4) Iff.rfl (fun hc15 => ?_) (fun hc15 => ?_)
  ·exact SJ.sr 1 <| OJ.go 1 [(8, .int .i64 (-1))] <| OJ.nil <| SJ.r1 (.int .i64 (-1)) rfl rfl
  ·exact SJ.skip <| SJ.sr 1 <| OJ.go 1 [(9, .int .i64 0)] <| OJ.nil <| SJ.seq <| SJ.sr 2 <| OJ.go 2 [(10, .int .i64 a1), (27, .int .i64 a1)] <| OJ.nil <| SJ.block (id := 0) <| SJ.loop (fun s_ : (Int × Int) => [(0, .string a0), (2, .int .i64 a2), (3, .int .i64 a3), (9, .int .i64 s_.1), (10, .int .i64 s_.2)]) (fun s_ : (Int × Int) => []) [0, 2, 3, 9, 10] rfl (fun _ _ => rfl) (fun s_ => r4_decimal.L1_ok a0 a2 a3 s_.1 s_.2)

/-! ### weir/weirref4.dotted: function 68 -/
noncomputable def r4_dotted.B : Code := (Tryz.f68.body).getD .skip
noncomputable def r4_dotted.cx : Fx := ⟨Tryz.prog, 68, Tryz.f68⟩
noncomputable def r4_dotted.out (r_ : (Sl × Int × Int)) : Value := .tuple #[Sl.v r_.1, .int .i64 r_.2.1, .int .i64 r_.2.2]
noncomputable def r4_dotted.F0 (r_ : (Sl × Int × Int)) : Reach := .ret (r4_dotted.out r_)
noncomputable def r4_dotted.F1 (a0 : ByteArray) : (LS (Int × Sl) (Sl × Int × Int)) → Reach := loopF [.inLoop (c1 (c1 (c1 (c2 (c2 r4_dotted.B))))), .inBlock 0, .code (c2 (c2 (c2 r4_dotted.B)))] (fun s_ : (Int × Sl) => [(0, .string a0), (1, .int .i64 s_.1), (7, Sl.v s_.2)]) (fun s_ : (Int × Sl) => []) r4_dotted.F0
noncomputable def r4_dotted.K1 (a0 : ByteArray) (s1 : Int) (s2 : Sl) (s36 : Int) : M (LS (Int × Sl) (Sl × Int × Int)) :=
 if s36 = s1 then
  r4_here a0 s1 >>= fun r43 =>
  pure (LS.done (Sl.nil, r43.1, r43.2))
 else
  r4_decimal a0 s1 s36 255 >>= fun r44 =>
  if r44 < 0 then
   pure (LS.done (Sl.nil, 43, s1))
  else
   slot 5 >>= fun b45 =>
   appl (cI .u8) 5 1 0 s2 [IntKind.wrap .u8 r44] >>= fun r46 =>
   if (r46.len : Int) < 4 then
    (if s36 ≥ (a0.size : Int) then
      pure true
     else
      chk ((0 : Int) ≤ s36 ∧ s36 < (a0.size : Int)) >>= fun _ =>
      pure ((sb a0 s36) != 46)) >>= fun y55 =>
    if y55 = true then
     r4_here a0 s36 >>= fun r57 =>
     pure (LS.done (Sl.nil, r57.1, r57.2))
    else
     pure (LS.next (IntKind.wrap .i64 (s36 + 1), r46))
   else
    pure (LS.next (s36, r46))
theorem r4_dotted.K1_ok (a0 : ByteArray) (s1 : Int) (s2 : Sl) (s36 : Int) :
  SJ r4_dotted.cx [.code (c2 (c2 (c1 (c2 (c1 (c1 (c1 (c2 (c2 r4_dotted.B))))))))), .inBlock 1, .inLoop (c1 (c1 (c1 (c2 (c2 r4_dotted.B))))), .inBlock 0, .code (c2 (c2 (c2 r4_dotted.B)))] [(0, .string a0), (1, .int .i64 s1), (7, Sl.v s2), (8, .int .i64 s36)] [] (r4_dotted.K1 a0 s1 s2 s36) (r4_dotted.F1 a0) := by
 unfold r4_dotted.K1
 refine SJ.seq <| SJ.sr 3 <| OJ.go 3 [(32, .bool (s36 == s1)), (31, .int .i64 s1), (30, .int .i64 s36)] <| OJ.nil <| SJ.cond (t := (.tmp 32)) (b := (s36 == s1)) beq_iff_eq (fun hc61 => ?_) (fun hc61 => ?_)
 ·refine SJ.sr 8 <| OJ.go 2 [(35, .int .i64 s1), (34, .string a0)] <| OJ.call (d := 36) (g := 71) (ats := #[9, 3]) (args := [.tmp 34, .tmp 35]) (owed := []) F71 (r4_here_ok a0 s1) (fun r43 => ?_)
  exact OW.nil <| OJ.go 5 [(10, .int .i64 r43.2), (9, .int .i64 r43.1), (38, .int .i64 r43.2), (37, .int .i64 r43.1), (33, .tuple #[.int .i64 r43.1, .int .i64 r43.2])] <| OJ.nil <| SJ.sr 5 <| OJ.go 5 [(6, .int .i64 r43.2), (5, .int .i64 r43.1), (4, Sl.v Sl.nil), (40, .int .i64 r43.2), (39, .int .i64 r43.1)] <| OJ.nil <| SJ.r3 (Sl.v Sl.nil) (.int .i64 r43.1) (.int .i64 r43.2) rfl rfl
 ·refine SJ.skip <| SJ.sr 5 <| OJ.go 3 [(43, .int .i64 s36), (42, .int .i64 s1), (41, .string a0)] <| OJ.call (d := 44) (g := 72) (ats := #[9, 3, 3, 3]) (args := [.tmp 41, .tmp 42, .tmp 43, .const (.int .i64 255)]) (owed := []) F72 (r4_decimal_ok a0 s1 s36 255) (fun r44 => ?_)
  refine OW.nil <| OJ.go 1 [(11, .int .i64 r44)] <| OJ.nil <| SJ.seq <| SJ.sr 2 <| OJ.go 2 [(46, .bool (decide (r44 < 0))), (45, .int .i64 r44)] <| OJ.nil <| SJ.cond (t := (.tmp 46)) (b := decide (r44 < 0)) decide_eq_true_iff (fun hc60 => ?_) (fun hc60 => ?_)
  ·exact SJ.sr 4 <| OJ.go 4 [(6, .int .i64 s1), (5, .int .i64 43), (4, Sl.v Sl.nil), (47, .int .i64 s1)] <| OJ.nil <| SJ.r3 (Sl.v Sl.nil) (.int .i64 43) (.int .i64 s1) rfl rfl
  ·refine SJ.skip <| SJ.sr 6 <| OJ.go 3 [(50, .int .u8 (IntKind.wrap .u8 r44)), (49, .int .i64 r44), (48, Sl.v s2)] <| OJ.rowSlot (d := 51) (t := 51) (parts := [(0, .tmp 50)]) (ps := [(0, (cI .u8).val (IntKind.wrap .u8 r44))]) (cd := (cI .u8)) (⟨[IntKind.wrap .u8 r44], rfl⟩ : Vec Int 1) (owed := []) Ty5 (Filled.cons (cd := (cI .u8)) (q := (IntKind.wrap .u8 r44)) (o := 0) rfl (Upd.arr (i := 0) (by decide) (by decide)) Filled.nil) (fun b45 => ?_)
   refine OW.nil <| OJ.appl (d := 52) (t := 51) (u := 51) (so := .tmp 48) (xo := .tmp 51) (j := 0) (b := b45) (l := ((cI .u8).arr 1).enc (⟨[IntKind.wrap .u8 r44], rfl⟩ : Vec Int 1)) (n := 1) (k := 1) [IntKind.wrap .u8 r44] (owed := []) Ty5 (by rfl) (Cod.arr_enc _ _ _) (by rfl) (fun r46 => ?_)
   refine OW.nil <| OJ.go 1 [(7, Sl.v r46)] <| OJ.nil <| SJ.sr 2 <| OJ.go 2 [(1, .int .i64 s36), (53, .int .i64 s36)] <| OJ.nil <| SJ.sr 3 <| OJ.go 3 [(56, .bool (decide ((r46.len : Int) < 4))), (55, .int .i64 (r46.len : Int)), (54, Sl.v r46)] <| OJ.nil <| SJ.cond (t := (.tmp 56)) (b := decide ((r46.len : Int) < 4)) decide_eq_true_iff (fun hc59 => ?_) (fun hc59 => ?_)
   ·refine SJ.seq <| SJ.sr 10 <| OJ.go 5 [(61, .bool (decide (s36 ≥ (a0.size : Int)))), (60, .bool (decide (s36 ≥ (a0.size : Int)))), (59, .int .i64 (a0.size : Int)), (58, .string a0), (57, .int .i64 s36)] <| OJ.join (b := decide (s36 ≥ (a0.size : Int))) [5, 6, 7, 8, 9] [] [0, 7, 1, 66] (fun y55 => [(0, .string a0), (7, Sl.v r46), (1, .int .i64 s36), (66, .bool y55)]) [] [] (t := 61) decide_eq_true_iff (fun hp_ => ?_) (fun hp_ => ?_) (fun _ _ _ _ _ _ h_ => h_) (fun y55 => ?_)
    ·exact OJ.go 5 [(66, .bool true), (65, undef), (64, undef), (63, undef), (62, undef)] <| OJ.x0
    ·refine OJ.go 2 [(63, .int .i64 s36), (62, .string a0)] <| OJ.idxT (d := 64) (T := 9) (y := .tmp 62) (j := .tmp 63) (k := .i64) (fun hb53 hb54 => ?_)
     exact OJ.go 2 [(66, .bool ((sb a0 s36) != 46)), (65, .bool ((sb a0 s36) != 46))] <| OJ.x0
    ·refine OJ.nil <| SJ.cond (t := (.tmp 66)) (b := y55) Iff.rfl (fun hc58 => ?_) (fun hc58 => ?_)
     ·refine SJ.sr 8 <| OJ.go 2 [(69, .int .i64 s36), (68, .string a0)] <| OJ.call (d := 70) (g := 71) (ats := #[9, 3]) (args := [.tmp 68, .tmp 69]) (owed := []) F71 (r4_here_ok a0 s36) (fun r57 => ?_)
      exact OW.nil <| OJ.go 5 [(13, .int .i64 r57.2), (12, .int .i64 r57.1), (72, .int .i64 r57.2), (71, .int .i64 r57.1), (67, .tuple #[.int .i64 r57.1, .int .i64 r57.2])] <| OJ.nil <| SJ.sr 5 <| OJ.go 5 [(6, .int .i64 r57.2), (5, .int .i64 r57.1), (4, Sl.v Sl.nil), (74, .int .i64 r57.2), (73, .int .i64 r57.1)] <| OJ.nil <| SJ.r3 (Sl.v Sl.nil) (.int .i64 r57.1) (.int .i64 r57.2) rfl rfl
     ·refine SJ.skip <| SJ.rg 3 <| OJ.go 3 [(1, .int .i64 (IntKind.wrap .i64 (s36 + 1))), (76, .int .i64 (IntKind.wrap .i64 (s36 + 1))), (75, .int .i64 s36)] <| OJ.nil <| SJ.inBlock <| SJ.forget (List.Sublist.cons _ List.Sublist.slnil) ?_
      exact SJ.at_ [0, 1, 7] rfl
   ·refine SJ.skip <| SJ.inBlock <| SJ.forget (List.Sublist.cons _ List.Sublist.slnil) ?_
    exact SJ.at_ [0, 1, 7] rfl
noncomputable def r4_dotted.F2 (a0 : ByteArray) (s1 : Int) (s2 : Sl) : (LS Int (LS (Int × Sl) (Sl × Int × Int))) → Reach := loopF [.inLoop (c1 (c1 (c1 (c2 (c1 (c2 (c1 (c1 (c1 (c2 (c2 r4_dotted.B))))))))))), .inBlock 2, .code (c2 (c2 (c1 (c2 (c1 (c1 (c1 (c2 (c2 r4_dotted.B))))))))), .inBlock 1, .inLoop (c1 (c1 (c1 (c2 (c2 r4_dotted.B))))), .inBlock 0, .code (c2 (c2 (c2 r4_dotted.B)))] (fun s_ : Int => [(0, .string a0), (1, .int .i64 s1), (7, Sl.v s2), (8, .int .i64 s_)]) (fun s_ : Int => []) (r4_dotted.F1 a0)
noncomputable def r4_dotted.L2 (a0 : ByteArray) (s1 : Int) (s2 : Sl) (s36 : Int) : M (LS Int (LS (Int × Sl) (Sl × Int × Int))) :=
 (if s36 < (a0.size : Int) then
   chk ((0 : Int) ≤ s36 ∧ s36 < (a0.size : Int)) >>= fun _ =>
   r4_digit (sb a0 s36) >>= fun r64 =>
   pure r64
  else
   pure false) >>= fun y65 =>
 if y65 = true then
  pure (LS.next (IntKind.wrap .i64 (s36 + 1)))
 else
  (r4_dotted.K1 a0 s1 s2 s36) >>= fun b => pure (LS.done b)
theorem r4_dotted.L2_ok (a0 : ByteArray) (s1 : Int) (s2 : Sl) (s36 : Int) :
  SJ r4_dotted.cx [.code (c1 (c1 (c1 (c2 (c1 (c2 (c1 (c1 (c1 (c2 (c2 r4_dotted.B))))))))))), .inLoop (c1 (c1 (c1 (c2 (c1 (c2 (c1 (c1 (c1 (c2 (c2 r4_dotted.B))))))))))), .inBlock 2, .code (c2 (c2 (c1 (c2 (c1 (c1 (c1 (c2 (c2 r4_dotted.B))))))))), .inBlock 1, .inLoop (c1 (c1 (c1 (c2 (c2 r4_dotted.B))))), .inBlock 0, .code (c2 (c2 (c2 r4_dotted.B)))] [(0, .string a0), (1, .int .i64 s1), (7, Sl.v s2), (8, .int .i64 s36)] [] (r4_dotted.L2 a0 s1 s2 s36) (r4_dotted.F2 a0 s1 s2) := by
 unfold r4_dotted.L2
 refine SJ.seq <| SJ.sr 10 <| OJ.go 5 [(22, .bool (decide (s36 < (a0.size : Int)))), (21, .bool (decide (s36 < (a0.size : Int)))), (20, .int .i64 (a0.size : Int)), (19, .string a0), (18, .int .i64 s36)] <| OJ.join (b := decide (s36 < (a0.size : Int))) [5, 6, 7, 8, 9] [] [0, 1, 7, 8, 27] (fun y65 => [(0, .string a0), (1, .int .i64 s1), (7, Sl.v s2), (8, .int .i64 s36), (27, .bool y65)]) [] [] (t := 22) decide_eq_true_iff (fun hp_ => ?_) (fun hp_ => ?_) (fun _ _ _ _ _ _ h_ => h_) (fun y65 => ?_)
 ·refine OJ.go 2 [(24, .int .i64 s36), (23, .string a0)] <| OJ.idxT (d := 25) (T := 9) (y := .tmp 23) (j := .tmp 24) (k := .i64) (fun hb62 hb63 => ?_)
  refine OJ.call (d := 26) (g := 70) (ats := #[5]) (args := [.tmp 25]) (owed := []) F70 (r4_digit_ok (sb a0 s36)) (fun r64 => ?_)
  exact OW.nil <| OJ.go 1 [(27, .bool r64)] <| OJ.x0
 ·exact OJ.go 5 [(27, .bool false), (26, undef), (25, undef), (24, undef), (23, undef)] <| OJ.x0
 ·refine OJ.nil <| SJ.cond (t := (.tmp 27)) (b := y65) Iff.rfl (fun hc66 => ?_) (fun hc66 => ?_)
  ·exact SJ.skip <| SJ.block (id := 3) <| SJ.rg 3 <| OJ.go 3 [(8, .int .i64 (IntKind.wrap .i64 (s36 + 1))), (29, .int .i64 (IntKind.wrap .i64 (s36 + 1))), (28, .int .i64 s36)] <| OJ.nil <| SJ.inBlock <| SJ.at_ [0, 1, 7, 8] rfl
  ·refine SJ.exit (id := 2) (by rfl) <| SJ.less [0, 1, 7, 8] (m' := [(0, .string a0), (1, .int .i64 s1), (7, Sl.v s2), (8, .int .i64 s36)]) ?_
   refine SJ.done ?_
   exact r4_dotted.K1_ok a0 s1 s2 s36
noncomputable def r4_dotted.L1 (a0 : ByteArray) (s1 : Int) (s2 : Sl) : M (LS (Int × Sl) (Sl × Int × Int)) :=
 if (s2.len : Int) < 4 then
  loopM (fun s_ : Int => r4_dotted.L2 a0 s1 s2 s_) s1
 else
  if s1 < (a0.size : Int) then
   pure (LS.done (Sl.nil, 41, s1))
  else
   pure (LS.done (s2, 0, 0))
theorem r4_dotted.L1_ok (a0 : ByteArray) (s1 : Int) (s2 : Sl) :
  SJ r4_dotted.cx [.code (c1 (c1 (c1 (c2 (c2 r4_dotted.B))))), .inLoop (c1 (c1 (c1 (c2 (c2 r4_dotted.B))))), .inBlock 0, .code (c2 (c2 (c2 r4_dotted.B)))] [(0, .string a0), (1, .int .i64 s1), (7, Sl.v s2)] [] (r4_dotted.L1 a0 s1 s2) (r4_dotted.F1 a0) := by
 unfold r4_dotted.L1
 refine SJ.seq <| SJ.sr 3 <| OJ.go 3 [(16, .bool (decide ((s2.len : Int) < 4))), (15, .int .i64 (s2.len : Int)), (14, Sl.v s2)] <| OJ.nil <| SJ.cond (t := (.tmp 16)) (b := decide ((s2.len : Int) < 4)) decide_eq_true_iff (fun hc68 => ?_) (fun hc68 => ?_)
 ·exact SJ.skip <| SJ.block (id := 1) <| SJ.sr 2 <| OJ.go 2 [(8, .int .i64 s1), (17, .int .i64 s1)] <| OJ.nil <| SJ.seq <| SJ.block (id := 2) <| SJ.loop (fun s_ : Int => [(0, .string a0), (1, .int .i64 s1), (7, Sl.v s2), (8, .int .i64 s_)]) (fun s_ : Int => []) [0, 1, 7, 8] rfl (fun _ _ => rfl) (fun s_ => r4_dotted.L2_ok a0 s1 s2 s_)
 ·refine SJ.exit (id := 0) (by rfl) <| SJ.seq <| SJ.sr 4 <| OJ.go 4 [(80, .bool (decide (s1 < (a0.size : Int)))), (79, .int .i64 (a0.size : Int)), (78, .string a0), (77, .int .i64 s1)] <| OJ.nil <| SJ.cond (t := (.tmp 80)) (b := decide (s1 < (a0.size : Int))) decide_eq_true_iff (fun hc67 => ?_) (fun hc67 => ?_)
  ·exact SJ.sr 4 <| OJ.go 4 [(6, .int .i64 s1), (5, .int .i64 41), (4, Sl.v Sl.nil), (81, .int .i64 s1)] <| OJ.nil <| SJ.r3 (Sl.v Sl.nil) (.int .i64 41) (.int .i64 s1) rfl rfl
  ·exact SJ.skip <| SJ.sr 4 <| OJ.go 4 [(6, .int .i64 0), (5, .int .i64 0), (4, Sl.v s2), (82, Sl.v s2)] <| OJ.nil <| SJ.r3 (Sl.v s2) (.int .i64 0) (.int .i64 0) rfl rfl
noncomputable def r4_dotted (a0 : ByteArray) (a1 : Int) : M (Sl × Int × Int) :=
 loopM (fun s_ : (Int × Sl) => r4_dotted.L1 a0 s_.1 s_.2) (a1, Sl.nil)
theorem r4_dotted_ok (a0 : ByteArray) (a1 : Int) : Ref Tryz.prog 68 [.string a0, .int .i64 a1] (r4_dotted a0 a1) r4_dotted.out := by
 refine Ref.of (cd := r4_dotted.B) Tryz.func68 ?_
 show SJ r4_dotted.cx [.code r4_dotted.B] [(0, .string a0), (1, .int .i64 a1)] [] (r4_dotted a0 a1) r4_dotted.F0
 unfold r4_dotted
 exact SJ.sr 3 <| OJ.go 3 [(6, .int .i64 0), (5, .int .i64 0), (4, Sl.v Sl.nil)] <| OJ.nil <| SJ.sr 1 <| OJ.go 1 [(7, Sl.v Sl.nil)] <| OJ.nil <| SJ.seq <| SJ.block (id := 0) <| SJ.loop (fun s_ : (Int × Sl) => [(0, .string a0), (1, .int .i64 s_.1), (7, Sl.v s_.2)]) (fun s_ : (Int × Sl) => []) [0, 1, 7] rfl (fun _ _ => rfl) (fun s_ => r4_dotted.L1_ok a0 s_.1 s_.2)

/-! ### (*weir/weirref4.six).group: function 95 -/
noncomputable def r4_six_group.B : Code := (Tryz.f95.body).getD .skip
noncomputable def r4_six_group.cx : Fx := ⟨Tryz.prog, 95, Tryz.f95⟩
noncomputable def r4_six_group.out (r_ : Bool) : Value := .bool r_
noncomputable def r4_six_group.F0 (r_ : Bool) : Reach := .ret (r4_six_group.out r_)
noncomputable def r4_six_group.K1 (a0 : (Option Addr)) (s3 : Int) (s4 : Int) (y50 : Bool) (j51 : Int) : M Bool :=
 draw >>= fun _ =>
 nilck a0 >>= fun p52 =>
 ld cL (Addr.add p52 1) >>= fun x53 =>
 r4_six_room a0 >>= fun r54 =>
 same cL (Addr.add p52 1) x53 >>= fun _ =>
 if (IntKind.wrap .i64 ((x53.len : Int) + j51)) > r54 then
  nilck a0 >>= fun p58 =>
  ld (cI .i64) (Addr.add p58 3) >>= fun x59 =>
  r4_six_fail a0 44 x59 >>= fun r60 =>
  pure true
 else
  if y50 = true then
   draw >>= fun _ =>
   nilck a0 >>= fun p85 =>
   ld cS p85 >>= fun x86 =>
   nilck a0 >>= fun p87 =>
   ld (cI .i64) (Addr.add p87 3) >>= fun x88 =>
   r4_dotted x86 x88 >>= fun r89 =>
   if r89.2.1 ≠ 0 then
    r4_six_fail a0 r89.2.1 r89.2.2 >>= fun r91 =>
    pure true
   else
    draw >>= fun _ =>
    nilck a0 >>= fun p92 =>
    ld cL (Addr.add p92 1) >>= fun x93 =>
    idx r89.1.a r89.1.len 0 1 >>= fun p94 =>
    ld (cI .u8) p94 >>= fun x95 =>
    idx r89.1.a r89.1.len 1 1 >>= fun p96 =>
    ld (cI .u8) p96 >>= fun x97 =>
    idx r89.1.a r89.1.len 2 1 >>= fun p98 =>
    ld (cI .u8) p98 >>= fun x99 =>
    idx r89.1.a r89.1.len 3 1 >>= fun p100 =>
    ld (cI .u8) p100 >>= fun x101 =>
    slot 3 >>= fun b102 =>
    same cL (Addr.add p92 1) x93 >>= fun _ =>
    appl (cI .i64) 3 8 0 x93 [IntKind.wrap .i64 ((IntKind.wrap .i64 (256 * (IntKind.wrap .i64 x95))) + (IntKind.wrap .i64 x97)), IntKind.wrap .i64 ((IntKind.wrap .i64 (256 * (IntKind.wrap .i64 x99))) + (IntKind.wrap .i64 x101))] >>= fun r103 =>
    nilck a0 >>= fun p104 =>
    st cL (Addr.add p104 1) r103 >>= fun _ =>
    nilck a0 >>= fun p105 =>
    ld cS p105 >>= fun x106 =>
    nilck a0 >>= fun p107 =>
    st (cI .i64) (Addr.add p107 3) (x106.size : Int) >>= fun _ =>
    pure true
  else
   nilck a0 >>= fun p109 =>
   ld (cI .i64) (Addr.add p109 3) >>= fun x110 =>
   if (IntKind.wrap .i64 (s3 - x110)) > 4 then
    nilck a0 >>= fun p114 =>
    ld (cI .i64) (Addr.add p114 3) >>= fun x115 =>
    r4_six_fail a0 43 x115 >>= fun r116 =>
    pure true
   else
    nilck a0 >>= fun p117 =>
    ld cL (Addr.add p117 1) >>= fun x118 =>
    slot 3 >>= fun b119 =>
    appl (cI .i64) 3 8 0 x118 [s4] >>= fun r120 =>
    nilck a0 >>= fun p121 =>
    st cL (Addr.add p121 1) r120 >>= fun _ =>
    nilck a0 >>= fun p122 =>
    st (cI .i64) (Addr.add p122 3) s3 >>= fun _ =>
    nilck a0 >>= fun p123 =>
    ld cS p123 >>= fun x124 =>
    pure (s3 == (x124.size : Int))
theorem r4_six_group.K1_ok (a0 : (Option Addr)) (s3 : Int) (s4 : Int) (y50 : Bool) (j51 : Int) :
  SJ r4_six_group.cx [.code (c2 (c2 (c2 (c2 (c2 (c2 (c2 (c2 r4_six_group.B))))))))] [(0, .pointer a0), (3, .int .i64 s3), (4, .int .i64 s4), (7, .bool y50), (8, .int .i64 j51)] [] (r4_six_group.K1 a0 s3 s4 y50 j51) r4_six_group.F0 := by
 unfold r4_six_group.K1
 refine SJ.seq <| SJ.seq <| SJ.draw (id := 15) (kd := [0, 0, 0, 1, 0, 0, 0, 0, 2, 0]) (bef := [0, 1, 3, 7, 15, 0, 63, 0, 128, 511]) (ord := [0, 1, 2, 3, 4, 5, 6, 7, 8, 9]) mixed ?_
 refine OJ.go 1 [(98, .pointer a0)] <| OJ.nilck (d := 99) (y := .tmp 98) (fun p52 => ?_)
 refine OJ.go 1 [(100, .pointer (some (Addr.add p52 1)))] <| OJ.ld (d := 101) (y := .tmp 100) (pend2 := fun x53 => [⟨3, 58, (Addr.add p52 1), cL.val x53⟩]) Ty58 (fun _ => rfl) (fun x53 => ?_)
 refine OJ.go 4 [(105, .pointer a0), (104, .int .i64 (IntKind.wrap .i64 ((x53.len : Int) + j51))), (103, .int .i64 j51), (102, .int .i64 (x53.len : Int))] <| OJ.call (d := 106) (g := 111) (ats := #[145]) (args := [.tmp 105]) (owed := [⟨3, 58, (Addr.add p52 1), cL.val x53⟩]) F111 (r4_six_room_ok a0) (fun r54 => ?_)
 refine OW.same Ty58 ?_
 refine OW.nil <| OJ.go 1 [(107, .bool (decide ((IntKind.wrap .i64 ((x53.len : Int) + j51)) > r54)))] <| OJ.nil <| SJ.cond (t := (.tmp 107)) (b := decide ((IntKind.wrap .i64 ((x53.len : Int) + j51)) > r54)) decide_eq_true_iff (fun hc127 => ?_) (fun hc127 => ?_)
 ·refine SJ.sr 6 <| OJ.go 2 [(109, .pointer a0), (108, .pointer a0)] <| OJ.nilck (d := 110) (y := .tmp 109) (fun p58 => ?_)
  refine OJ.go 1 [(111, .pointer (some (Addr.add p58 3)))] <| OJ.ld (d := 112) (y := .tmp 111) (pend2 := fun x59 => []) Ty3 (fun _ => rfl) (fun x59 => ?_)
  refine OJ.call (d := 113) (g := 97) (ats := #[145, 3, 3]) (args := [.tmp 108, .const (.int .i64 44), .tmp 112]) (owed := []) F97 (r4_six_fail_ok a0 44 x59) (fun r60 => ?_)
  exact OW.nil <| OJ.nil <| SJ.sr 1 <| OJ.go 1 [(2, .bool true)] <| OJ.nil <| SJ.r1 (.bool true) rfl rfl
 ·refine SJ.skip <| SJ.seq <| SJ.sr 1 <| OJ.go 1 [(114, .bool y50)] <| OJ.nil <| SJ.cond (t := (.tmp 114)) (b := y50) Iff.rfl (fun hc126 => ?_) (fun hc126 => ?_)
  ·refine SJ.seq <| SJ.draw (id := 19) (kd := [0, 0, 0, 1, 0, 0, 0, 1, 2, 0, 0, 0, 0, 0, 0, 0]) (bef := [0, 1, 3, 7, 0, 16, 48, 112, 255, 511, 1023, 1023, 1023, 2047, 12287, 32767]) (ord := [0, 1, 2, 3, 4, 5, 6, 7, 8, 9, 10, 11, 12, 13, 14, 15]) mixed ?_
   refine OJ.go 1 [(116, .pointer a0)] <| OJ.nilck (d := 117) (y := .tmp 116) (fun p85 => ?_)
   refine OJ.go 1 [(118, .pointer (some p85))] <| OJ.ld (d := 119) (y := .tmp 118) (pend2 := fun x86 => [⟨3, 9, p85, cS.val x86⟩]) Ty9 (fun _ => rfl) (fun x86 => ?_)
   refine OJ.go 1 [(120, .pointer a0)] <| OJ.nilck (d := 121) (y := .tmp 120) (fun p87 => ?_)
   refine OJ.go 1 [(122, .pointer (some (Addr.add p87 3)))] <| OJ.ld (d := 123) (y := .tmp 122) (pend2 := fun x88 => [⟨7, 3, (Addr.add p87 3), (cI .i64).val x88⟩, ⟨3, 9, p85, cS.val x86⟩]) Ty3 (fun _ => rfl) (fun x88 => ?_)
   refine OJ.call (d := 124) (g := 68) (ats := #[9, 3]) (args := [.tmp 119, .tmp 123]) (owed := []) F68 (r4_dotted_ok x86 x88) (fun r89 => ?_)
   refine OW.nil <| OJ.go 7 [(11, .int .i64 r89.2.2), (10, .int .i64 r89.2.1), (9, Sl.v r89.1), (127, .int .i64 r89.2.2), (126, .int .i64 r89.2.1), (125, Sl.v r89.1), (115, .tuple #[Sl.v r89.1, .int .i64 r89.2.1, .int .i64 r89.2.2])] <| OJ.nil <| SJ.seq <| SJ.sr 2 <| OJ.go 2 [(129, .bool (r89.2.1 != 0)), (128, .int .i64 r89.2.1)] <| OJ.nil <| SJ.cond (t := (.tmp 129)) (b := (r89.2.1 != 0)) bne_iff_ne (fun hc108 => ?_) (fun hc108 => ?_)
   ·refine SJ.sr 4 <| OJ.go 3 [(132, .int .i64 r89.2.2), (131, .int .i64 r89.2.1), (130, .pointer a0)] <| OJ.call (d := 133) (g := 97) (ats := #[145, 3, 3]) (args := [.tmp 130, .tmp 131, .tmp 132]) (owed := []) F97 (r4_six_fail_ok a0 r89.2.1 r89.2.2) (fun r91 => ?_)
    exact OW.nil <| OJ.nil <| SJ.sr 1 <| OJ.go 1 [(2, .bool true)] <| OJ.nil <| SJ.r1 (.bool true) rfl rfl
   ·refine SJ.skip <| SJ.seq <| SJ.draw (id := 23) (kd := [0, 0, 0, 0, 1, 0, 0, 1, 0, 0, 0, 0, 1, 0, 0, 0, 0, 1, 0, 0, 0, 0, 1, 0, 0, 2, 2, 0, 0, 2]) (bef := [0, 0, 2, 6, 14, 0, 32, 96, 224, 480, 0, 1024, 3072, 7168, 16352, 0, 32768, 98304, 229376, 491520, 0, 1048576, 3145728, 7340032, 16744448, 33554400, 67108862, 134217727, 268435455, 536870911]) (ord := [0, 1, 2, 3, 4, 5, 6, 7, 8, 9, 10, 11, 12, 13, 14, 15, 16, 17, 18, 19, 20, 21, 22, 23, 24, 25, 26, 27, 28, 29]) mixed ?_
    refine OJ.go 2 [(135, .pointer a0), (134, .pointer a0)] <| OJ.nilck (d := 136) (y := .tmp 135) (fun p92 => ?_)
    refine OJ.go 1 [(137, .pointer (some (Addr.add p92 1)))] <| OJ.ld (d := 138) (y := .tmp 137) (pend2 := fun x93 => [⟨4, 58, (Addr.add p92 1), cL.val x93⟩]) Ty58 (fun _ => rfl) (fun x93 => ?_)
    refine OJ.go 1 [(139, Sl.v r89.1)] <| OJ.idxS (d := 140) (T := 51) (y := .tmp 139) (j := .const (.int .i64 0)) (E := 5) (cap := r89.1.cap) (k := .i64) (fun p94 => ?_)
    refine OJ.ld (d := 141) (y := .tmp 140) (pend2 := fun x95 => [⟨7, 5, p94, (cI .u8).val x95⟩, ⟨4, 58, (Addr.add p92 1), cL.val x93⟩]) Ty5 (fun _ => rfl) (fun x95 => ?_)
    refine OJ.go 3 [(144, Sl.v r89.1), (143, .int .i64 (IntKind.wrap .i64 (256 * (IntKind.wrap .i64 x95)))), (142, .int .i64 (IntKind.wrap .i64 x95))] <| OJ.idxS (d := 145) (T := 51) (y := .tmp 144) (j := .const (.int .i64 1)) (E := 5) (cap := r89.1.cap) (k := .i64) (fun p96 => ?_)
    refine OJ.ld (d := 146) (y := .tmp 145) (pend2 := fun x97 => [⟨12, 5, p96, (cI .u8).val x97⟩, ⟨7, 5, p94, (cI .u8).val x95⟩, ⟨4, 58, (Addr.add p92 1), cL.val x93⟩]) Ty5 (fun _ => rfl) (fun x97 => ?_)
    refine OJ.go 3 [(149, Sl.v r89.1), (148, .int .i64 (IntKind.wrap .i64 ((IntKind.wrap .i64 (256 * (IntKind.wrap .i64 x95))) + (IntKind.wrap .i64 x97)))), (147, .int .i64 (IntKind.wrap .i64 x97))] <| OJ.idxS (d := 150) (T := 51) (y := .tmp 149) (j := .const (.int .i64 2)) (E := 5) (cap := r89.1.cap) (k := .i64) (fun p98 => ?_)
    refine OJ.ld (d := 151) (y := .tmp 150) (pend2 := fun x99 => [⟨17, 5, p98, (cI .u8).val x99⟩, ⟨12, 5, p96, (cI .u8).val x97⟩, ⟨7, 5, p94, (cI .u8).val x95⟩, ⟨4, 58, (Addr.add p92 1), cL.val x93⟩]) Ty5 (fun _ => rfl) (fun x99 => ?_)
    refine OJ.go 3 [(154, Sl.v r89.1), (153, .int .i64 (IntKind.wrap .i64 (256 * (IntKind.wrap .i64 x99)))), (152, .int .i64 (IntKind.wrap .i64 x99))] <| OJ.idxS (d := 155) (T := 51) (y := .tmp 154) (j := .const (.int .i64 3)) (E := 5) (cap := r89.1.cap) (k := .i64) (fun p100 => ?_)
    refine OJ.ld (d := 156) (y := .tmp 155) (pend2 := fun x101 => [⟨22, 5, p100, (cI .u8).val x101⟩, ⟨17, 5, p98, (cI .u8).val x99⟩, ⟨12, 5, p96, (cI .u8).val x97⟩, ⟨7, 5, p94, (cI .u8).val x95⟩, ⟨4, 58, (Addr.add p92 1), cL.val x93⟩]) Ty5 (fun _ => rfl) (fun x101 => ?_)
    refine OJ.go 2 [(158, .int .i64 (IntKind.wrap .i64 ((IntKind.wrap .i64 (256 * (IntKind.wrap .i64 x99))) + (IntKind.wrap .i64 x101)))), (157, .int .i64 (IntKind.wrap .i64 x101))] <| OJ.rowSlot (d := 159) (t := 58) (parts := [(0, .tmp 148), (1, .tmp 158)]) (ps := [(0, (cI .i64).val (IntKind.wrap .i64 ((IntKind.wrap .i64 (256 * (IntKind.wrap .i64 x95))) + (IntKind.wrap .i64 x97)))), (1, (cI .i64).val (IntKind.wrap .i64 ((IntKind.wrap .i64 (256 * (IntKind.wrap .i64 x99))) + (IntKind.wrap .i64 x101))))]) (cd := (cI .i64)) (⟨[IntKind.wrap .i64 ((IntKind.wrap .i64 (256 * (IntKind.wrap .i64 x95))) + (IntKind.wrap .i64 x97)), IntKind.wrap .i64 ((IntKind.wrap .i64 (256 * (IntKind.wrap .i64 x99))) + (IntKind.wrap .i64 x101))], rfl⟩ : Vec Int 2) (owed := [⟨4, 58, (Addr.add p92 1), cL.val x93⟩]) Ty3 (Filled.cons (cd := (cI .i64)) (q := (IntKind.wrap .i64 ((IntKind.wrap .i64 (256 * (IntKind.wrap .i64 x95))) + (IntKind.wrap .i64 x97)))) (o := 0) rfl (Upd.arr (i := 0) (by decide) (by decide)) (Filled.cons (cd := (cI .i64)) (q := (IntKind.wrap .i64 ((IntKind.wrap .i64 (256 * (IntKind.wrap .i64 x99))) + (IntKind.wrap .i64 x101)))) (o := 1) rfl (Upd.arr (i := 1) (by decide) (by decide)) Filled.nil)) (fun b102 => ?_)
    refine OW.same Ty58 ?_
    refine OW.nil <| OJ.appl (d := 160) (t := 58) (u := 58) (so := .tmp 138) (xo := .tmp 159) (j := 0) (b := b102) (l := ((cI .i64).arr 2).enc (⟨[IntKind.wrap .i64 ((IntKind.wrap .i64 (256 * (IntKind.wrap .i64 x95))) + (IntKind.wrap .i64 x97)), IntKind.wrap .i64 ((IntKind.wrap .i64 (256 * (IntKind.wrap .i64 x99))) + (IntKind.wrap .i64 x101))], rfl⟩ : Vec Int 2)) (n := 2) (k := 2) [IntKind.wrap .i64 ((IntKind.wrap .i64 (256 * (IntKind.wrap .i64 x95))) + (IntKind.wrap .i64 x97)), IntKind.wrap .i64 ((IntKind.wrap .i64 (256 * (IntKind.wrap .i64 x99))) + (IntKind.wrap .i64 x101))] (owed := []) Ty3 (by rfl) (Cod.arr_enc _ _ _) (by rfl) (fun r103 => ?_)
    refine OW.nil <| OJ.nilck (d := 161) (y := .tmp 134) (fun p104 => ?_)
    refine OJ.go 1 [(162, .pointer (some (Addr.add p104 1)))] <| OJ.st (y := .tmp 162) (z := .tmp 160) (owed := []) Ty58 ?_
    refine OW.nil <| OJ.nil <| SJ.sr 9 <| OJ.go 2 [(164, .pointer a0), (163, .pointer a0)] <| OJ.nilck (d := 165) (y := .tmp 164) (fun p105 => ?_)
    refine OJ.go 1 [(166, .pointer (some p105))] <| OJ.ld (d := 167) (y := .tmp 166) (pend2 := fun x106 => []) Ty9 (fun _ => rfl) (fun x106 => ?_)
    refine OJ.go 1 [(168, .int .i64 (x106.size : Int))] <| OJ.nilck (d := 169) (y := .tmp 163) (fun p107 => ?_)
    refine OJ.go 1 [(170, .pointer (some (Addr.add p107 3)))] <| OJ.st (y := .tmp 170) (z := .tmp 168) (owed := []) Ty3 ?_
    exact OW.nil <| OJ.nil <| SJ.sr 1 <| OJ.go 1 [(2, .bool true)] <| OJ.nil <| SJ.r1 (.bool true) rfl rfl
  ·refine SJ.skip <| SJ.seq <| SJ.sr 7 <| OJ.go 2 [(172, .pointer a0), (171, .int .i64 s3)] <| OJ.nilck (d := 173) (y := .tmp 172) (fun p109 => ?_)
   refine OJ.go 1 [(174, .pointer (some (Addr.add p109 3)))] <| OJ.ld (d := 175) (y := .tmp 174) (pend2 := fun x110 => []) Ty3 (fun _ => rfl) (fun x110 => ?_)
   refine OJ.go 2 [(177, .bool (decide ((IntKind.wrap .i64 (s3 - x110)) > 4))), (176, .int .i64 (IntKind.wrap .i64 (s3 - x110)))] <| OJ.nil <| SJ.cond (t := (.tmp 177)) (b := decide ((IntKind.wrap .i64 (s3 - x110)) > 4)) decide_eq_true_iff (fun hc125 => ?_) (fun hc125 => ?_)
   ·refine SJ.sr 6 <| OJ.go 2 [(179, .pointer a0), (178, .pointer a0)] <| OJ.nilck (d := 180) (y := .tmp 179) (fun p114 => ?_)
    refine OJ.go 1 [(181, .pointer (some (Addr.add p114 3)))] <| OJ.ld (d := 182) (y := .tmp 181) (pend2 := fun x115 => []) Ty3 (fun _ => rfl) (fun x115 => ?_)
    refine OJ.call (d := 183) (g := 97) (ats := #[145, 3, 3]) (args := [.tmp 178, .const (.int .i64 43), .tmp 182]) (owed := []) F97 (r4_six_fail_ok a0 43 x115) (fun r116 => ?_)
    exact OW.nil <| OJ.nil <| SJ.sr 1 <| OJ.go 1 [(2, .bool true)] <| OJ.nil <| SJ.r1 (.bool true) rfl rfl
   ·refine SJ.skip <| SJ.sr 11 <| OJ.go 2 [(185, .pointer a0), (184, .pointer a0)] <| OJ.nilck (d := 186) (y := .tmp 185) (fun p117 => ?_)
    refine OJ.go 1 [(187, .pointer (some (Addr.add p117 1)))] <| OJ.ld (d := 188) (y := .tmp 187) (pend2 := fun x118 => []) Ty58 (fun _ => rfl) (fun x118 => ?_)
    refine OJ.go 1 [(189, .int .i64 s4)] <| OJ.rowSlot (d := 190) (t := 58) (parts := [(0, .tmp 189)]) (ps := [(0, (cI .i64).val s4)]) (cd := (cI .i64)) (⟨[s4], rfl⟩ : Vec Int 1) (owed := []) Ty3 (Filled.cons (cd := (cI .i64)) (q := s4) (o := 0) rfl (Upd.arr (i := 0) (by decide) (by decide)) Filled.nil) (fun b119 => ?_)
    refine OW.nil <| OJ.appl (d := 191) (t := 58) (u := 58) (so := .tmp 188) (xo := .tmp 190) (j := 0) (b := b119) (l := ((cI .i64).arr 1).enc (⟨[s4], rfl⟩ : Vec Int 1)) (n := 1) (k := 1) [s4] (owed := []) Ty3 (by rfl) (Cod.arr_enc _ _ _) (by rfl) (fun r120 => ?_)
    refine OW.nil <| OJ.nilck (d := 192) (y := .tmp 184) (fun p121 => ?_)
    refine OJ.go 1 [(193, .pointer (some (Addr.add p121 1)))] <| OJ.st (y := .tmp 193) (z := .tmp 191) (owed := []) Ty58 ?_
    refine OW.nil <| OJ.nil <| SJ.sr 5 <| OJ.go 2 [(195, .int .i64 s3), (194, .pointer a0)] <| OJ.nilck (d := 196) (y := .tmp 194) (fun p122 => ?_)
    refine OJ.go 1 [(197, .pointer (some (Addr.add p122 3)))] <| OJ.st (y := .tmp 197) (z := .tmp 195) (owed := []) Ty3 ?_
    refine OW.nil <| OJ.nil <| SJ.sr 8 <| OJ.go 2 [(199, .pointer a0), (198, .int .i64 s3)] <| OJ.nilck (d := 200) (y := .tmp 199) (fun p123 => ?_)
    refine OJ.go 1 [(201, .pointer (some p123))] <| OJ.ld (d := 202) (y := .tmp 201) (pend2 := fun x124 => []) Ty9 (fun _ => rfl) (fun x124 => ?_)
    exact OJ.go 3 [(2, .bool (s3 == (x124.size : Int))), (204, .bool (s3 == (x124.size : Int))), (203, .int .i64 (x124.size : Int))] <| OJ.nil <| SJ.r1 (.bool (s3 == (x124.size : Int))) rfl rfl
noncomputable def r4_six_group.K2 (a0 : (Option Addr)) (s3 : Int) (s4 : Int) : M Bool :=
 nilck a0 >>= fun p27 =>
 ld (cI .i64) (Addr.add p27 3) >>= fun x28 =>
 if s3 = x28 then
  draw >>= fun _ =>
  nilck a0 >>= fun p35 =>
  ld cS p35 >>= fun x36 =>
  nilck a0 >>= fun p37 =>
  ld (cI .i64) (Addr.add p37 3) >>= fun x38 =>
  r4_here x36 x38 >>= fun r39 =>
  r4_six_fail a0 r39.1 r39.2 >>= fun r40 =>
  pure true
 else
  nilck a0 >>= fun p41 =>
  ld cS p41 >>= fun x42 =>
  (if s3 < (x42.size : Int) then
    nilck a0 >>= fun p43 =>
    ld cS p43 >>= fun x44 =>
    chk ((0 : Int) ≤ s3 ∧ s3 < (x44.size : Int)) >>= fun _ =>
    pure ((sb x44 s3) == 46)
   else
    pure false) >>= fun y47 =>
  (if y47 = true then
    nilck a0 >>= fun p48 =>
    ld (cI .i64) (Addr.add p48 3) >>= fun x49 =>
    pure (decide (x49 > 0))
   else
    pure false) >>= fun y50 =>
  if y50 = true then
   r4_six_group.K1 a0 s3 s4 y50 2
  else
   r4_six_group.K1 a0 s3 s4 y50 1
theorem r4_six_group.K2_ok (a0 : (Option Addr)) (s3 : Int) (s4 : Int) :
  SJ r4_six_group.cx [.code (c2 (c2 (c2 (c2 r4_six_group.B))))] [(0, .pointer a0), (3, .int .i64 s3), (4, .int .i64 s4)] [] (r4_six_group.K2 a0 s3 s4) r4_six_group.F0 := by
 unfold r4_six_group.K2
 refine SJ.seq <| SJ.sr 6 <| OJ.go 2 [(53, .pointer a0), (52, .int .i64 s3)] <| OJ.nilck (d := 54) (y := .tmp 53) (fun p27 => ?_)
 refine OJ.go 1 [(55, .pointer (some (Addr.add p27 3)))] <| OJ.ld (d := 56) (y := .tmp 55) (pend2 := fun x28 => []) Ty3 (fun _ => rfl) (fun x28 => ?_)
 refine OJ.go 1 [(57, .bool (s3 == x28))] <| OJ.nil <| SJ.cond (t := (.tmp 57)) (b := (s3 == x28)) beq_iff_eq (fun hc129 => ?_) (fun hc129 => ?_)
 ·refine SJ.seq <| SJ.draw (id := 8) (kd := [0, 0, 0, 1, 0, 0, 0, 1, 2, 0, 0, 0, 0, 0]) (bef := [0, 1, 3, 7, 0, 16, 48, 112, 255, 511, 1023, 1023, 2047, 8191]) (ord := [0, 1, 2, 3, 4, 5, 6, 7, 8, 9, 10, 11, 12, 13]) mixed ?_
  refine OJ.go 1 [(59, .pointer a0)] <| OJ.nilck (d := 60) (y := .tmp 59) (fun p35 => ?_)
  refine OJ.go 1 [(61, .pointer (some p35))] <| OJ.ld (d := 62) (y := .tmp 61) (pend2 := fun x36 => [⟨3, 9, p35, cS.val x36⟩]) Ty9 (fun _ => rfl) (fun x36 => ?_)
  refine OJ.go 1 [(63, .pointer a0)] <| OJ.nilck (d := 64) (y := .tmp 63) (fun p37 => ?_)
  refine OJ.go 1 [(65, .pointer (some (Addr.add p37 3)))] <| OJ.ld (d := 66) (y := .tmp 65) (pend2 := fun x38 => [⟨7, 3, (Addr.add p37 3), (cI .i64).val x38⟩, ⟨3, 9, p35, cS.val x36⟩]) Ty3 (fun _ => rfl) (fun x38 => ?_)
  refine OJ.call (d := 67) (g := 71) (ats := #[9, 3]) (args := [.tmp 62, .tmp 66]) (owed := []) F71 (r4_here_ok x36 x38) (fun r39 => ?_)
  refine OW.nil <| OJ.go 5 [(6, .int .i64 r39.2), (5, .int .i64 r39.1), (69, .int .i64 r39.2), (68, .int .i64 r39.1), (58, .tuple #[.int .i64 r39.1, .int .i64 r39.2])] <| OJ.nil <| SJ.sr 4 <| OJ.go 3 [(72, .int .i64 r39.2), (71, .int .i64 r39.1), (70, .pointer a0)] <| OJ.call (d := 73) (g := 97) (ats := #[145, 3, 3]) (args := [.tmp 70, .tmp 71, .tmp 72]) (owed := []) F97 (r4_six_fail_ok a0 r39.1 r39.2) (fun r40 => ?_)
  exact OW.nil <| OJ.nil <| SJ.sr 1 <| OJ.go 1 [(2, .bool true)] <| OJ.nil <| SJ.r1 (.bool true) rfl rfl
 ·refine SJ.skip <| SJ.sr 24 <| OJ.go 2 [(75, .pointer a0), (74, .int .i64 s3)] <| OJ.nilck (d := 76) (y := .tmp 75) (fun p41 => ?_)
  refine OJ.go 1 [(77, .pointer (some p41))] <| OJ.ld (d := 78) (y := .tmp 77) (pend2 := fun x42 => []) Ty9 (fun _ => rfl) (fun x42 => ?_)
  refine OJ.go 3 [(81, .bool (decide (s3 < (x42.size : Int)))), (80, .bool (decide (s3 < (x42.size : Int)))), (79, .int .i64 (x42.size : Int))] <| OJ.join (b := decide (s3 < (x42.size : Int))) [8, 9, 10, 11, 12, 13, 14, 15] [16, 17, 18, 19, 20, 21, 22, 23] [0, 3, 4, 89] (fun y47 => [(0, .pointer a0), (3, .int .i64 s3), (4, .int .i64 s4), (89, .bool y47)]) [] [] (t := 81) decide_eq_true_iff (fun hp_ => ?_) (fun hp_ => ?_) (fun _ _ _ _ _ _ h_ => h_) (fun y47 => ?_)
  ·refine OJ.go 1 [(82, .pointer a0)] <| OJ.nilck (d := 83) (y := .tmp 82) (fun p43 => ?_)
   refine OJ.go 1 [(84, .pointer (some p43))] <| OJ.ld (d := 85) (y := .tmp 84) (pend2 := fun x44 => []) Ty9 (fun _ => rfl) (fun x44 => ?_)
   refine OJ.go 1 [(86, .int .i64 s3)] <| OJ.idxT (d := 87) (T := 9) (y := .tmp 85) (j := .tmp 86) (k := .i64) (fun hb45 hb46 => ?_)
   exact OJ.go 2 [(89, .bool ((sb x44 s3) == 46)), (88, .bool ((sb x44 s3) == 46))] <| OJ.x0
  ·exact OJ.go 8 [(89, .bool false), (88, undef), (87, undef), (86, undef), (85, undef), (84, undef), (83, undef), (82, undef)] <| OJ.x0
  ·refine OJ.go 1 [(90, .bool y47)] <| OJ.join (b := y47) [17, 18, 19, 20, 21, 22] [23] [0, 3, 4, 96] (fun y50 => [(0, .pointer a0), (3, .int .i64 s3), (4, .int .i64 s4), (96, .bool y50)]) [] [] (t := 90) Iff.rfl (fun hp_ => ?_) (fun hp_ => ?_) (fun _ _ _ _ _ _ h_ => h_) (fun y50 => ?_)
   ·refine OJ.go 1 [(91, .pointer a0)] <| OJ.nilck (d := 92) (y := .tmp 91) (fun p48 => ?_)
    refine OJ.go 1 [(93, .pointer (some (Addr.add p48 3)))] <| OJ.ld (d := 94) (y := .tmp 93) (pend2 := fun x49 => []) Ty3 (fun _ => rfl) (fun x49 => ?_)
    exact OJ.go 2 [(96, .bool (decide (x49 > 0))), (95, .bool (decide (x49 > 0)))] <| OJ.x0
   ·exact OJ.go 6 [(96, .bool false), (95, undef), (94, undef), (93, undef), (92, undef), (91, undef)] <| OJ.x0
   ·refine OJ.go 1 [(7, .bool y50)] <| OJ.nil <| SJ.sr 1 <| OJ.go 1 [(8, .int .i64 1)] <| OJ.nil <| SJ.seq <| SJ.sr 1 <| OJ.go 1 [(97, .bool y50)] <| OJ.nil <| SJ.cond (t := (.tmp 97)) (b := y50) Iff.rfl (fun hc128 => ?_) (fun hc128 => ?_)
    ·refine SJ.rg 1 <| OJ.go 1 [(8, .int .i64 2)] <| OJ.nil <| SJ.less [0, 3, 4, 7, 8] (m' := [(0, .pointer a0), (3, .int .i64 s3), (4, .int .i64 s4), (7, .bool y50), (8, .int .i64 2)]) ?_
     exact r4_six_group.K1_ok a0 s3 s4 y50 2
    ·refine SJ.skip <| SJ.less [0, 3, 4, 7, 8] (m' := [(0, .pointer a0), (3, .int .i64 s3), (4, .int .i64 s4), (7, .bool y50), (8, .int .i64 1)]) ?_
     exact r4_six_group.K1_ok a0 s3 s4 y50 1
noncomputable def r4_six_group.F1 (a0 : (Option Addr)) : (LS (Int × Int) Bool) → Reach := loopF [.inLoop (c1 (c1 (c1 (c2 (c2 (c2 r4_six_group.B)))))), .inBlock 0, .code (c2 (c2 (c2 (c2 r4_six_group.B))))] (fun s_ : (Int × Int) => [(0, .pointer a0), (3, .int .i64 s_.1), (4, .int .i64 s_.2)]) (fun s_ : (Int × Int) => []) r4_six_group.F0
noncomputable def r4_six_group.L1 (a0 : (Option Addr)) (s3 : Int) (s4 : Int) : M (LS (Int × Int) Bool) :=
 nilck a0 >>= fun p130 =>
 ld cS p130 >>= fun x131 =>
 (if s3 < (x131.size : Int) then
   nilck a0 >>= fun p132 =>
   ld cS p132 >>= fun x133 =>
   chk ((0 : Int) ≤ s3 ∧ s3 < (x133.size : Int)) >>= fun _ =>
   r4_worth (sb x133 s3) >>= fun r136 =>
   pure (decide (r136 ≥ 0))
  else
   pure false) >>= fun y137 =>
 if y137 = true then
  nilck a0 >>= fun p138 =>
  ld (cI .i64) (Addr.add p138 3) >>= fun x139 =>
  if (IntKind.wrap .i64 (s3 - x139)) < 4 then
   nilck a0 >>= fun p145 =>
   ld cS p145 >>= fun x146 =>
   chk ((0 : Int) ≤ s3 ∧ s3 < (x146.size : Int)) >>= fun _ =>
   r4_worth (sb x146 s3) >>= fun r149 =>
   pure (LS.next (IntKind.wrap .i64 (s3 + 1), IntKind.wrap .i64 ((IntKind.wrap .i64 (16 * s4)) + r149)))
  else
   pure (LS.next (IntKind.wrap .i64 (s3 + 1), s4))
 else
  (r4_six_group.K2 a0 s3 s4) >>= fun b => pure (LS.done b)
theorem r4_six_group.L1_ok (a0 : (Option Addr)) (s3 : Int) (s4 : Int) :
  SJ r4_six_group.cx [.code (c1 (c1 (c1 (c2 (c2 (c2 r4_six_group.B)))))), .inLoop (c1 (c1 (c1 (c2 (c2 (c2 r4_six_group.B)))))), .inBlock 0, .code (c2 (c2 (c2 (c2 r4_six_group.B))))] [(0, .pointer a0), (3, .int .i64 s3), (4, .int .i64 s4)] [] (r4_six_group.L1 a0 s3 s4) (r4_six_group.F1 a0) := by
 unfold r4_six_group.L1
 refine SJ.seq <| SJ.sr 17 <| OJ.go 2 [(17, .pointer a0), (16, .int .i64 s3)] <| OJ.nilck (d := 18) (y := .tmp 17) (fun p130 => ?_)
 refine OJ.go 1 [(19, .pointer (some p130))] <| OJ.ld (d := 20) (y := .tmp 19) (pend2 := fun x131 => []) Ty9 (fun _ => rfl) (fun x131 => ?_)
 refine OJ.go 3 [(23, .bool (decide (s3 < (x131.size : Int)))), (22, .bool (decide (s3 < (x131.size : Int)))), (21, .int .i64 (x131.size : Int))] <| OJ.join (b := decide (s3 < (x131.size : Int))) [8, 9, 10, 11, 12, 13, 14, 15, 16] [] [0, 3, 4, 32] (fun y137 => [(0, .pointer a0), (3, .int .i64 s3), (4, .int .i64 s4), (32, .bool y137)]) [] [] (t := 23) decide_eq_true_iff (fun hp_ => ?_) (fun hp_ => ?_) (fun _ _ _ _ _ _ h_ => h_) (fun y137 => ?_)
 ·refine OJ.go 1 [(24, .pointer a0)] <| OJ.nilck (d := 25) (y := .tmp 24) (fun p132 => ?_)
  refine OJ.go 1 [(26, .pointer (some p132))] <| OJ.ld (d := 27) (y := .tmp 26) (pend2 := fun x133 => []) Ty9 (fun _ => rfl) (fun x133 => ?_)
  refine OJ.go 1 [(28, .int .i64 s3)] <| OJ.idxT (d := 29) (T := 9) (y := .tmp 27) (j := .tmp 28) (k := .i64) (fun hb134 hb135 => ?_)
  refine OJ.call (d := 30) (g := 75) (ats := #[5]) (args := [.tmp 29]) (owed := []) F75 (r4_worth_ok (sb x133 s3)) (fun r136 => ?_)
  exact OW.nil <| OJ.go 2 [(32, .bool (decide (r136 ≥ 0))), (31, .bool (decide (r136 ≥ 0)))] <| OJ.x0
 ·exact OJ.go 9 [(32, .bool false), (31, undef), (30, undef), (29, undef), (28, undef), (27, undef), (26, undef), (25, undef), (24, undef)] <| OJ.x0
 ·refine OJ.nil <| SJ.cond (t := (.tmp 32)) (b := y137) Iff.rfl (fun hc151 => ?_) (fun hc151 => ?_)
  ·refine SJ.skip <| SJ.block (id := 1) <| SJ.seq <| SJ.sr 7 <| OJ.go 2 [(34, .pointer a0), (33, .int .i64 s3)] <| OJ.nilck (d := 35) (y := .tmp 34) (fun p138 => ?_)
   refine OJ.go 1 [(36, .pointer (some (Addr.add p138 3)))] <| OJ.ld (d := 37) (y := .tmp 36) (pend2 := fun x139 => []) Ty3 (fun _ => rfl) (fun x139 => ?_)
   refine OJ.go 2 [(39, .bool (decide ((IntKind.wrap .i64 (s3 - x139)) < 4))), (38, .int .i64 (IntKind.wrap .i64 (s3 - x139)))] <| OJ.nil <| SJ.cond (t := (.tmp 39)) (b := decide ((IntKind.wrap .i64 (s3 - x139)) < 4)) decide_eq_true_iff (fun hc150 => ?_) (fun hc150 => ?_)
   ·refine SJ.rg 11 <| OJ.go 3 [(42, .pointer a0), (41, .int .i64 (IntKind.wrap .i64 (16 * s4))), (40, .int .i64 s4)] <| OJ.nilck (d := 43) (y := .tmp 42) (fun p145 => ?_)
    refine OJ.go 1 [(44, .pointer (some p145))] <| OJ.ld (d := 45) (y := .tmp 44) (pend2 := fun x146 => []) Ty9 (fun _ => rfl) (fun x146 => ?_)
    refine OJ.go 1 [(46, .int .i64 s3)] <| OJ.idxT (d := 47) (T := 9) (y := .tmp 45) (j := .tmp 46) (k := .i64) (fun hb147 hb148 => ?_)
    refine OJ.call (d := 48) (g := 75) (ats := #[5]) (args := [.tmp 47]) (owed := []) F75 (r4_worth_ok (sb x146 s3)) (fun r149 => ?_)
    exact OW.nil <| OJ.go 2 [(4, .int .i64 (IntKind.wrap .i64 ((IntKind.wrap .i64 (16 * s4)) + r149))), (49, .int .i64 (IntKind.wrap .i64 ((IntKind.wrap .i64 (16 * s4)) + r149)))] <| OJ.nil <| SJ.rg 3 <| OJ.go 3 [(3, .int .i64 (IntKind.wrap .i64 (s3 + 1))), (51, .int .i64 (IntKind.wrap .i64 (s3 + 1))), (50, .int .i64 s3)] <| OJ.nil <| SJ.inBlock <| SJ.at_ [0, 3, 4] rfl
   ·exact SJ.skip <| SJ.rg 3 <| OJ.go 3 [(3, .int .i64 (IntKind.wrap .i64 (s3 + 1))), (51, .int .i64 (IntKind.wrap .i64 (s3 + 1))), (50, .int .i64 s3)] <| OJ.nil <| SJ.inBlock <| SJ.at_ [0, 3, 4] rfl
  ·refine SJ.exit (id := 0) (by rfl) <| SJ.less [0, 3, 4] (m' := [(0, .pointer a0), (3, .int .i64 s3), (4, .int .i64 s4)]) ?_
   refine SJ.done ?_
   exact r4_six_group.K2_ok a0 s3 s4
noncomputable def r4_six_group (a0 : (Option Addr)) : M Bool :=
 nilck a0 >>= fun p1 =>
 ld (cI .i64) (Addr.add p1 3) >>= fun x2 =>
 loopM (fun s_ : (Int × Int) => r4_six_group.L1 a0 s_.1 s_.2) (x2, 0)
theorem r4_six_group_ok (a0 : (Option Addr)) : Ref Tryz.prog 95 [.pointer a0] (r4_six_group a0) r4_six_group.out := by
 refine Ref.of (cd := r4_six_group.B) Tryz.func95 ?_
 show SJ r4_six_group.cx [.code r4_six_group.B] [(0, .pointer a0)] [] (r4_six_group a0) r4_six_group.F0
 unfold r4_six_group
 refine SJ.sr 1 <| OJ.go 1 [(2, .bool false)] <| OJ.nil <| SJ.sr 5 <| OJ.go 1 [(12, .pointer a0)] <| OJ.nilck (d := 13) (y := .tmp 12) (fun p1 => ?_)
 refine OJ.go 1 [(14, .pointer (some (Addr.add p1 3)))] <| OJ.ld (d := 15) (y := .tmp 14) (pend2 := fun x2 => []) Ty3 (fun _ => rfl) (fun x2 => ?_)
 exact OJ.go 1 [(3, .int .i64 x2)] <| OJ.nil <| SJ.sr 1 <| OJ.go 1 [(4, .int .i64 0)] <| OJ.nil <| SJ.seq <| SJ.block (id := 0) <| SJ.loop (fun s_ : (Int × Int) => [(0, .pointer a0), (3, .int .i64 s_.1), (4, .int .i64 s_.2)]) (fun s_ : (Int × Int) => []) [0, 3, 4] rfl (fun _ _ => rfl) (fun s_ => r4_six_group.L1_ok a0 s_.1 s_.2)

/-! ### (*weir/weirref4.six).between: function 96 -/
noncomputable def r4_six_between.B : Code := (Tryz.f96.body).getD .skip
noncomputable def r4_six_between.cx : Fx := ⟨Tryz.prog, 96, Tryz.f96⟩
noncomputable def r4_six_between.out (r_ : Bool) : Value := .bool r_
noncomputable def r4_six_between.F0 (r_ : Bool) : Reach := .ret (r4_six_between.out r_)
noncomputable def r4_six_between (a0 : (Option Addr)) : M Bool :=
 draw >>= fun _ =>
 nilck a0 >>= fun p1 =>
 ld cS p1 >>= fun x2 =>
 nilck a0 >>= fun p3 =>
 ld (cI .i64) (Addr.add p3 3) >>= fun x4 =>
 r4_two x2 x4 >>= fun r5 =>
 (if r5 = true then
   nilck a0 >>= fun p6 =>
   ld (cI .i64) (Addr.add p6 2) >>= fun x7 =>
   (if x7 ≥ 0 then
     pure true
    else
     nilck a0 >>= fun p8 =>
     ld cL (Addr.add p8 1) >>= fun x9 =>
     pure ((x9.len : Int) == 8)) >>= fun y10 =>
   pure y10
  else
   pure false) >>= fun y11 =>
 if y11 = true then
  nilck a0 >>= fun p74 =>
  ld (cI .i64) (Addr.add p74 3) >>= fun x75 =>
  r4_six_fail a0 44 x75 >>= fun r76 =>
  pure false
 else
  if r5 = true then
   nilck a0 >>= fun p106 =>
   ld cL (Addr.add p106 1) >>= fun x107 =>
   nilck a0 >>= fun p108 =>
   st (cI .i64) (Addr.add p108 2) (x107.len : Int) >>= fun _ =>
   nilck a0 >>= fun p109 =>
   ld (cI .i64) (Addr.add p109 3) >>= fun x110 =>
   nilck a0 >>= fun p111 =>
   st (cI .i64) (Addr.add p111 3) (IntKind.wrap .i64 (x110 + 2)) >>= fun _ =>
   draw >>= fun _ =>
   nilck a0 >>= fun p112 =>
   ld (cI .i64) (Addr.add p112 3) >>= fun x113 =>
   nilck a0 >>= fun p114 =>
   ld cS p114 >>= fun x115 =>
   pure (x113 == (x115.size : Int))
  else
   draw >>= fun _ =>
   nilck a0 >>= fun p116 =>
   ld cS p116 >>= fun x117 =>
   nilck a0 >>= fun p118 =>
   ld (cI .i64) (Addr.add p118 3) >>= fun x119 =>
   chk ((0 : Int) ≤ x119 ∧ x119 < (x117.size : Int)) >>= fun _ =>
   if (sb x117 x119) = 58 then
    nilck a0 >>= fun p128 =>
    ld (cI .i64) (Addr.add p128 3) >>= fun x129 =>
    nilck a0 >>= fun p130 =>
    st (cI .i64) (Addr.add p130 3) (IntKind.wrap .i64 (x129 + 1)) >>= fun _ =>
    pure false
   else
    nilck a0 >>= fun p131 =>
    ld (cI .i64) (Addr.add p131 3) >>= fun x132 =>
    r4_six_fail a0 41 x132 >>= fun r133 =>
    pure false
theorem r4_six_between_ok (a0 : (Option Addr)) : Ref Tryz.prog 96 [.pointer a0] (r4_six_between a0) r4_six_between.out := by
 refine Ref.of (cd := r4_six_between.B) Tryz.func96 ?_
 show SJ r4_six_between.cx [.code r4_six_between.B] [(0, .pointer a0)] [] (r4_six_between a0) r4_six_between.F0
 unfold r4_six_between
 refine SJ.sr 1 <| OJ.go 1 [(2, .bool false)] <| OJ.nil <| SJ.seq <| SJ.draw (id := 1) (kd := [0, 0, 0, 1, 0, 0, 0, 1, 2, 0]) (bef := [0, 1, 3, 7, 0, 16, 48, 112, 255, 511]) (ord := [0, 1, 2, 3, 4, 5, 6, 7, 8, 9]) mixed ?_
 refine OJ.go 1 [(4, .pointer a0)] <| OJ.nilck (d := 5) (y := .tmp 4) (fun p1 => ?_)
 refine OJ.go 1 [(6, .pointer (some p1))] <| OJ.ld (d := 7) (y := .tmp 6) (pend2 := fun x2 => [⟨3, 9, p1, cS.val x2⟩]) Ty9 (fun _ => rfl) (fun x2 => ?_)
 refine OJ.go 1 [(8, .pointer a0)] <| OJ.nilck (d := 9) (y := .tmp 8) (fun p3 => ?_)
 refine OJ.go 1 [(10, .pointer (some (Addr.add p3 3)))] <| OJ.ld (d := 11) (y := .tmp 10) (pend2 := fun x4 => [⟨7, 3, (Addr.add p3 3), (cI .i64).val x4⟩, ⟨3, 9, p1, cS.val x2⟩]) Ty3 (fun _ => rfl) (fun x4 => ?_)
 refine OJ.call (d := 12) (g := 94) (ats := #[9, 3]) (args := [.tmp 7, .tmp 11]) (owed := []) F94 (r4_two_ok x2 x4) (fun r5 => ?_)
 refine OW.nil <| OJ.go 1 [(3, .bool r5)] <| OJ.nil <| SJ.seq <| SJ.block (id := 0) <| SJ.sr 17 <| OJ.go 2 [(21, .bool r5), (20, .bool r5)] <| OJ.join (b := r5) [2, 3, 4, 5, 6, 7, 8, 9, 10, 11, 12, 13, 14, 15] [16] [0, 3, 35] (fun y11 => [(0, .pointer a0), (3, .bool r5), (35, .bool y11)]) [] [] (t := 21) Iff.rfl (fun hp_ => ?_) (fun hp_ => ?_) (fun _ _ _ _ _ _ h_ => h_) (fun y11 => ?_)
 ·refine OJ.go 1 [(22, .pointer a0)] <| OJ.nilck (d := 23) (y := .tmp 22) (fun p6 => ?_)
  refine OJ.go 1 [(24, .pointer (some (Addr.add p6 2)))] <| OJ.ld (d := 25) (y := .tmp 24) (pend2 := fun x7 => []) Ty3 (fun _ => rfl) (fun x7 => ?_)
  refine OJ.go 2 [(27, .bool (decide (x7 ≥ 0))), (26, .bool (decide (x7 ≥ 0)))] <| OJ.join (b := decide (x7 ≥ 0)) [8, 9, 10, 11, 12, 13, 14] [15] [0, 3, 21, 34] (fun y10 => [(0, .pointer a0), (3, .bool r5), (21, .bool true), (34, .bool y10)]) [] [] (t := 27) decide_eq_true_iff (fun hp_ => ?_) (fun hp_ => ?_) (fun _ _ _ _ _ hq_ h_ => ⟨fun e_ he_ => (hq_ e_ he_).elim (fun h => h_.1 e_ h) (fun h => nomatch h), h_.2⟩) (fun y10 => ?_)
  ·exact OJ.go 7 [(34, .bool true), (33, undef), (32, undef), (31, undef), (30, undef), (29, undef), (28, undef)] <| OJ.x0
  ·refine OJ.go 1 [(28, .pointer a0)] <| OJ.nilck (d := 29) (y := .tmp 28) (fun p8 => ?_)
   refine OJ.go 1 [(30, .pointer (some (Addr.add p8 1)))] <| OJ.ld (d := 31) (y := .tmp 30) (pend2 := fun x9 => []) Ty58 (fun _ => rfl) (fun x9 => ?_)
   exact OJ.go 3 [(34, .bool ((x9.len : Int) == 8)), (33, .bool ((x9.len : Int) == 8)), (32, .int .i64 (x9.len : Int))] <| OJ.x0
  ·exact OJ.go 1 [(35, .bool y10)] <| OJ.x0
 ·exact OJ.go 14 [(35, .bool false), (34, undef), (33, undef), (32, undef), (31, undef), (30, undef), (29, undef), (28, undef), (27, undef), (26, undef), (25, undef), (24, undef), (23, undef), (22, undef)] <| OJ.x0
 ·refine OJ.go 1 [(19, .bool y11)] <| OJ.nil <| SJ.cond (t := (.tmp 19)) (b := y11) Iff.rfl (fun hc136 => ?_) (fun hc136 => ?_)
  ·refine SJ.rg 6 <| OJ.go 2 [(37, .pointer a0), (36, .pointer a0)] <| OJ.nilck (d := 38) (y := .tmp 37) (fun p74 => ?_)
   refine OJ.go 1 [(39, .pointer (some (Addr.add p74 3)))] <| OJ.ld (d := 40) (y := .tmp 39) (pend2 := fun x75 => []) Ty3 (fun _ => rfl) (fun x75 => ?_)
   refine OJ.call (d := 41) (g := 97) (ats := #[145, 3, 3]) (args := [.tmp 36, .const (.int .i64 44), .tmp 40]) (owed := []) F97 (r4_six_fail_ok a0 44 x75) (fun r76 => ?_)
   exact OW.nil <| OJ.nil <| SJ.inBlock <| SJ.sr 1 <| OJ.go 1 [(2, .bool false)] <| OJ.nil <| SJ.r1 (.bool false) rfl rfl
  ·refine SJ.sr 2 <| OJ.go 2 [(42, .bool r5), (43, .bool r5)] <| OJ.nil <| SJ.cond (t := (.tmp 42)) (b := r5) Iff.rfl (fun hc135 => ?_) (fun hc135 => ?_)
   ·refine SJ.sr 9 <| OJ.go 2 [(45, .pointer a0), (44, .pointer a0)] <| OJ.nilck (d := 46) (y := .tmp 45) (fun p106 => ?_)
    refine OJ.go 1 [(47, .pointer (some (Addr.add p106 1)))] <| OJ.ld (d := 48) (y := .tmp 47) (pend2 := fun x107 => []) Ty58 (fun _ => rfl) (fun x107 => ?_)
    refine OJ.go 1 [(49, .int .i64 (x107.len : Int))] <| OJ.nilck (d := 50) (y := .tmp 44) (fun p108 => ?_)
    refine OJ.go 1 [(51, .pointer (some (Addr.add p108 2)))] <| OJ.st (y := .tmp 51) (z := .tmp 49) (owed := []) Ty3 ?_
    refine OW.nil <| OJ.nil <| SJ.sr 9 <| OJ.go 2 [(53, .pointer a0), (52, .pointer a0)] <| OJ.nilck (d := 54) (y := .tmp 53) (fun p109 => ?_)
    refine OJ.go 1 [(55, .pointer (some (Addr.add p109 3)))] <| OJ.ld (d := 56) (y := .tmp 55) (pend2 := fun x110 => []) Ty3 (fun _ => rfl) (fun x110 => ?_)
    refine OJ.go 1 [(57, .int .i64 (IntKind.wrap .i64 (x110 + 2)))] <| OJ.nilck (d := 58) (y := .tmp 52) (fun p111 => ?_)
    refine OJ.go 1 [(59, .pointer (some (Addr.add p111 3)))] <| OJ.st (y := .tmp 59) (z := .tmp 57) (owed := []) Ty3 ?_
    refine OW.nil <| OJ.nil <| SJ.seq <| SJ.draw (id := 8) (kd := [0, 0, 0, 1, 0, 0, 0, 1, 0, 0, 0]) (bef := [0, 1, 3, 7, 0, 16, 48, 112, 240, 511, 1023]) (ord := [0, 1, 2, 3, 4, 5, 6, 7, 8, 9, 10]) mixed ?_
    refine OJ.go 1 [(60, .pointer a0)] <| OJ.nilck (d := 61) (y := .tmp 60) (fun p112 => ?_)
    refine OJ.go 1 [(62, .pointer (some (Addr.add p112 3)))] <| OJ.ld (d := 63) (y := .tmp 62) (pend2 := fun x113 => [⟨3, 3, (Addr.add p112 3), (cI .i64).val x113⟩]) Ty3 (fun _ => rfl) (fun x113 => ?_)
    refine OJ.go 1 [(64, .pointer a0)] <| OJ.nilck (d := 65) (y := .tmp 64) (fun p114 => ?_)
    refine OJ.go 1 [(66, .pointer (some p114))] <| OJ.ld (d := 67) (y := .tmp 66) (pend2 := fun x115 => [⟨7, 9, p114, cS.val x115⟩, ⟨3, 3, (Addr.add p112 3), (cI .i64).val x113⟩]) Ty9 (fun _ => rfl) (fun x115 => ?_)
    exact OJ.go 3 [(2, .bool (x113 == (x115.size : Int))), (69, .bool (x113 == (x115.size : Int))), (68, .int .i64 (x115.size : Int))] <| OJ.nil <| SJ.r1 (.bool (x113 == (x115.size : Int))) rfl rfl
   ·refine SJ.seq <| SJ.draw (id := 9) (kd := [0, 0, 0, 1, 0, 0, 0, 1, 0, 0, 0]) (bef := [0, 1, 3, 7, 0, 16, 48, 112, 255, 511, 1023]) (ord := [0, 1, 2, 3, 4, 5, 6, 7, 8, 9, 10]) mixed ?_
    refine OJ.go 1 [(71, .pointer a0)] <| OJ.nilck (d := 72) (y := .tmp 71) (fun p116 => ?_)
    refine OJ.go 1 [(73, .pointer (some p116))] <| OJ.ld (d := 74) (y := .tmp 73) (pend2 := fun x117 => [⟨3, 9, p116, cS.val x117⟩]) Ty9 (fun _ => rfl) (fun x117 => ?_)
    refine OJ.go 1 [(75, .pointer a0)] <| OJ.nilck (d := 76) (y := .tmp 75) (fun p118 => ?_)
    refine OJ.go 1 [(77, .pointer (some (Addr.add p118 3)))] <| OJ.ld (d := 78) (y := .tmp 77) (pend2 := fun x119 => [⟨7, 3, (Addr.add p118 3), (cI .i64).val x119⟩, ⟨3, 9, p116, cS.val x117⟩]) Ty3 (fun _ => rfl) (fun x119 => ?_)
    refine OJ.idxT (d := 79) (T := 9) (y := .tmp 74) (j := .tmp 78) (k := .i64) (fun hb120 hb121 => ?_)
    refine OJ.go 2 [(70, .bool ((sb x117 x119) == 58)), (80, .bool ((sb x117 x119) == 58))] <| OJ.nil <| SJ.cond (t := (.tmp 70)) (b := ((sb x117 x119) == 58)) beq_iff_eq (fun hc134 => ?_) (fun hc134 => ?_)
    ·refine SJ.rg 8 <| OJ.go 1 [(81, .pointer a0)] <| OJ.nilck (d := 82) (y := .tmp 81) (fun p128 => ?_)
     refine OJ.go 1 [(83, .pointer (some (Addr.add p128 3)))] <| OJ.ld (d := 84) (y := .tmp 83) (pend2 := fun x129 => []) Ty3 (fun _ => rfl) (fun x129 => ?_)
     refine OJ.go 1 [(85, .int .i64 (IntKind.wrap .i64 (x129 + 1)))] <| OJ.nilck (d := 86) (y := .tmp 81) (fun p130 => ?_)
     refine OJ.go 1 [(87, .pointer (some (Addr.add p130 3)))] <| OJ.st (y := .tmp 87) (z := .tmp 85) (owed := []) Ty3 ?_
     exact OW.nil <| OJ.nil <| SJ.inBlock <| SJ.sr 1 <| OJ.go 1 [(2, .bool false)] <| OJ.nil <| SJ.r1 (.bool false) rfl rfl
    ·refine SJ.rg 6 <| OJ.go 2 [(14, .pointer a0), (13, .pointer a0)] <| OJ.nilck (d := 15) (y := .tmp 14) (fun p131 => ?_)
     refine OJ.go 1 [(16, .pointer (some (Addr.add p131 3)))] <| OJ.ld (d := 17) (y := .tmp 16) (pend2 := fun x132 => []) Ty3 (fun _ => rfl) (fun x132 => ?_)
     refine OJ.call (d := 18) (g := 97) (ats := #[145, 3, 3]) (args := [.tmp 13, .const (.int .i64 41), .tmp 17]) (owed := []) F97 (r4_six_fail_ok a0 41 x132) (fun r133 => ?_)
     exact OW.nil <| OJ.nil <| SJ.inBlock <| SJ.sr 1 <| OJ.go 1 [(2, .bool false)] <| OJ.nil <| SJ.r1 (.bool false) rfl rfl

/-! ### weir/weirref4.sixes: function 67 -/
noncomputable def r4_sixes.B : Code := (Tryz.f67.body).getD .skip
noncomputable def r4_sixes.cx : Fx := ⟨Tryz.prog, 67, Tryz.f67⟩
noncomputable def r4_sixes.out (r_ : ((Vec Int 16) × Int × Int)) : Value := .tuple #[((cI .u8).arr 16).val r_.1, .int .i64 r_.2.1, .int .i64 r_.2.2]
noncomputable def r4_sixes.F0 (r_ : ((Vec Int 16) × Int × Int)) : Reach := .ret (r4_sixes.out r_)
noncomputable def r4_sixes.F1 (b1 : Nat) (b2 : Nat) (b3 : Nat) : (LS (Int × (Vec Int 16)) ((Vec Int 16) × Int × Int)) → Reach := loopF [.inLoop (c1 (c1 (c2 (c1 (c2 (c2 (c2 (c2 (c2 (c2 (c2 (c2 (c2 r4_sixes.B))))))))))))), .inBlock 2, .code (c2 (c2 (c2 (c2 (c2 (c2 (c2 (c2 (c2 (c2 r4_sixes.B))))))))))] (fun s_ : (Int × (Vec Int 16)) => [(2, .pointer (some (pt b1 0))), (5, .pointer (some (pt b2 0))), (6, .pointer (some (pt b3 0))), (9, .int .i64 s_.1)]) (fun s_ : (Int × (Vec Int 16)) => [(b2, ((cI .u8).arr 16).enc s_.2), (b1, ((cI .u8).arr 16).enc (Vec.rep 16 0))]) r4_sixes.F0
noncomputable def r4_sixes.K1 (b3 : Nat) (s27 : Int) (s28 : (Vec Int 16)) (j53 : Int) : M (LS (Int × (Vec Int 16)) ((Vec Int 16) × Int × Int)) :=
 ld cL (Addr.add (pt b3 0) 1) >>= fun x54 =>
 idx x54.a x54.len s27 1 >>= fun p55 =>
 ld (cI .i64) p55 >>= fun x56 =>
 chk ((0 : Int) ≤ (IntKind.wrap .i64 (2 * j53)) ∧ (IntKind.wrap .i64 (2 * j53)) < (16 : Nat)) >>= fun _ =>
 ld cL (Addr.add (pt b3 0) 1) >>= fun x59 =>
 idx x59.a x59.len s27 1 >>= fun p60 =>
 ld (cI .i64) p60 >>= fun x61 =>
 chk ((0 : Int) ≤ (IntKind.wrap .i64 ((IntKind.wrap .i64 (2 * j53)) + 1)) ∧ (IntKind.wrap .i64 ((IntKind.wrap .i64 (2 * j53)) + 1)) < (16 : Nat)) >>= fun _ =>
 pure (LS.next (IntKind.wrap .i64 (s27 + 1), (Vec.s (Vec.s s28 (IntKind.wrap .i64 (2 * j53)) (IntKind.wrap .u8 (IntKind.wrap .i64 (Int.tdiv x56 256)))) (IntKind.wrap .i64 ((IntKind.wrap .i64 (2 * j53)) + 1)) (IntKind.wrap .u8 (Int.tmod x61 256)))))
theorem r4_sixes.K1_ok (b1 : Nat) (b2 : Nat) (b3 : Nat) (s27 : Int) (s28 : (Vec Int 16)) (j53 : Int) :
  SJ r4_sixes.cx [.code (c2 (c2 (c1 (c1 (c2 (c1 (c1 (c2 (c1 (c2 (c2 (c2 (c2 (c2 (c2 (c2 (c2 (c2 r4_sixes.B)))))))))))))))))), .inBlock 3, .code (c2 (c2 (c1 (c1 (c2 (c1 (c2 (c2 (c2 (c2 (c2 (c2 (c2 (c2 (c2 r4_sixes.B))))))))))))))), .inLoop (c1 (c1 (c2 (c1 (c2 (c2 (c2 (c2 (c2 (c2 (c2 (c2 (c2 r4_sixes.B))))))))))))), .inBlock 2, .code (c2 (c2 (c2 (c2 (c2 (c2 (c2 (c2 (c2 (c2 r4_sixes.B))))))))))] [(2, .pointer (some (pt b1 0))), (5, .pointer (some (pt b2 0))), (6, .pointer (some (pt b3 0))), (9, .int .i64 s27), (10, .int .i64 j53)] [(b2, ((cI .u8).arr 16).enc s28), (b1, ((cI .u8).arr 16).enc (Vec.rep 16 0))] (r4_sixes.K1 b3 s27 s28 j53) (r4_sixes.F1 b1 b2 b3) := by
 unfold r4_sixes.K1
 refine SJ.sr 13 <| OJ.go 5 [(121, .pointer (some (Addr.add (pt b3 0) 1))), (120, .pointer (some (pt b3 0))), (119, .pointer (some (pt b3 0))), (118, .int .i64 (IntKind.wrap .i64 (2 * j53))), (117, .int .i64 j53)] <| OJ.ld (d := 122) (y := .tmp 121) (pend2 := fun x54 => []) Ty58 (fun _ => rfl) (fun x54 => ?_)
 refine OJ.go 1 [(123, .int .i64 s27)] <| OJ.idxS (d := 124) (T := 58) (y := .tmp 122) (j := .tmp 123) (E := 3) (cap := x54.cap) (k := .i64) (fun p55 => ?_)
 refine OJ.ld (d := 125) (y := .tmp 124) (pend2 := fun x56 => []) Ty3 (fun _ => rfl) (fun x56 => ?_)
 refine OJ.go 2 [(127, .int .u8 (IntKind.wrap .u8 (IntKind.wrap .i64 (Int.tdiv x56 256)))), (126, .int .i64 (IntKind.wrap .i64 (Int.tdiv x56 256)))] <| OJ.idxK (d := 128) (T := 26) (y := .tmp 5) (j := .tmp 118) (E := 5) (sz := 1) (b := b2) (o := 0) (k := .i64) (fun hb57 hb58 => ?_)
 refine OJ.kst (y := .tmp 128) (z := .tmp 127) (cd := (cI .u8)) (u := (IntKind.wrap .u8 (IntKind.wrap .i64 (Int.tdiv x56 256)))) (j := 0) (b := b2) (o := (0 + (IntKind.wrap .i64 (2 * j53)).toNat * 1)) (((cI .u8).arr 16).enc (Vec.s s28 (IntKind.wrap .i64 (2 * j53)) (IntKind.wrap .u8 (IntKind.wrap .i64 (Int.tdiv x56 256))))) (owed := []) Ty5 rfl (Upd.zero (Upd.arr hb57 hb58)) rfl ?_
 refine OW.nil <| OJ.nil <| SJ.rg 14 <| OJ.go 6 [(134, .pointer (some (Addr.add (pt b3 0) 1))), (133, .pointer (some (pt b3 0))), (132, .pointer (some (pt b3 0))), (131, .int .i64 (IntKind.wrap .i64 ((IntKind.wrap .i64 (2 * j53)) + 1))), (130, .int .i64 (IntKind.wrap .i64 (2 * j53))), (129, .int .i64 j53)] <| OJ.ld (d := 135) (y := .tmp 134) (pend2 := fun x59 => []) Ty58 (fun _ => rfl) (fun x59 => ?_)
 refine OJ.go 1 [(136, .int .i64 s27)] <| OJ.idxS (d := 137) (T := 58) (y := .tmp 135) (j := .tmp 136) (E := 3) (cap := x59.cap) (k := .i64) (fun p60 => ?_)
 refine OJ.ld (d := 138) (y := .tmp 137) (pend2 := fun x61 => []) Ty3 (fun _ => rfl) (fun x61 => ?_)
 refine OJ.go 2 [(140, .int .u8 (IntKind.wrap .u8 (Int.tmod x61 256))), (139, .int .i64 (Int.tmod x61 256))] <| OJ.idxK (d := 141) (T := 26) (y := .tmp 5) (j := .tmp 131) (E := 5) (sz := 1) (b := b2) (o := 0) (k := .i64) (fun hb62 hb63 => ?_)
 refine OJ.kst (y := .tmp 141) (z := .tmp 140) (cd := (cI .u8)) (u := (IntKind.wrap .u8 (Int.tmod x61 256))) (j := 0) (b := b2) (o := (0 + (IntKind.wrap .i64 ((IntKind.wrap .i64 (2 * j53)) + 1)).toNat * 1)) (((cI .u8).arr 16).enc (Vec.s (Vec.s s28 (IntKind.wrap .i64 (2 * j53)) (IntKind.wrap .u8 (IntKind.wrap .i64 (Int.tdiv x56 256)))) (IntKind.wrap .i64 ((IntKind.wrap .i64 (2 * j53)) + 1)) (IntKind.wrap .u8 (Int.tmod x61 256)))) (owed := []) Ty5 rfl (Upd.zero (Upd.arr hb62 hb63)) rfl ?_
 exact OW.nil <| OJ.nil <| SJ.inBlock <| SJ.rg 3 <| OJ.go 3 [(9, .int .i64 (IntKind.wrap .i64 (s27 + 1))), (94, .int .i64 (IntKind.wrap .i64 (s27 + 1))), (93, .int .i64 s27)] <| OJ.nil <| SJ.at_ [2, 5, 6, 9] rfl
noncomputable def r4_sixes.L1 (b3 : Nat) (s27 : Int) (s28 : (Vec Int 16)) : M (LS (Int × (Vec Int 16)) ((Vec Int 16) × Int × Int)) :=
 ld cL (Addr.add (pt b3 0) 1) >>= fun x48 =>
 if s27 < (x48.len : Int) then
  ld (cI .i64) (Addr.add (pt b3 0) 2) >>= fun x49 =>
  (if x49 ≥ 0 then
    ld (cI .i64) (Addr.add (pt b3 0) 2) >>= fun x50 =>
    pure (decide (s27 ≥ x50))
   else
    pure false) >>= fun y51 =>
  if y51 = true then
   ld cL (Addr.add (pt b3 0) 1) >>= fun x64 =>
   r4_sixes.K1 b3 s27 s28 (IntKind.wrap .i64 ((IntKind.wrap .i64 (8 - (x64.len : Int))) + s27))
  else
   r4_sixes.K1 b3 s27 s28 s27
 else
  pure (LS.done (s28, 0, 0))
theorem r4_sixes.L1_ok (b1 : Nat) (b2 : Nat) (b3 : Nat) (s27 : Int) (s28 : (Vec Int 16)) :
  SJ r4_sixes.cx [.code (c1 (c1 (c2 (c1 (c2 (c2 (c2 (c2 (c2 (c2 (c2 (c2 (c2 r4_sixes.B))))))))))))), .inLoop (c1 (c1 (c2 (c1 (c2 (c2 (c2 (c2 (c2 (c2 (c2 (c2 (c2 r4_sixes.B))))))))))))), .inBlock 2, .code (c2 (c2 (c2 (c2 (c2 (c2 (c2 (c2 (c2 (c2 r4_sixes.B))))))))))] [(2, .pointer (some (pt b1 0))), (5, .pointer (some (pt b2 0))), (6, .pointer (some (pt b3 0))), (9, .int .i64 s27)] [(b2, ((cI .u8).arr 16).enc s28), (b1, ((cI .u8).arr 16).enc (Vec.rep 16 0))] (r4_sixes.L1 b3 s27 s28) (r4_sixes.F1 b1 b2 b3) := by
 unfold r4_sixes.L1
 refine SJ.seq <| SJ.sr 7 <| OJ.go 4 [(89, .pointer (some (Addr.add (pt b3 0) 1))), (88, .pointer (some (pt b3 0))), (87, .pointer (some (pt b3 0))), (86, .int .i64 s27)] <| OJ.ld (d := 90) (y := .tmp 89) (pend2 := fun x48 => []) Ty58 (fun _ => rfl) (fun x48 => ?_)
 refine OJ.go 2 [(92, .bool (decide (s27 < (x48.len : Int)))), (91, .int .i64 (x48.len : Int))] <| OJ.nil <| SJ.cond (t := (.tmp 92)) (b := decide (s27 < (x48.len : Int))) decide_eq_true_iff (fun hc66 => ?_) (fun hc66 => ?_)
 ·refine SJ.skip <| SJ.seq <| SJ.block (id := 3) <| SJ.sr 2 <| OJ.go 2 [(10, .int .i64 s27), (95, .int .i64 s27)] <| OJ.nil <| SJ.seq <| SJ.sr 13 <| OJ.go 3 [(98, .pointer (some (Addr.add (pt b3 0) 2))), (97, .pointer (some (pt b3 0))), (96, .pointer (some (pt b3 0)))] <| OJ.ld (d := 99) (y := .tmp 98) (pend2 := fun x49 => []) Ty3 (fun _ => rfl) (fun x49 => ?_)
  refine OJ.go 2 [(101, .bool (decide (x49 ≥ 0))), (100, .bool (decide (x49 ≥ 0)))] <| OJ.join (b := decide (x49 ≥ 0)) [6, 7, 8, 9, 10, 11, 12] [] [2, 5, 6, 9, 10, 108] (fun y51 => [(2, .pointer (some (pt b1 0))), (5, .pointer (some (pt b2 0))), (6, .pointer (some (pt b3 0))), (9, .int .i64 s27), (10, .int .i64 s27), (108, .bool y51)]) [] [] (t := 101) decide_eq_true_iff (fun hp_ => ?_) (fun hp_ => ?_) (fun _ _ _ _ _ _ h_ => h_) (fun y51 => ?_)
  ·refine OJ.go 4 [(105, .pointer (some (Addr.add (pt b3 0) 2))), (104, .pointer (some (pt b3 0))), (103, .pointer (some (pt b3 0))), (102, .int .i64 s27)] <| OJ.ld (d := 106) (y := .tmp 105) (pend2 := fun x50 => []) Ty3 (fun _ => rfl) (fun x50 => ?_)
   exact OJ.go 2 [(108, .bool (decide (s27 ≥ x50))), (107, .bool (decide (s27 ≥ x50)))] <| OJ.x0
  ·exact OJ.go 7 [(108, .bool false), (107, undef), (106, undef), (105, undef), (104, undef), (103, undef), (102, undef)] <| OJ.x0
  ·refine OJ.nil <| SJ.cond (t := (.tmp 108)) (b := y51) Iff.rfl (fun hc65 => ?_) (fun hc65 => ?_)
   ·refine SJ.rg 9 <| OJ.go 3 [(111, .pointer (some (Addr.add (pt b3 0) 1))), (110, .pointer (some (pt b3 0))), (109, .pointer (some (pt b3 0)))] <| OJ.ld (d := 112) (y := .tmp 111) (pend2 := fun x64 => []) Ty58 (fun _ => rfl) (fun x64 => ?_)
    refine OJ.go 5 [(10, .int .i64 (IntKind.wrap .i64 ((IntKind.wrap .i64 (8 - (x64.len : Int))) + s27))), (116, .int .i64 (IntKind.wrap .i64 ((IntKind.wrap .i64 (8 - (x64.len : Int))) + s27))), (115, .int .i64 s27), (114, .int .i64 (IntKind.wrap .i64 (8 - (x64.len : Int)))), (113, .int .i64 (x64.len : Int))] <| OJ.nil <| SJ.less [2, 5, 6, 9, 10] (m' := [(2, .pointer (some (pt b1 0))), (5, .pointer (some (pt b2 0))), (6, .pointer (some (pt b3 0))), (9, .int .i64 s27), (10, .int .i64 (IntKind.wrap .i64 ((IntKind.wrap .i64 (8 - (x64.len : Int))) + s27)))]) ?_
    exact r4_sixes.K1_ok b1 b2 b3 s27 s28 (IntKind.wrap .i64 ((IntKind.wrap .i64 (8 - (x64.len : Int))) + s27))
   ·refine SJ.skip <| SJ.less [2, 5, 6, 9, 10] (m' := [(2, .pointer (some (pt b1 0))), (5, .pointer (some (pt b2 0))), (6, .pointer (some (pt b3 0))), (9, .int .i64 s27), (10, .int .i64 s27)]) ?_
    exact r4_sixes.K1_ok b1 b2 b3 s27 s28 s27
 ·refine SJ.exit (id := 2) (by rfl) <| SJ.sr 4 <| OJ.kld (d := 142) (y := .tmp 5) (cd := ((cI .u8).arr 16)) (j := 0) (b := b2) (o := 0) s28 (pend2 := []) Ty26 rfl (At.whole _) rfl ?_
  refine OJ.kst (y := .tmp 2) (z := .tmp 142) (cd := ((cI .u8).arr 16)) (u := s28) (j := 1) (b := b1) (o := 0) (((cI .u8).arr 16).enc s28) (owed := []) Ty26 rfl (Upd.whole ((Cod.len _ _).trans (Cod.len _ _).symm)) rfl ?_
  exact OW.nil <| OJ.go 2 [(4, .int .i64 0), (3, .int .i64 0)] <| OJ.nil <| SJ.ret rfl (Res.run (ys := [((cI .u8).arr 16).val s28, .int .i64 0, .int .i64 0]) (.cell (j := 1) (b := b1) (cd := ((cI .u8).arr 16)) (q := s28) (by kernel_rfl) rfl Ty26 (At.whole _) (.tmp (by kernel_rfl) (.tmp (by kernel_rfl) .nil))) rfl)
noncomputable def r4_sixes.K2 (b3 : Nat) : M ((Vec Int 16) × Int × Int) :=
 ld (cI .i64) (Addr.add (pt b3 0) 4) >>= fun x22 =>
 if x22 ≠ 0 then
  draw >>= fun _ =>
  ld (cI .i64) (Addr.add (pt b3 0) 4) >>= fun x25 =>
  ld (cI .i64) (Addr.add (pt b3 0) 5) >>= fun x26 =>
  same (cI .i64) (Addr.add (pt b3 0) 5) x26 >>= fun _ =>
  same (cI .i64) (Addr.add (pt b3 0) 4) x25 >>= fun _ =>
  pure ((Vec.rep 16 0), x25, x26)
 else
  loopM (fun s_ : (Int × (Vec Int 16)) => r4_sixes.L1 b3 s_.1 s_.2) (0, (Vec.rep 16 0))
theorem r4_sixes.K2_ok (b1 : Nat) (b2 : Nat) (b3 : Nat) :
  SJ r4_sixes.cx [.code (c2 (c2 (c2 (c2 (c2 (c2 (c2 (c2 r4_sixes.B))))))))] [(2, .pointer (some (pt b1 0))), (5, .pointer (some (pt b2 0))), (6, .pointer (some (pt b3 0)))] [(b2, ((cI .u8).arr 16).enc (Vec.rep 16 0)), (b1, ((cI .u8).arr 16).enc (Vec.rep 16 0))] (r4_sixes.K2 b3) r4_sixes.F0 := by
 unfold r4_sixes.K2
 refine SJ.seq <| SJ.sr 5 <| OJ.go 3 [(74, .pointer (some (Addr.add (pt b3 0) 4))), (73, .pointer (some (pt b3 0))), (72, .pointer (some (pt b3 0)))] <| OJ.ld (d := 75) (y := .tmp 74) (pend2 := fun x22 => []) Ty3 (fun _ => rfl) (fun x22 => ?_)
 refine OJ.go 1 [(76, .bool (x22 != 0))] <| OJ.nil <| SJ.cond (t := (.tmp 76)) (b := (x22 != 0)) bne_iff_ne (fun hc67 => ?_) (fun hc67 => ?_)
 ·refine SJ.seq <| SJ.draw (id := 16) (kd := [1, 0, 0, 0, 1, 0, 0, 0, 1, 2, 0, 0]) (bef := [0, 0, 2, 6, 14, 0, 32, 96, 224, 1, 543, 2047]) (ord := [0, 1, 2, 3, 4, 5, 6, 7, 8, 9, 10, 11]) mixed ?_
  refine OJ.kld (d := 77) (y := .tmp 5) (cd := ((cI .u8).arr 16)) (j := 0) (b := b2) (o := 0) (Vec.rep 16 0) (pend2 := [⟨0, 26, (pt b2 0), ((cI .u8).arr 16).val (Vec.rep 16 0)⟩]) Ty26 rfl (At.whole _) rfl ?_
  refine OJ.go 3 [(80, .pointer (some (Addr.add (pt b3 0) 4))), (79, .pointer (some (pt b3 0))), (78, .pointer (some (pt b3 0)))] <| OJ.ld (d := 81) (y := .tmp 80) (pend2 := fun x25 => [⟨4, 3, (Addr.add (pt b3 0) 4), (cI .i64).val x25⟩, ⟨0, 26, (pt b2 0), ((cI .u8).arr 16).val (Vec.rep 16 0)⟩]) Ty3 (fun _ => rfl) (fun x25 => ?_)
  refine OJ.go 3 [(84, .pointer (some (Addr.add (pt b3 0) 5))), (83, .pointer (some (pt b3 0))), (82, .pointer (some (pt b3 0)))] <| OJ.ld (d := 85) (y := .tmp 84) (pend2 := fun x26 => [⟨8, 3, (Addr.add (pt b3 0) 5), (cI .i64).val x26⟩, ⟨4, 3, (Addr.add (pt b3 0) 4), (cI .i64).val x25⟩, ⟨0, 26, (pt b2 0), ((cI .u8).arr 16).val (Vec.rep 16 0)⟩]) Ty3 (fun _ => rfl) (fun x26 => ?_)
  refine OJ.kst (y := .tmp 2) (z := .tmp 77) (cd := ((cI .u8).arr 16)) (u := (Vec.rep 16 0)) (j := 1) (b := b1) (o := 0) (((cI .u8).arr 16).enc (Vec.rep 16 0)) (owed := [⟨8, 3, (Addr.add (pt b3 0) 5), (cI .i64).val x26⟩, ⟨4, 3, (Addr.add (pt b3 0) 4), (cI .i64).val x25⟩]) Ty26 rfl (Upd.whole ((Cod.len _ _).trans (Cod.len _ _).symm)) rfl ?_
  refine OW.same Ty3 ?_
  refine OW.same Ty3 ?_
  exact OW.nil <| OJ.go 2 [(4, .int .i64 x26), (3, .int .i64 x25)] <| OJ.nil <| SJ.ret rfl (Res.run (ys := [((cI .u8).arr 16).val (Vec.rep 16 0), .int .i64 x25, .int .i64 x26]) (.cell (j := 1) (b := b1) (cd := ((cI .u8).arr 16)) (q := (Vec.rep 16 0)) (by kernel_rfl) rfl Ty26 (At.whole _) (.tmp (by kernel_rfl) (.tmp (by kernel_rfl) .nil))) rfl)
 ·exact SJ.skip <| SJ.seq <| SJ.sr 1 <| OJ.go 1 [(9, .int .i64 0)] <| OJ.nil <| SJ.block (id := 2) <| SJ.loop (fun s_ : (Int × (Vec Int 16)) => [(2, .pointer (some (pt b1 0))), (5, .pointer (some (pt b2 0))), (6, .pointer (some (pt b3 0))), (9, .int .i64 s_.1)]) (fun s_ : (Int × (Vec Int 16)) => [(b2, ((cI .u8).arr 16).enc s_.2), (b1, ((cI .u8).arr 16).enc (Vec.rep 16 0))]) [2, 5, 6, 9] rfl (fun _ _ => rfl) (fun s_ => r4_sixes.L1_ok b1 b2 b3 s_.1 s_.2)
noncomputable def r4_sixes.K3 (a0 : ByteArray) (b3 : Nat) : M ((Vec Int 16) × Int × Int) :=
 ld (cI .i64) (Addr.add (pt b3 0) 4) >>= fun x16 =>
 (if x16 = 0 then
   ld (cI .i64) (Addr.add (pt b3 0) 2) >>= fun x17 =>
   pure (decide (x17 < 0))
  else
   pure false) >>= fun y18 =>
 (if y18 = true then
   ld cL (Addr.add (pt b3 0) 1) >>= fun x19 =>
   pure (decide ((x19.len : Int) < 8))
  else
   pure false) >>= fun y20 =>
 if y20 = true then
  r4_six_fail (some (pt b3 0)) 42 (a0.size : Int) >>= fun r68 =>
  r4_sixes.K2 b3
 else
  r4_sixes.K2 b3
theorem r4_sixes.K3_ok (a0 : ByteArray) (b1 : Nat) (b2 : Nat) (b3 : Nat) :
  SJ r4_sixes.cx [.code (c2 (c2 (c2 (c2 (c2 (c2 (c2 r4_sixes.B)))))))] [(0, .string a0), (2, .pointer (some (pt b1 0))), (5, .pointer (some (pt b2 0))), (6, .pointer (some (pt b3 0)))] [(b2, ((cI .u8).arr 16).enc (Vec.rep 16 0)), (b1, ((cI .u8).arr 16).enc (Vec.rep 16 0))] (r4_sixes.K3 a0 b3) r4_sixes.F0 := by
 unfold r4_sixes.K3
 refine SJ.seq <| SJ.sr 20 <| OJ.go 3 [(50, .pointer (some (Addr.add (pt b3 0) 4))), (49, .pointer (some (pt b3 0))), (48, .pointer (some (pt b3 0)))] <| OJ.ld (d := 51) (y := .tmp 50) (pend2 := fun x16 => []) Ty3 (fun _ => rfl) (fun x16 => ?_)
 refine OJ.go 2 [(53, .bool (x16 == 0)), (52, .bool (x16 == 0))] <| OJ.join (b := (x16 == 0)) [6, 7, 8, 9, 10, 11] [12, 13, 14, 15, 16, 17, 18, 19] [0, 2, 5, 6, 59] (fun y18 => [(0, .string a0), (2, .pointer (some (pt b1 0))), (5, .pointer (some (pt b2 0))), (6, .pointer (some (pt b3 0))), (59, .bool y18)]) [] [] (t := 53) beq_iff_eq (fun hp_ => ?_) (fun hp_ => ?_) (fun _ _ _ _ _ _ h_ => h_) (fun y18 => ?_)
 ·refine OJ.go 3 [(56, .pointer (some (Addr.add (pt b3 0) 2))), (55, .pointer (some (pt b3 0))), (54, .pointer (some (pt b3 0)))] <| OJ.ld (d := 57) (y := .tmp 56) (pend2 := fun x17 => []) Ty3 (fun _ => rfl) (fun x17 => ?_)
  exact OJ.go 2 [(59, .bool (decide (x17 < 0))), (58, .bool (decide (x17 < 0)))] <| OJ.x0
 ·exact OJ.go 6 [(59, .bool false), (58, undef), (57, undef), (56, undef), (55, undef), (54, undef)] <| OJ.x0
 ·refine OJ.go 1 [(60, .bool y18)] <| OJ.join (b := y18) [13, 14, 15, 16, 17, 18, 19] [] [0, 2, 5, 6, 67] (fun y20 => [(0, .string a0), (2, .pointer (some (pt b1 0))), (5, .pointer (some (pt b2 0))), (6, .pointer (some (pt b3 0))), (67, .bool y20)]) [] [] (t := 60) Iff.rfl (fun hp_ => ?_) (fun hp_ => ?_) (fun _ _ _ _ _ _ h_ => h_) (fun y20 => ?_)
  ·refine OJ.go 3 [(63, .pointer (some (Addr.add (pt b3 0) 1))), (62, .pointer (some (pt b3 0))), (61, .pointer (some (pt b3 0)))] <| OJ.ld (d := 64) (y := .tmp 63) (pend2 := fun x19 => []) Ty58 (fun _ => rfl) (fun x19 => ?_)
   exact OJ.go 3 [(67, .bool (decide ((x19.len : Int) < 8))), (66, .bool (decide ((x19.len : Int) < 8))), (65, .int .i64 (x19.len : Int))] <| OJ.x0
  ·exact OJ.go 7 [(67, .bool false), (66, undef), (65, undef), (64, undef), (63, undef), (62, undef), (61, undef)] <| OJ.x0
  ·refine OJ.nil <| SJ.cond (t := (.tmp 67)) (b := y20) Iff.rfl (fun hc69 => ?_) (fun hc69 => ?_)
   ·refine SJ.rg 4 <| OJ.go 3 [(70, .int .i64 (a0.size : Int)), (69, .string a0), (68, .pointer (some (pt b3 0)))] <| OJ.call (d := 71) (g := 97) (ats := #[145, 3, 3]) (args := [.tmp 68, .const (.int .i64 42), .tmp 70]) (owed := []) F97 (r4_six_fail_ok (some (pt b3 0)) 42 (a0.size : Int)) (fun r68 => ?_)
    refine OW.nil <| OJ.nil <| SJ.less [2, 5, 6] (m' := [(2, .pointer (some (pt b1 0))), (5, .pointer (some (pt b2 0))), (6, .pointer (some (pt b3 0)))]) ?_
    exact r4_sixes.K2_ok b1 b2 b3
   ·refine SJ.skip <| SJ.less [2, 5, 6] (m' := [(2, .pointer (some (pt b1 0))), (5, .pointer (some (pt b2 0))), (6, .pointer (some (pt b3 0)))]) ?_
    exact r4_sixes.K2_ok b1 b2 b3
noncomputable def r4_sixes.F2 (a0 : ByteArray) (b1 : Nat) (b2 : Nat) (b3 : Nat) : (LS Bool ((Vec Int 16) × Int × Int)) → Reach := loopF [.inLoop (c1 (c1 (c1 (c2 (c2 (c2 (c2 (c2 (c2 r4_sixes.B))))))))), .inBlock 0, .code (c2 (c2 (c2 (c2 (c2 (c2 (c2 r4_sixes.B)))))))] (fun s_ : Bool => [(0, .string a0), (2, .pointer (some (pt b1 0))), (5, .pointer (some (pt b2 0))), (6, .pointer (some (pt b3 0))), (7, .bool s_)]) (fun s_ : Bool => [(b2, ((cI .u8).arr 16).enc (Vec.rep 16 0)), (b1, ((cI .u8).arr 16).enc (Vec.rep 16 0))]) r4_sixes.F0
noncomputable def r4_sixes.L2 (a0 : ByteArray) (b3 : Nat) (s6 : Bool) : M (LS Bool ((Vec Int 16) × Int × Int)) :=
 (if ¬ (s6 = true) then
   ld (cI .i64) (Addr.add (pt b3 0) 4) >>= fun x70 =>
   pure (x70 == 0)
  else
   pure false) >>= fun y71 =>
 if y71 = true then
  r4_six_group (some (pt b3 0)) >>= fun r72 =>
  (if ¬ (r72 = true) then
    ld (cI .i64) (Addr.add (pt b3 0) 4) >>= fun x73 =>
    pure (x73 == 0)
   else
    pure false) >>= fun y74 =>
  if y74 = true then
   r4_six_between (some (pt b3 0)) >>= fun r76 =>
   pure (LS.next r76)
  else
   pure (LS.next r72)
 else
  (r4_sixes.K3 a0 b3) >>= fun b => pure (LS.done b)
theorem r4_sixes.L2_ok (a0 : ByteArray) (b1 : Nat) (b2 : Nat) (b3 : Nat) (s6 : Bool) :
  SJ r4_sixes.cx [.code (c1 (c1 (c1 (c2 (c2 (c2 (c2 (c2 (c2 r4_sixes.B))))))))), .inLoop (c1 (c1 (c1 (c2 (c2 (c2 (c2 (c2 (c2 r4_sixes.B))))))))), .inBlock 0, .code (c2 (c2 (c2 (c2 (c2 (c2 (c2 r4_sixes.B)))))))] [(0, .string a0), (2, .pointer (some (pt b1 0))), (5, .pointer (some (pt b2 0))), (6, .pointer (some (pt b3 0))), (7, .bool s6)] [(b2, ((cI .u8).arr 16).enc (Vec.rep 16 0)), (b1, ((cI .u8).arr 16).enc (Vec.rep 16 0))] (r4_sixes.L2 a0 b3 s6) (r4_sixes.F2 a0 b1 b2 b3) := by
 unfold r4_sixes.L2
 refine SJ.seq <| SJ.sr 9 <| OJ.go 3 [(28, .bool (!s6)), (27, .bool (!s6)), (26, .bool s6)] <| OJ.join (b := (!s6)) [3, 4, 5, 6, 7, 8] [] [0, 2, 5, 6, 34] (fun y71 => [(0, .string a0), (2, .pointer (some (pt b1 0))), (5, .pointer (some (pt b2 0))), (6, .pointer (some (pt b3 0))), (34, .bool y71)]) [] [] (t := 28) (bnot_iff Iff.rfl) (fun hp_ => ?_) (fun hp_ => ?_) (fun _ _ _ _ _ _ h_ => h_) (fun y71 => ?_)
 ·refine OJ.go 3 [(31, .pointer (some (Addr.add (pt b3 0) 4))), (30, .pointer (some (pt b3 0))), (29, .pointer (some (pt b3 0)))] <| OJ.ld (d := 32) (y := .tmp 31) (pend2 := fun x70 => []) Ty3 (fun _ => rfl) (fun x70 => ?_)
  exact OJ.go 2 [(34, .bool (x70 == 0)), (33, .bool (x70 == 0))] <| OJ.x0
 ·exact OJ.go 6 [(34, .bool false), (33, undef), (32, undef), (31, undef), (30, undef), (29, undef)] <| OJ.x0
 ·refine OJ.nil <| SJ.cond (t := (.tmp 34)) (b := y71) Iff.rfl (fun hc78 => ?_) (fun hc78 => ?_)
  ·refine SJ.skip <| SJ.block (id := 1) <| SJ.sr 3 <| OJ.go 1 [(35, .pointer (some (pt b3 0)))] <| OJ.call (d := 36) (g := 95) (ats := #[145]) (args := [.tmp 35]) (owed := []) F95 (r4_six_group_ok (some (pt b3 0))) (fun r72 => ?_)
   refine OW.nil <| OJ.go 1 [(7, .bool r72)] <| OJ.nil <| SJ.sr 9 <| OJ.go 3 [(39, .bool (!r72)), (38, .bool (!r72)), (37, .bool r72)] <| OJ.join (b := (!r72)) [3, 4, 5, 6, 7, 8] [] [0, 2, 5, 6, 7, 45] (fun y74 => [(0, .string a0), (2, .pointer (some (pt b1 0))), (5, .pointer (some (pt b2 0))), (6, .pointer (some (pt b3 0))), (7, .bool r72), (45, .bool y74)]) [] [] (t := 39) (bnot_iff Iff.rfl) (fun hp_ => ?_) (fun hp_ => ?_) (fun _ _ _ _ _ _ h_ => h_) (fun y74 => ?_)
   ·refine OJ.go 3 [(42, .pointer (some (Addr.add (pt b3 0) 4))), (41, .pointer (some (pt b3 0))), (40, .pointer (some (pt b3 0)))] <| OJ.ld (d := 43) (y := .tmp 42) (pend2 := fun x73 => []) Ty3 (fun _ => rfl) (fun x73 => ?_)
    exact OJ.go 2 [(45, .bool (x73 == 0)), (44, .bool (x73 == 0))] <| OJ.x0
   ·exact OJ.go 6 [(45, .bool false), (44, undef), (43, undef), (42, undef), (41, undef), (40, undef)] <| OJ.x0
   ·refine OJ.nil <| SJ.cond (t := (.tmp 45)) (b := y74) Iff.rfl (fun hc77 => ?_) (fun hc77 => ?_)
    ·refine SJ.rg 3 <| OJ.go 1 [(46, .pointer (some (pt b3 0)))] <| OJ.call (d := 47) (g := 96) (ats := #[145]) (args := [.tmp 46]) (owed := []) F96 (r4_six_between_ok (some (pt b3 0))) (fun r76 => ?_)
     exact OW.nil <| OJ.go 1 [(7, .bool r76)] <| OJ.nil <| SJ.inBlock <| SJ.at_ [0, 2, 5, 6, 7] rfl
    ·exact SJ.skip <| SJ.inBlock <| SJ.at_ [0, 2, 5, 6, 7] rfl
  ·refine SJ.exit (id := 0) (by rfl) <| SJ.less [0, 2, 5, 6] (m' := [(0, .string a0), (2, .pointer (some (pt b1 0))), (5, .pointer (some (pt b2 0))), (6, .pointer (some (pt b3 0)))]) ?_
   refine SJ.done ?_
   exact r4_sixes.K3_ok a0 b1 b2 b3
noncomputable def r4_sixes.K4 (a0 : ByteArray) (b3 : Nat) (j5 : Bool) : M ((Vec Int 16) × Int × Int) :=
 loopM (fun s_ : Bool => r4_sixes.L2 a0 b3 s_) j5
theorem r4_sixes.K4_ok (a0 : ByteArray) (b1 : Nat) (b2 : Nat) (b3 : Nat) (j5 : Bool) :
  SJ r4_sixes.cx [.code (c2 (c2 (c2 (c2 (c2 (c2 r4_sixes.B))))))] [(0, .string a0), (2, .pointer (some (pt b1 0))), (5, .pointer (some (pt b2 0))), (6, .pointer (some (pt b3 0))), (7, .bool j5)] [(b2, ((cI .u8).arr 16).enc (Vec.rep 16 0)), (b1, ((cI .u8).arr 16).enc (Vec.rep 16 0))] (r4_sixes.K4 a0 b3 j5) r4_sixes.F0 := by
 unfold r4_sixes.K4
 exact SJ.seq <| SJ.block (id := 0) <| SJ.loop (fun s_ : Bool => [(0, .string a0), (2, .pointer (some (pt b1 0))), (5, .pointer (some (pt b2 0))), (6, .pointer (some (pt b3 0))), (7, .bool s_)]) (fun s_ : Bool => [(b2, ((cI .u8).arr 16).enc (Vec.rep 16 0)), (b1, ((cI .u8).arr 16).enc (Vec.rep 16 0))]) [0, 2, 5, 6, 7] rfl (fun _ _ => rfl) (fun s_ => r4_sixes.L2_ok a0 b1 b2 b3 s_)
noncomputable def r4_sixes (a0 : ByteArray) : M ((Vec Int 16) × Int × Int) :=
 slot 26 >>= fun b1 =>
 slot 26 >>= fun b2 =>
 newv 147 c_weirref4_six (⟨a0, z_weirref4_six.groups, (-1), z_weirref4_six.p, z_weirref4_six.err, z_weirref4_six.at_⟩ : r4_six) >>= fun b3 =>
 r4_two a0 0 >>= fun r4 =>
 if r4 = true then
  st (cI .i64) (Addr.add (pt b3 0) 2) 0 >>= fun _ =>
  st (cI .i64) (Addr.add (pt b3 0) 3) 2 >>= fun _ =>
  r4_sixes.K4 a0 b3 ((a0.size : Int) == 2)
 else
  r4_sixes.K4 a0 b3 false
theorem r4_sixes_ok (a0 : ByteArray) : Ref Tryz.prog 67 [.string a0] (r4_sixes a0) r4_sixes.out := by
 refine Ref.of (cd := r4_sixes.B) Tryz.func67 ?_
 show SJ r4_sixes.cx [.code r4_sixes.B] [(0, .string a0)] [] (r4_sixes a0) r4_sixes.F0
 unfold r4_sixes
 refine SJ.sr 3 <| OJ.slotOf (d := 2) (op := (.alloc 26)) (cd := ((cI .u8).arr 16)) (u := (Vec.rep 16 0)) (owed := []) (alloc_run Ty26) (fun b1 => ?_)
 refine OW.nil <| OJ.go 2 [(4, .int .i64 0), (3, .int .i64 0)] <| OJ.nil <| SJ.sr 1 <| OJ.slotOf (d := 5) (op := (.alloc 26)) (cd := ((cI .u8).arr 16)) (u := (Vec.rep 16 0)) (owed := []) (alloc_run Ty26) (fun b2 => ?_)
 refine OW.nil <| OJ.nil <| SJ.sr 4 <| OJ.go 1 [(11, .string a0)] <| OJ.build (d := 12) (T := 147) (parts := [(0, .tmp 11), (2, .const (.int .i64 (-1)))]) (ps := [(0, cS.val a0), (2, (cI .i64).val (-1))]) (cd := c_weirref4_six) (z0 := z_weirref4_six) (⟨a0, z_weirref4_six.groups, (-1), z_weirref4_six.p, z_weirref4_six.err, z_weirref4_six.at_⟩ : r4_six) Ty147 rfl (Filled.cons (cd := cS) (q := a0) (o := 0) (by kernel_rfl) (Up_weirref4_six_s z_weirref4_six a0) (Filled.cons (cd := (cI .i64)) (q := (-1)) (o := 2) (by kernel_rfl) (Up_weirref4_six_gap (⟨a0, z_weirref4_six.groups, z_weirref4_six.gap, z_weirref4_six.p, z_weirref4_six.err, z_weirref4_six.at_⟩ : r4_six) (-1)) Filled.nil)) ?_
 refine OJ.newOf (d := 13) (op := (.box 147 (.tmp 12))) (cd := c_weirref4_six) (u := (⟨a0, z_weirref4_six.groups, (-1), z_weirref4_six.p, z_weirref4_six.err, z_weirref4_six.at_⟩ : r4_six)) (owed := []) (box_run (by kernel_rfl)) (fun b3 => ?_)
 refine OW.nil <| OJ.go 1 [(6, .pointer (some (pt b3 0)))] <| OJ.nil <| SJ.sr 1 <| OJ.go 1 [(7, .bool false)] <| OJ.nil <| SJ.sr 3 <| OJ.go 1 [(14, .string a0)] <| OJ.call (d := 15) (g := 94) (ats := #[9, 3]) (args := [.tmp 14, .const (.int .i64 0)]) (owed := []) F94 (r4_two_ok a0 0) (fun r4 => ?_)
 refine OW.nil <| OJ.go 1 [(8, .bool r4)] <| OJ.nil <| SJ.seq <| SJ.sr 1 <| OJ.go 1 [(16, .bool r4)] <| OJ.nil <| SJ.cond (t := (.tmp 16)) (b := r4) Iff.rfl (fun hc79 => ?_) (fun hc79 => ?_)
 ·refine SJ.sr 4 <| OJ.go 3 [(19, .pointer (some (Addr.add (pt b3 0) 2))), (18, .pointer (some (pt b3 0))), (17, .pointer (some (pt b3 0)))] <| OJ.st (y := .tmp 19) (z := .const (.int .i64 0)) (owed := []) Ty3 ?_
  refine OW.nil <| OJ.nil <| SJ.sr 4 <| OJ.go 3 [(22, .pointer (some (Addr.add (pt b3 0) 3))), (21, .pointer (some (pt b3 0))), (20, .pointer (some (pt b3 0)))] <| OJ.st (y := .tmp 22) (z := .const (.int .i64 2)) (owed := []) Ty3 ?_
  refine OW.nil <| OJ.nil <| SJ.rg 4 <| OJ.go 4 [(7, .bool ((a0.size : Int) == 2)), (25, .bool ((a0.size : Int) == 2)), (24, .int .i64 (a0.size : Int)), (23, .string a0)] <| OJ.nil <| SJ.less [0, 2, 5, 6, 7] (m' := [(0, .string a0), (2, .pointer (some (pt b1 0))), (5, .pointer (some (pt b2 0))), (6, .pointer (some (pt b3 0))), (7, .bool ((a0.size : Int) == 2))]) ?_
  exact r4_sixes.K4_ok a0 b1 b2 b3 ((a0.size : Int) == 2)
 ·refine SJ.skip <| SJ.less [0, 2, 5, 6, 7] (m' := [(0, .string a0), (2, .pointer (some (pt b1 0))), (5, .pointer (some (pt b2 0))), (6, .pointer (some (pt b3 0))), (7, .bool false)]) ?_
  exact r4_sixes.K4_ok a0 b1 b2 b3 false

/-! ### weir/weirref4.ParseIP: function 36 -/
noncomputable def r4_ParseIP.B : Code := (Tryz.f36.body).getD .skip
noncomputable def r4_ParseIP.cx : Fx := ⟨Tryz.prog, 36, Tryz.f36⟩
noncomputable def r4_ParseIP.out (r_ : (api_IP × Int × Int)) : Value := .tuple #[c_api_IP.val r_.1, .int .i64 r_.2.1, .int .i64 r_.2.2]
noncomputable def r4_ParseIP.F0 (r_ : (api_IP × Int × Int)) : Reach := .ret (r4_ParseIP.out r_)
noncomputable def r4_ParseIP.F1 (b1 : Nat) (r9 : (Sl × Int × Int)) (b10 : Nat) : (LS (Int × api_IP) (api_IP × Int × Int)) → Reach := loopF [.inLoop (c1 (c1 (c2 (c1 (c2 (c2 (c2 (c2 (c2 (c2 r4_ParseIP.B)))))))))), .inBlock 0, .code (c2 (c2 (c2 (c2 (c2 (c2 (c2 r4_ParseIP.B)))))))] (fun s_ : (Int × api_IP) => [(2, .pointer (some (pt b1 0))), (8, Sl.v r9.1), (11, .pointer (some (pt b10 0))), (12, .int .i64 s_.1)]) (fun s_ : (Int × api_IP) => [(b10, c_api_IP.enc s_.2), (b1, c_api_IP.enc z_api_IP)]) r4_ParseIP.F0
noncomputable def r4_ParseIP.L1 (r9 : (Sl × Int × Int)) (s11 : Int) (s12 : api_IP) : M (LS (Int × api_IP) (api_IP × Int × Int)) :=
 if s11 < 4 then
  idx r9.1.a r9.1.len s11 1 >>= fun p18 =>
  ld (cI .u8) p18 >>= fun x19 =>
  chk ((0 : Int) ≤ s11 ∧ s11 < (16 : Nat)) >>= fun _ =>
  pure (LS.next (IntKind.wrap .i64 (s11 + 1), (⟨s12.V, (Vec.s s12.A s11 x19)⟩ : api_IP)))
 else
  pure (LS.done (s12, 0, 0))
theorem r4_ParseIP.L1_ok (b1 : Nat) (r9 : (Sl × Int × Int)) (b10 : Nat) (s11 : Int) (s12 : api_IP) :
  SJ r4_ParseIP.cx [.code (c1 (c1 (c2 (c1 (c2 (c2 (c2 (c2 (c2 (c2 r4_ParseIP.B)))))))))), .inLoop (c1 (c1 (c2 (c1 (c2 (c2 (c2 (c2 (c2 (c2 r4_ParseIP.B)))))))))), .inBlock 0, .code (c2 (c2 (c2 (c2 (c2 (c2 (c2 r4_ParseIP.B)))))))] [(2, .pointer (some (pt b1 0))), (8, Sl.v r9.1), (11, .pointer (some (pt b10 0))), (12, .int .i64 s11)] [(b10, c_api_IP.enc s12), (b1, c_api_IP.enc z_api_IP)] (r4_ParseIP.L1 r9 s11 s12) (r4_ParseIP.F1 b1 r9 b10) := by
 unfold r4_ParseIP.L1
 refine SJ.seq <| SJ.sr 2 <| OJ.go 2 [(45, .bool (decide (s11 < 4))), (44, .int .i64 s11)] <| OJ.nil <| SJ.cond (t := (.tmp 45)) (b := decide (s11 < 4)) decide_eq_true_iff (fun hc22 => ?_) (fun hc22 => ?_)
 ·refine SJ.skip <| SJ.seq <| SJ.block (id := 1) <| SJ.rg 8 <| OJ.go 3 [(50, .int .i64 s11), (49, Sl.v r9.1), (48, .int .i64 s11)] <| OJ.idxS (d := 51) (T := 51) (y := .tmp 49) (j := .tmp 50) (E := 5) (cap := r9.1.cap) (k := .i64) (fun p18 => ?_)
  refine OJ.ld (d := 52) (y := .tmp 51) (pend2 := fun x19 => []) Ty5 (fun _ => rfl) (fun x19 => ?_)
  refine OJ.go 1 [(53, .pointer (some (pt b10 1)))] <| OJ.idxK (d := 54) (T := 26) (y := .tmp 53) (j := .tmp 48) (E := 5) (sz := 1) (b := b10) (o := 1) (k := .i64) (fun hb20 hb21 => ?_)
  refine OJ.kst (y := .tmp 54) (z := .tmp 52) (cd := (cI .u8)) (u := x19) (j := 0) (b := b10) (o := (1 + s11.toNat * 1)) (c_api_IP.enc (⟨s12.V, (Vec.s s12.A s11 x19)⟩ : api_IP)) (owed := []) Ty5 rfl (Upd.trans (At_api_IP_A s12) (Upd.arr hb20 hb21) (Up_api_IP_A s12 (Vec.s s12.A s11 x19))) rfl ?_
  exact OW.nil <| OJ.nil <| SJ.inBlock <| SJ.rg 3 <| OJ.go 3 [(12, .int .i64 (IntKind.wrap .i64 (s11 + 1))), (47, .int .i64 (IntKind.wrap .i64 (s11 + 1))), (46, .int .i64 s11)] <| OJ.nil <| SJ.at_ [2, 8, 11, 12] rfl
 ·refine SJ.exit (id := 0) (by rfl) <| SJ.sr 4 <| OJ.kld (d := 55) (y := .tmp 11) (cd := c_api_IP) (j := 0) (b := b10) (o := 0) s12 (pend2 := []) Ty28 rfl (At.whole _) rfl ?_
  refine OJ.kst (y := .tmp 2) (z := .tmp 55) (cd := c_api_IP) (u := s12) (j := 1) (b := b1) (o := 0) (c_api_IP.enc s12) (owed := []) Ty28 rfl (Upd.whole ((Cod.len _ _).trans (Cod.len _ _).symm)) rfl ?_
  exact OW.nil <| OJ.go 2 [(4, .int .i64 0), (3, .int .i64 0)] <| OJ.nil <| SJ.ret rfl (Res.run (ys := [c_api_IP.val s12, .int .i64 0, .int .i64 0]) (.cell (j := 1) (b := b1) (cd := c_api_IP) (q := s12) (by kernel_rfl) rfl Ty28 (At.whole _) (.tmp (by kernel_rfl) (.tmp (by kernel_rfl) .nil))) rfl)
noncomputable def r4_ParseIP (a0 : ByteArray) : M (api_IP × Int × Int) :=
 slot 28 >>= fun b1 =>
 if (a0.size : Int) > 45 then
  pure (z_api_IP, 2, 45)
 else
  r4_has a0 58 >>= fun r2 =>
  if r2 = true then
   r4_sixes a0 >>= fun r6 =>
   slot 26 >>= fun b7 =>
   if r6.2.1 ≠ 0 then
    pure (z_api_IP, r6.2.1, r6.2.2)
   else
    pure ((⟨6, r6.1⟩ : api_IP), 0, 0)
  else
   r4_dotted a0 0 >>= fun r9 =>
   if r9.2.1 ≠ 0 then
    pure (z_api_IP, r9.2.1, r9.2.2)
   else
    slot 28 >>= fun b10 =>
    loopM (fun s_ : (Int × api_IP) => r4_ParseIP.L1 r9 s_.1 s_.2) (0, (⟨4, z_api_IP.A⟩ : api_IP))
theorem r4_ParseIP_ok (a0 : ByteArray) : Ref Tryz.prog 36 [.string a0] (r4_ParseIP a0) r4_ParseIP.out := by
 refine Ref.of (cd := r4_ParseIP.B) Tryz.func36 ?_
 show SJ r4_ParseIP.cx [.code r4_ParseIP.B] [(0, .string a0)] [] (r4_ParseIP a0) r4_ParseIP.F0
 unfold r4_ParseIP
 refine SJ.sr 3 <| OJ.slotOf (d := 2) (op := (.alloc 28)) (cd := c_api_IP) (u := z_api_IP) (owed := []) (alloc_run Ty28) (fun b1 => ?_)
 refine OW.nil <| OJ.go 2 [(4, .int .i64 0), (3, .int .i64 0)] <| OJ.nil <| SJ.seq <| SJ.sr 3 <| OJ.go 3 [(15, .bool (decide ((a0.size : Int) > 45))), (14, .int .i64 (a0.size : Int)), (13, .string a0)] <| OJ.nil <| SJ.cond (t := (.tmp 15)) (b := decide ((a0.size : Int) > 45)) decide_eq_true_iff (fun hc25 => ?_) (fun hc25 => ?_)
 ·refine SJ.sr 4 <| OJ.build (d := 16) (T := 28) (parts := []) (ps := []) (cd := c_api_IP) (z0 := z_api_IP) z_api_IP Ty28 rfl Filled.nil ?_
  refine OJ.kst (y := .tmp 2) (z := .tmp 16) (cd := c_api_IP) (u := z_api_IP) (j := 0) (b := b1) (o := 0) (c_api_IP.enc z_api_IP) (owed := []) Ty28 rfl (Upd.whole ((Cod.len _ _).trans (Cod.len _ _).symm)) rfl ?_
  exact OW.nil <| OJ.go 2 [(4, .int .i64 45), (3, .int .i64 2)] <| OJ.nil <| SJ.ret rfl (Res.run (ys := [c_api_IP.val z_api_IP, .int .i64 2, .int .i64 45]) (.cell (j := 0) (b := b1) (cd := c_api_IP) (q := z_api_IP) (by kernel_rfl) rfl Ty28 (At.whole _) (.tmp (by kernel_rfl) (.tmp (by kernel_rfl) .nil))) rfl)
 ·refine SJ.skip <| SJ.seq <| SJ.sr 2 <| OJ.go 1 [(17, .string a0)] <| OJ.call (d := 18) (g := 66) (ats := #[9, 5]) (args := [.tmp 17, .const (.int .u8 58)]) (owed := []) F66 (r4_has_ok a0 58) (fun r2 => ?_)
  refine OW.nil <| OJ.nil <| SJ.cond (t := (.tmp 18)) (b := r2) Iff.rfl (fun hc24 => ?_) (fun hc24 => ?_)
  ·refine SJ.sr 10 <| OJ.go 1 [(20, .string a0)] <| OJ.call (d := 21) (g := 67) (ats := #[9]) (args := [.tmp 20]) (owed := []) F67 (r4_sixes_ok a0) (fun r6 => ?_)
   refine OW.nil <| OJ.go 4 [(24, .int .i64 r6.2.2), (23, .int .i64 r6.2.1), (22, ((cI .u8).arr 16).val r6.1), (19, .tuple #[((cI .u8).arr 16).val r6.1, .int .i64 r6.2.1, .int .i64 r6.2.2])] <| OJ.slotOf (d := 5) (op := (.alloc 26)) (cd := ((cI .u8).arr 16)) (u := (Vec.rep 16 0)) (owed := []) (alloc_run Ty26) (fun b7 => ?_)
   refine OW.nil <| OJ.kst (y := .tmp 5) (z := .tmp 22) (cd := ((cI .u8).arr 16)) (u := r6.1) (j := 0) (b := b7) (o := 0) (((cI .u8).arr 16).enc r6.1) (owed := []) Ty26 rfl (Upd.whole ((Cod.len _ _).trans (Cod.len _ _).symm)) rfl ?_
   refine OW.nil <| OJ.go 2 [(7, .int .i64 r6.2.2), (6, .int .i64 r6.2.1)] <| OJ.nil <| SJ.seq <| SJ.sr 2 <| OJ.go 2 [(26, .bool (r6.2.1 != 0)), (25, .int .i64 r6.2.1)] <| OJ.nil <| SJ.cond (t := (.tmp 26)) (b := (r6.2.1 != 0)) bne_iff_ne (fun hc8 => ?_) (fun hc8 => ?_)
   ·refine SJ.sr 6 <| OJ.build (d := 27) (T := 28) (parts := []) (ps := []) (cd := c_api_IP) (z0 := z_api_IP) z_api_IP Ty28 rfl Filled.nil ?_
    refine OJ.go 2 [(29, .int .i64 r6.2.2), (28, .int .i64 r6.2.1)] <| OJ.kst (y := .tmp 2) (z := .tmp 27) (cd := c_api_IP) (u := z_api_IP) (j := 1) (b := b1) (o := 0) (c_api_IP.enc z_api_IP) (owed := []) Ty28 rfl (Upd.whole ((Cod.len _ _).trans (Cod.len _ _).symm)) rfl ?_
    exact OW.nil <| OJ.go 2 [(4, .int .i64 r6.2.2), (3, .int .i64 r6.2.1)] <| OJ.nil <| SJ.ret rfl (Res.run (ys := [c_api_IP.val z_api_IP, .int .i64 r6.2.1, .int .i64 r6.2.2]) (.cell (j := 1) (b := b1) (cd := c_api_IP) (q := z_api_IP) (by kernel_rfl) rfl Ty28 (At.whole _) (.tmp (by kernel_rfl) (.tmp (by kernel_rfl) .nil))) rfl)
   ·refine SJ.skip <| SJ.sr 5 <| OJ.kld (d := 30) (y := .tmp 5) (cd := ((cI .u8).arr 16)) (j := 0) (b := b7) (o := 0) r6.1 (pend2 := []) Ty26 rfl (At.whole _) rfl ?_
    refine OJ.build (d := 31) (T := 28) (parts := [(0, .const (.int .i64 6)), (1, .tmp 30)]) (ps := [(0, (cI .i64).val 6), (1, ((cI .u8).arr 16).val r6.1)]) (cd := c_api_IP) (z0 := z_api_IP) (⟨6, r6.1⟩ : api_IP) Ty28 rfl (Filled.cons (cd := (cI .i64)) (q := 6) (o := 0) (by kernel_rfl) (Up_api_IP_V z_api_IP 6) (Filled.cons (cd := ((cI .u8).arr 16)) (q := r6.1) (o := 1) (by kernel_rfl) (Up_api_IP_A (⟨6, z_api_IP.A⟩ : api_IP) r6.1) Filled.nil)) ?_
    refine OJ.kst (y := .tmp 2) (z := .tmp 31) (cd := c_api_IP) (u := (⟨6, r6.1⟩ : api_IP)) (j := 1) (b := b1) (o := 0) (c_api_IP.enc (⟨6, r6.1⟩ : api_IP)) (owed := []) Ty28 rfl (Upd.whole ((Cod.len _ _).trans (Cod.len _ _).symm)) rfl ?_
    exact OW.nil <| OJ.go 2 [(4, .int .i64 0), (3, .int .i64 0)] <| OJ.nil <| SJ.ret rfl (Res.run (ys := [c_api_IP.val (⟨6, r6.1⟩ : api_IP), .int .i64 0, .int .i64 0]) (.cell (j := 1) (b := b1) (cd := c_api_IP) (q := (⟨6, r6.1⟩ : api_IP)) (by kernel_rfl) rfl Ty28 (At.whole _) (.tmp (by kernel_rfl) (.tmp (by kernel_rfl) .nil))) rfl)
  ·refine SJ.skip <| SJ.sr 9 <| OJ.go 1 [(33, .string a0)] <| OJ.call (d := 34) (g := 68) (ats := #[9, 3]) (args := [.tmp 33, .const (.int .i64 0)]) (owed := []) F68 (r4_dotted_ok a0 0) (fun r9 => ?_)
   refine OW.nil <| OJ.go 7 [(10, .int .i64 r9.2.2), (9, .int .i64 r9.2.1), (8, Sl.v r9.1), (37, .int .i64 r9.2.2), (36, .int .i64 r9.2.1), (35, Sl.v r9.1), (32, .tuple #[Sl.v r9.1, .int .i64 r9.2.1, .int .i64 r9.2.2])] <| OJ.nil <| SJ.seq <| SJ.sr 2 <| OJ.go 2 [(39, .bool (r9.2.1 != 0)), (38, .int .i64 r9.2.1)] <| OJ.nil <| SJ.cond (t := (.tmp 39)) (b := (r9.2.1 != 0)) bne_iff_ne (fun hc23 => ?_) (fun hc23 => ?_)
   ·refine SJ.sr 6 <| OJ.build (d := 40) (T := 28) (parts := []) (ps := []) (cd := c_api_IP) (z0 := z_api_IP) z_api_IP Ty28 rfl Filled.nil ?_
    refine OJ.go 2 [(42, .int .i64 r9.2.2), (41, .int .i64 r9.2.1)] <| OJ.kst (y := .tmp 2) (z := .tmp 40) (cd := c_api_IP) (u := z_api_IP) (j := 0) (b := b1) (o := 0) (c_api_IP.enc z_api_IP) (owed := []) Ty28 rfl (Upd.whole ((Cod.len _ _).trans (Cod.len _ _).symm)) rfl ?_
    exact OW.nil <| OJ.go 2 [(4, .int .i64 r9.2.2), (3, .int .i64 r9.2.1)] <| OJ.nil <| SJ.ret rfl (Res.run (ys := [c_api_IP.val z_api_IP, .int .i64 r9.2.1, .int .i64 r9.2.2]) (.cell (j := 0) (b := b1) (cd := c_api_IP) (q := z_api_IP) (by kernel_rfl) rfl Ty28 (At.whole _) (.tmp (by kernel_rfl) (.tmp (by kernel_rfl) .nil))) rfl)
   ·refine SJ.skip <| SJ.sr 3 <| OJ.build (d := 43) (T := 28) (parts := [(0, .const (.int .i64 4))]) (ps := [(0, (cI .i64).val 4)]) (cd := c_api_IP) (z0 := z_api_IP) (⟨4, z_api_IP.A⟩ : api_IP) Ty28 rfl (Filled.cons (cd := (cI .i64)) (q := 4) (o := 0) (by kernel_rfl) (Up_api_IP_V z_api_IP 4) Filled.nil) ?_
    refine OJ.slotOf (d := 11) (op := (.alloc 28)) (cd := c_api_IP) (u := z_api_IP) (owed := []) (alloc_run Ty28) (fun b10 => ?_)
    refine OW.nil <| OJ.kst (y := .tmp 11) (z := .tmp 43) (cd := c_api_IP) (u := (⟨4, z_api_IP.A⟩ : api_IP)) (j := 0) (b := b10) (o := 0) (c_api_IP.enc (⟨4, z_api_IP.A⟩ : api_IP)) (owed := []) Ty28 rfl (Upd.whole ((Cod.len _ _).trans (Cod.len _ _).symm)) rfl ?_
    exact OW.nil <| OJ.nil <| SJ.seq <| SJ.sr 1 <| OJ.go 1 [(12, .int .i64 0)] <| OJ.nil <| SJ.block (id := 0) <| SJ.loop (fun s_ : (Int × api_IP) => [(2, .pointer (some (pt b1 0))), (8, Sl.v r9.1), (11, .pointer (some (pt b10 0))), (12, .int .i64 s_.1)]) (fun s_ : (Int × api_IP) => [(b10, c_api_IP.enc s_.2), (b1, c_api_IP.enc z_api_IP)]) [2, 8, 11, 12] rfl (fun _ _ => rfl) (fun s_ => r4_ParseIP.L1_ok b1 r9 b10 s_.1 s_.2)

/-! ### internal/stringslite.Cut: function 98 -/
noncomputable def stringslite_Cut.B : Code := (Tryz.f98.body).getD .skip
noncomputable def stringslite_Cut.cx : Fx := ⟨Tryz.prog, 98, Tryz.f98⟩
noncomputable def stringslite_Cut.out (r_ : (ByteArray × ByteArray × Bool)) : Value := .tuple #[.string r_.1, .string r_.2.1, .bool r_.2.2]
noncomputable def stringslite_Cut.F0 (r_ : (ByteArray × ByteArray × Bool)) : Reach := .ret (stringslite_Cut.out r_)
noncomputable def stringslite_Cut (a0 : ByteArray) (a1 : ByteArray) : M (ByteArray × ByteArray × Bool) :=
 stringslite_Index a0 a1 >>= fun r1 =>
 if r1 ≥ 0 then
  draw >>= fun _ =>
  chk (0 ≤ (0 : Int) ∧ (0 : Int) ≤ r1 ∧ r1 ≤ (a0.size : Int)) >>= fun _ =>
  chk (0 ≤ ((IntKind.wrap .i64 (r1 + (a1.size : Int))) : Int) ∧ ((IntKind.wrap .i64 (r1 + (a1.size : Int))) : Int) ≤ (a0.size : Int) ∧ (a0.size : Int) ≤ (a0.size : Int)) >>= fun _ =>
  pure ((ByteArray.extract a0 (Int.toNat 0) (Int.toNat r1)), (ByteArray.extract a0 (Int.toNat (IntKind.wrap .i64 (r1 + (a1.size : Int)))) (Int.toNat (a0.size : Int))), true)
 else
  pure (a0, ByteArray.empty, false)
theorem stringslite_Cut_ok (a0 : ByteArray) (a1 : ByteArray) : Ref Tryz.prog 98 [.string a0, .string a1] (stringslite_Cut a0 a1) stringslite_Cut.out := by
 refine Ref.of (cd := stringslite_Cut.B) Tryz.func98 ?_
 show SJ stringslite_Cut.cx [.code stringslite_Cut.B] [(0, .string a0), (1, .string a1)] [] (stringslite_Cut a0 a1) stringslite_Cut.F0
 unfold stringslite_Cut
 refine SJ.sr 3 <| OJ.go 3 [(6, .bool false), (5, .string ByteArray.empty), (4, .string ByteArray.empty)] <| OJ.nil <| SJ.seq <| SJ.sr 4 <| OJ.go 2 [(9, .string a1), (8, .string a0)] <| OJ.call (d := 10) (g := 84) (ats := #[9, 9]) (args := [.tmp 8, .tmp 9]) (owed := []) F84 (stringslite_Index_ok a0 a1) (fun r1 => ?_)
 refine OW.nil <| OJ.go 1 [(7, .int .i64 r1)] <| OJ.nil <| SJ.sr 2 <| OJ.go 2 [(12, .bool (decide (r1 ≥ 0))), (11, .int .i64 r1)] <| OJ.nil <| SJ.cond (t := (.tmp 12)) (b := decide (r1 ≥ 0)) decide_eq_true_iff (fun hc2 => ?_) (fun hc2 => ?_)
 ·refine SJ.seq <| SJ.draw (id := 3) (kd := [0, 0, 0, 0, 0, 0, 0, 0, 0, 0, 0, 0]) (bef := [0, 0, 3, 0, 0, 0, 32, 112, 248, 7, 1023, 2047]) (ord := [0, 1, 2, 3, 4, 5, 6, 7, 8, 9, 10, 11]) mixed ?_
  refine OJ.go 2 [(14, .int .i64 r1), (13, .string a0)] <| OJ.cutT (d := 15) (t := 9) (y := .tmp 13) (lo := none) (hi := (some (.tmp 14))) (lo' := none) (hi' := some (.i64, r1)) ?_
  refine OJ.go 5 [(20, .int .i64 (IntKind.wrap .i64 (r1 + (a1.size : Int)))), (19, .int .i64 (a1.size : Int)), (18, .string a1), (17, .int .i64 r1), (16, .string a0)] <| OJ.cutT (d := 21) (t := 9) (y := .tmp 16) (lo := (some (.tmp 20))) (hi := none) (lo' := some (.i64, IntKind.wrap .i64 (r1 + (a1.size : Int)))) (hi' := none) ?_
  exact OJ.go 3 [(6, .bool true), (5, .string (ByteArray.extract a0 (Int.toNat (IntKind.wrap .i64 (r1 + (a1.size : Int)))) (Int.toNat (a0.size : Int)))), (4, .string (ByteArray.extract a0 (Int.toNat 0) (Int.toNat r1)))] <| OJ.nil <| SJ.r3 (.string (ByteArray.extract a0 (Int.toNat 0) (Int.toNat r1))) (.string (ByteArray.extract a0 (Int.toNat (IntKind.wrap .i64 (r1 + (a1.size : Int)))) (Int.toNat (a0.size : Int)))) (.bool true) rfl rfl
 ·exact SJ.skip <| SJ.sr 4 <| OJ.go 4 [(6, .bool false), (5, .string ByteArray.empty), (4, .string a0), (22, .string a0)] <| OJ.nil <| SJ.r3 (.string a0) (.string ByteArray.empty) (.bool false) rfl rfl

/-! ### strings.Cut: function 69 -/
noncomputable def strings_Cut.B : Code := (Tryz.f69.body).getD .skip
noncomputable def strings_Cut.cx : Fx := ⟨Tryz.prog, 69, Tryz.f69⟩
noncomputable def strings_Cut.out (r_ : (ByteArray × ByteArray × Bool)) : Value := .tuple #[.string r_.1, .string r_.2.1, .bool r_.2.2]
noncomputable def strings_Cut.F0 (r_ : (ByteArray × ByteArray × Bool)) : Reach := .ret (strings_Cut.out r_)
noncomputable def strings_Cut (a0 : ByteArray) (a1 : ByteArray) : M (ByteArray × ByteArray × Bool) :=
 stringslite_Cut a0 a1 >>= fun r1 =>
 pure (r1.1, r1.2.1, r1.2.2)
theorem strings_Cut_ok (a0 : ByteArray) (a1 : ByteArray) : Ref Tryz.prog 69 [.string a0, .string a1] (strings_Cut a0 a1) strings_Cut.out := by
 refine Ref.of (cd := strings_Cut.B) Tryz.func69 ?_
 show SJ strings_Cut.cx [.code strings_Cut.B] [(0, .string a0), (1, .string a1)] [] (strings_Cut a0 a1) strings_Cut.F0
 unfold strings_Cut
 refine SJ.sr 3 <| OJ.go 3 [(6, .bool false), (5, .string ByteArray.empty), (4, .string ByteArray.empty)] <| OJ.nil <| SJ.sr 9 <| OJ.go 2 [(8, .string a1), (7, .string a0)] <| OJ.call (d := 9) (g := 98) (ats := #[9, 9]) (args := [.tmp 7, .tmp 8]) (owed := []) F98 (stringslite_Cut_ok a0 a1) (fun r1 => ?_)
 exact OW.nil <| OJ.go 6 [(6, .bool r1.2.2), (5, .string r1.2.1), (4, .string r1.1), (12, .bool r1.2.2), (11, .string r1.2.1), (10, .string r1.1)] <| OJ.nil <| SJ.r3 (.string r1.1) (.string r1.2.1) (.bool r1.2.2) rfl rfl

/-! ### weir/addr.ValidPrefix: function 47 -/
noncomputable def addr_ValidPrefix.B : Code := (Tryz.f47.body).getD .skip
noncomputable def addr_ValidPrefix.cx : Fx := ⟨Tryz.prog, 47, Tryz.f47⟩
noncomputable def addr_ValidPrefix.out (r_ : Int) : Value := .int .i64 r_
noncomputable def addr_ValidPrefix.F0 (r_ : Int) : Reach := .ret (addr_ValidPrefix.out r_)
noncomputable def addr_ValidPrefix (a0 : api_Prefix) : M Int :=
 slot 38 >>= fun b1 =>
 addr_size a0.IP >>= fun r2 =>
 if r2 = 0 then
  pure 40
 else
  (if a0.Len < 0 then
    pure true
   else
    pure (decide (a0.Len > r2))) >>= fun y9 =>
  if y9 = true then
   pure 45
  else
   draw >>= fun _ =>
   addr_masked a0.IP.A a0.Len >>= fun r12 =>
   if ¬ (r12 = a0.IP.A) then
    pure 46
   else
    pure 0
theorem addr_ValidPrefix_ok (a0 : api_Prefix) : Ref Tryz.prog 47 [c_api_Prefix.val a0] (addr_ValidPrefix a0) addr_ValidPrefix.out := by
 refine Ref.of (cd := addr_ValidPrefix.B) Tryz.func47 ?_
 show SJ addr_ValidPrefix.cx [.code addr_ValidPrefix.B] [(0, c_api_Prefix.val a0)] [] (addr_ValidPrefix a0) addr_ValidPrefix.F0
 unfold addr_ValidPrefix
 refine SJ.sr 2 <| OJ.slotOf (d := 1) (op := (.box 38 (.tmp 0))) (cd := c_api_Prefix) (u := a0) (owed := []) (box_run (by kernel_rfl)) (fun b1 => ?_)
 refine OW.nil <| OJ.go 1 [(2, .int .i64 0)] <| OJ.nil <| SJ.seq <| SJ.sr 4 <| OJ.go 1 [(4, .pointer (some (pt b1 0)))] <| OJ.kld (d := 5) (y := .tmp 4) (cd := c_api_IP) (j := 0) (b := b1) (o := 0) a0.IP (pend2 := []) Ty28 rfl (At_api_Prefix_IP a0) rfl ?_
 refine OJ.call (d := 6) (g := 32) (ats := #[28]) (args := [.tmp 5]) (owed := []) F32 (addr_size_ok a0.IP) (fun r2 => ?_)
 refine OW.nil <| OJ.go 1 [(3, .int .i64 r2)] <| OJ.nil <| SJ.block (id := 0) <| SJ.sr 3 <| OJ.go 3 [(7, .bool (r2 == 0)), (9, .bool (r2 == 0)), (8, .int .i64 r2)] <| OJ.nil <| SJ.cond (t := (.tmp 7)) (b := (r2 == 0)) beq_iff_eq (fun hc15 => ?_) (fun hc15 => ?_)
 ·exact SJ.sr 1 <| OJ.go 1 [(2, .int .i64 40)] <| OJ.nil <| SJ.r1 (.int .i64 40) rfl rfl
 ·refine SJ.sr 10 <| OJ.go 1 [(11, .pointer (some (pt b1 17)))] <| OJ.kld (d := 12) (y := .tmp 11) (cd := (cI .i64)) (j := 0) (b := b1) (o := 17) a0.Len (pend2 := []) Ty3 rfl (At_api_Prefix_Len a0) rfl ?_
  refine OJ.go 2 [(14, .bool (decide (a0.Len < 0))), (13, .bool (decide (a0.Len < 0)))] <| OJ.join (b := decide (a0.Len < 0)) [4, 5, 6, 7, 8] [9] [1, 19] (fun y9 => [(1, .pointer (some (pt b1 0))), (19, .bool y9)]) [] [] (t := 14) decide_eq_true_iff (fun hp_ => ?_) (fun hp_ => ?_) (fun _ _ _ _ _ _ h_ => h_) (fun y9 => ?_)
  ·exact OJ.go 5 [(19, .bool true), (18, undef), (17, undef), (16, undef), (15, undef)] <| OJ.x0
  ·refine OJ.go 1 [(15, .pointer (some (pt b1 17)))] <| OJ.kld (d := 16) (y := .tmp 15) (cd := (cI .i64)) (j := 0) (b := b1) (o := 17) a0.Len (pend2 := []) Ty3 rfl (At_api_Prefix_Len a0) rfl ?_
   exact OJ.go 3 [(19, .bool (decide (a0.Len > r2))), (18, .bool (decide (a0.Len > r2))), (17, .int .i64 r2)] <| OJ.x0
  ·refine OJ.go 1 [(10, .bool y9)] <| OJ.nil <| SJ.cond (t := (.tmp 10)) (b := y9) Iff.rfl (fun hc14 => ?_) (fun hc14 => ?_)
   ·exact SJ.sr 1 <| OJ.go 1 [(2, .int .i64 45)] <| OJ.nil <| SJ.r1 (.int .i64 45) rfl rfl
   ·refine SJ.seq <| SJ.draw (id := 6) (kd := [0, 0, 1, 0, 1, 2, 0, 0, 1, 0, 0]) (bef := [0, 1, 3, 0, 8, 31, 0, 64, 192, 511, 1023]) (ord := [0, 1, 2, 3, 4, 6, 7, 8, 5, 9, 10]) mixed ?_
    refine OJ.go 2 [(22, .pointer (some (pt b1 1))), (21, .pointer (some (pt b1 0)))] <| OJ.kld (d := 23) (y := .tmp 22) (cd := ((cI .u8).arr 16)) (j := 0) (b := b1) (o := 1) a0.IP.A (pend2 := [⟨2, 26, (pt b1 1), ((cI .u8).arr 16).val a0.IP.A⟩]) Ty26 rfl (At.trans (At_api_Prefix_IP a0) (At_api_IP_A a0.IP)) rfl ?_
    refine OJ.go 1 [(24, .pointer (some (pt b1 17)))] <| OJ.kld (d := 25) (y := .tmp 24) (cd := (cI .i64)) (j := 0) (b := b1) (o := 17) a0.Len (pend2 := [⟨4, 3, (pt b1 17), (cI .i64).val a0.Len⟩, ⟨2, 26, (pt b1 1), ((cI .u8).arr 16).val a0.IP.A⟩]) Ty3 rfl (At_api_Prefix_Len a0) rfl ?_
    refine OJ.go 2 [(28, .pointer (some (pt b1 1))), (27, .pointer (some (pt b1 0)))] <| OJ.kld (d := 29) (y := .tmp 28) (cd := ((cI .u8).arr 16)) (j := 0) (b := b1) (o := 1) a0.IP.A (pend2 := [⟨8, 26, (pt b1 1), ((cI .u8).arr 16).val a0.IP.A⟩, ⟨4, 3, (pt b1 17), (cI .i64).val a0.Len⟩, ⟨2, 26, (pt b1 1), ((cI .u8).arr 16).val a0.IP.A⟩]) Ty26 rfl (At.trans (At_api_Prefix_IP a0) (At_api_IP_A a0.IP)) rfl ?_
    refine OJ.call (d := 26) (g := 20) (ats := #[26, 3]) (args := [.tmp 23, .tmp 25]) (owed := [⟨8, 26, (pt b1 1), ((cI .u8).arr 16).val a0.IP.A⟩]) F20 (addr_masked_ok a0.IP.A a0.Len) (fun r12 => ?_)
    refine OW.known (j := 0) (q := a0.IP.A) Ty26 rfl (At.trans (At_api_Prefix_IP a0) (At_api_IP_A a0.IP)) ?_
    refine OW.nil <| OJ.neq (d := 30) (T := 26) (yT := 26) (y := .tmp 26) (z := .tmp 29) (cd := ((cI .u8).arr 16)) (p := r12) (q := a0.IP.A) rfl Eq26 ?_
    refine OJ.go 1 [(20, .bool (!eqv r12 a0.IP.A))] <| OJ.nil <| SJ.cond (t := (.tmp 20)) (b := (!eqv r12 a0.IP.A)) (bnot_iff eqv_iff) (fun hc13 => ?_) (fun hc13 => ?_)
    ·exact SJ.sr 1 <| OJ.go 1 [(2, .int .i64 46)] <| OJ.nil <| SJ.r1 (.int .i64 46) rfl rfl
    ·exact SJ.skip <| SJ.inBlock <| SJ.sr 1 <| OJ.go 1 [(2, .int .i64 0)] <| OJ.nil <| SJ.r1 (.int .i64 0) rfl rfl
end Go.Proofs.YtddmmgcfanpmmaaGreatDoor.Lx
