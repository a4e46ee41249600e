/- Programs of the M-world for Go functions, each with the proof that the Go text does what it says. Printed by lxgen.py. -/
import Derived.Test.YtfgcobigollfjaaDoorLxT
import Derived.Test.YtfgcobigollfjaaDoorLxP0
import Derived.Test.YtfgcobigollfjaaDoorLxP1
import Derived.Test.YtfgcobigollfjaaDoorLxP2
set_option linter.unusedVariables false
set_option linter.unusedSimpArgs false
set_option linter.unusedSectionVars false
namespace Go.Proofs.YtfgcobigollfjaaDoor.Lx
open Go Go.Proofs
variable [Loops]
/-! ### slices.choosePivotCmpFunc[weir/api.Route]: function 73 -/
noncomputable def slices_choosePivotCmpFunc_api_Route.B : Code := (Tryd.f73.body).getD .skip
noncomputable def slices_choosePivotCmpFunc_api_Route.cx : Fx := ⟨Tryd.prog, 73, Tryd.f73, none⟩
noncomputable def slices_choosePivotCmpFunc_api_Route.out (r_ : (Int × Int)) : Value := .tuple #[.int .i64 r_.1, .int .i64 r_.2]
noncomputable def slices_choosePivotCmpFunc_api_Route.F0 (r_ : (Int × Int)) : Reach := .ret (slices_choosePivotCmpFunc_api_Route.out r_)
noncomputable def slices_choosePivotCmpFunc_api_Route (a0 : Sl) (a1 : Int) (a2 : Int) (a3 : api_Route → api_Route → M Int) : M (Int × Int) :=
 newv 3 (cI .i64) 0 >>= fun b1 =>
 if (IntKind.wrap .i64 (a2 - a1)) ≥ 8 then
  if (IntKind.wrap .i64 (a2 - a1)) ≥ 50 then
   slices_medianAdjacentCmpFunc_api_Route a0 (IntKind.wrap .i64 (a1 + (IntKind.wrap .i64 ((IntKind.wrap .i64 (Int.tdiv (IntKind.wrap .i64 (a2 - a1)) 4)) * 1)))) (some (pt b1 0)) a3 >>= fun r14 =>
   slices_medianAdjacentCmpFunc_api_Route a0 (IntKind.wrap .i64 (a1 + (IntKind.wrap .i64 ((IntKind.wrap .i64 (Int.tdiv (IntKind.wrap .i64 (a2 - a1)) 4)) * 2)))) (some (pt b1 0)) a3 >>= fun r15 =>
   slices_medianAdjacentCmpFunc_api_Route a0 (IntKind.wrap .i64 (a1 + (IntKind.wrap .i64 ((IntKind.wrap .i64 (Int.tdiv (IntKind.wrap .i64 (a2 - a1)) 4)) * 3)))) (some (pt b1 0)) a3 >>= fun r16 =>
   slices_medianCmpFunc_api_Route a0 r14 r15 r16 (some (pt b1 0)) a3 >>= fun r17 =>
   ld (cI .i64) (pt b1 0) >>= fun x18 =>
   if x18 = 0 then
    pure (r17, 1)
   else
    if x18 = 12 then
     pure (r17, 2)
    else
     pure (r17, 0)
  else
   slices_medianCmpFunc_api_Route a0 (IntKind.wrap .i64 (a1 + (IntKind.wrap .i64 ((IntKind.wrap .i64 (Int.tdiv (IntKind.wrap .i64 (a2 - a1)) 4)) * 1)))) (IntKind.wrap .i64 (a1 + (IntKind.wrap .i64 ((IntKind.wrap .i64 (Int.tdiv (IntKind.wrap .i64 (a2 - a1)) 4)) * 2)))) (IntKind.wrap .i64 (a1 + (IntKind.wrap .i64 ((IntKind.wrap .i64 (Int.tdiv (IntKind.wrap .i64 (a2 - a1)) 4)) * 3)))) (some (pt b1 0)) a3 >>= fun r22 =>
   ld (cI .i64) (pt b1 0) >>= fun x23 =>
   if x23 = 0 then
    pure (r22, 1)
   else
    if x23 = 12 then
     pure (r22, 2)
    else
     pure (r22, 0)
 else
  ld (cI .i64) (pt b1 0) >>= fun x28 =>
  if x28 = 0 then
   pure (IntKind.wrap .i64 (a1 + (IntKind.wrap .i64 ((IntKind.wrap .i64 (Int.tdiv (IntKind.wrap .i64 (a2 - a1)) 4)) * 2))), 1)
  else
   if x28 = 12 then
    pure (IntKind.wrap .i64 (a1 + (IntKind.wrap .i64 ((IntKind.wrap .i64 (Int.tdiv (IntKind.wrap .i64 (a2 - a1)) 4)) * 2))), 2)
   else
    pure (IntKind.wrap .i64 (a1 + (IntKind.wrap .i64 ((IntKind.wrap .i64 (Int.tdiv (IntKind.wrap .i64 (a2 - a1)) 4)) * 2))), 0)
theorem slices_choosePivotCmpFunc_api_Route_ok (a0 : Sl) (a1 : Int) (a2 : Int) (a3v : Any) (a3 : api_Route → api_Route → M Int) (h_a3 : ∀ (x0_ : api_Route), ∀ (x1_ : api_Route), RefV Tryd.prog a3v.v [c_api_Route.val x0_, c_api_Route.val x1_] (a3 x0_ x1_) (fun r_ : Int => .int .i64 r_)) : Ref Tryd.prog 73 [Sl.v a0, .int .i64 a1, .int .i64 a2, a3v.v] (slices_choosePivotCmpFunc_api_Route a0 a1 a2 a3) slices_choosePivotCmpFunc_api_Route.out := by
 refine Ref.of (cd := slices_choosePivotCmpFunc_api_Route.B) Tryd.func73 ?_
 show SJ slices_choosePivotCmpFunc_api_Route.cx [.code slices_choosePivotCmpFunc_api_Route.B] [(0, Sl.v a0), (1, .int .i64 a1), (2, .int .i64 a2), (3, a3v.v)] [] (slices_choosePivotCmpFunc_api_Route a0 a1 a2 a3) slices_choosePivotCmpFunc_api_Route.F0
 unfold slices_choosePivotCmpFunc_api_Route
 refine SJ.sr 2 <| OJ.go 2 [(9, .int .i64 0), (8, .int .i64 0)] <| OJ.nil <| SJ.sr 4 <| OJ.go 4 [(10, .int .i64 (IntKind.wrap .i64 (a2 - a1))), (17, .int .i64 (IntKind.wrap .i64 (a2 - a1))), (16, .int .i64 a1), (15, .int .i64 a2)] <| OJ.nil <| SJ.sr 1 <| OJ.newOf (d := 11) (op := (.alloc 3)) (cd := (cI .i64)) (u := 0) (owed := []) (alloc_run Ty3) (fun b1 => ?_)
 refine OW.nil <| OJ.nil <| SJ.sr 6 <| OJ.go 6 [(12, .int .i64 (IntKind.wrap .i64 (a1 + (IntKind.wrap .i64 ((IntKind.wrap .i64 (Int.tdiv (IntKind.wrap .i64 (a2 - a1)) 4)) * 1))))), (22, .int .i64 (IntKind.wrap .i64 (a1 + (IntKind.wrap .i64 ((IntKind.wrap .i64 (Int.tdiv (IntKind.wrap .i64 (a2 - a1)) 4)) * 1))))), (21, .int .i64 (IntKind.wrap .i64 ((IntKind.wrap .i64 (Int.tdiv (IntKind.wrap .i64 (a2 - a1)) 4)) * 1))), (20, .int .i64 (IntKind.wrap .i64 (Int.tdiv (IntKind.wrap .i64 (a2 - a1)) 4))), (19, .int .i64 (IntKind.wrap .i64 (a2 - a1))), (18, .int .i64 a1)] <| OJ.nil <| SJ.sr 6 <| OJ.go 6 [(13, .int .i64 (IntKind.wrap .i64 (a1 + (IntKind.wrap .i64 ((IntKind.wrap .i64 (Int.tdiv (IntKind.wrap .i64 (a2 - a1)) 4)) * 2))))), (27, .int .i64 (IntKind.wrap .i64 (a1 + (IntKind.wrap .i64 ((IntKind.wrap .i64 (Int.tdiv (IntKind.wrap .i64 (a2 - a1)) 4)) * 2))))), (26, .int .i64 (IntKind.wrap .i64 ((IntKind.wrap .i64 (Int.tdiv (IntKind.wrap .i64 (a2 - a1)) 4)) * 2))), (25, .int .i64 (IntKind.wrap .i64 (Int.tdiv (IntKind.wrap .i64 (a2 - a1)) 4))), (24, .int .i64 (IntKind.wrap .i64 (a2 - a1))), (23, .int .i64 a1)] <| OJ.nil <| SJ.sr 6 <| OJ.go 6 [(14, .int .i64 (IntKind.wrap .i64 (a1 + (IntKind.wrap .i64 ((IntKind.wrap .i64 (Int.tdiv (IntKind.wrap .i64 (a2 - a1)) 4)) * 3))))), (32, .int .i64 (IntKind.wrap .i64 (a1 + (IntKind.wrap .i64 ((IntKind.wrap .i64 (Int.tdiv (IntKind.wrap .i64 (a2 - a1)) 4)) * 3))))), (31, .int .i64 (IntKind.wrap .i64 ((IntKind.wrap .i64 (Int.tdiv (IntKind.wrap .i64 (a2 - a1)) 4)) * 3))), (30, .int .i64 (IntKind.wrap .i64 (Int.tdiv (IntKind.wrap .i64 (a2 - a1)) 4))), (29, .int .i64 (IntKind.wrap .i64 (a2 - a1))), (28, .int .i64 a1)] ?_
 refine OJ.nil <| SJ.seq <| SJ.sr 2 <| OJ.go 2 [(34, .bool (decide ((IntKind.wrap .i64 (a2 - a1)) ≥ 8))), (33, .int .i64 (IntKind.wrap .i64 (a2 - a1)))] <| OJ.nil <| SJ.cond (t := (.tmp 34)) (b := decide ((IntKind.wrap .i64 (a2 - a1)) ≥ 8)) decide_eq_true_iff (fun hc32 => ?_) (fun hc32 => ?_)
 ·refine SJ.seq <| SJ.sr 2 <| OJ.go 2 [(36, .bool (decide ((IntKind.wrap .i64 (a2 - a1)) ≥ 50))), (35, .int .i64 (IntKind.wrap .i64 (a2 - a1)))] <| OJ.nil <| SJ.cond (t := (.tmp 36)) (b := decide ((IntKind.wrap .i64 (a2 - a1)) ≥ 50)) decide_eq_true_iff (fun hc27 => ?_) (fun hc27 => ?_)
  ·refine SJ.sr 5 <| OJ.go 3 [(39, a3v.v), (38, .int .i64 (IntKind.wrap .i64 (a1 + (IntKind.wrap .i64 ((IntKind.wrap .i64 (Int.tdiv (IntKind.wrap .i64 (a2 - a1)) 4)) * 1))))), (37, Sl.v a0)] <| OJ.call (d := 40) (g := 88) (ats := #[39, 3, 145, 97]) (args := [.tmp 37, .tmp 38, .tmp 11, .tmp 39]) (owed := []) F88 (slices_medianAdjacentCmpFunc_api_Route_ok a0 (IntKind.wrap .i64 (a1 + (IntKind.wrap .i64 ((IntKind.wrap .i64 (Int.tdiv (IntKind.wrap .i64 (a2 - a1)) 4)) * 1)))) (some (pt b1 0)) a3v a3 h_a3) (fun r14 => ?_)
   refine OW.nil <| OJ.go 1 [(12, .int .i64 r14)] <| OJ.nil <| SJ.sr 5 <| OJ.go 3 [(43, a3v.v), (42, .int .i64 (IntKind.wrap .i64 (a1 + (IntKind.wrap .i64 ((IntKind.wrap .i64 (Int.tdiv (IntKind.wrap .i64 (a2 - a1)) 4)) * 2))))), (41, Sl.v a0)] <| OJ.call (d := 44) (g := 88) (ats := #[39, 3, 145, 97]) (args := [.tmp 41, .tmp 42, .tmp 11, .tmp 43]) (owed := []) F88 (slices_medianAdjacentCmpFunc_api_Route_ok a0 (IntKind.wrap .i64 (a1 + (IntKind.wrap .i64 ((IntKind.wrap .i64 (Int.tdiv (IntKind.wrap .i64 (a2 - a1)) 4)) * 2)))) (some (pt b1 0)) a3v a3 h_a3) (fun r15 => ?_)
   refine OW.nil <| OJ.go 1 [(13, .int .i64 r15)] <| OJ.nil <| SJ.rg 5 <| OJ.go 3 [(47, a3v.v), (46, .int .i64 (IntKind.wrap .i64 (a1 + (IntKind.wrap .i64 ((IntKind.wrap .i64 (Int.tdiv (IntKind.wrap .i64 (a2 - a1)) 4)) * 3))))), (45, Sl.v a0)] <| OJ.call (d := 48) (g := 88) (ats := #[39, 3, 145, 97]) (args := [.tmp 45, .tmp 46, .tmp 11, .tmp 47]) (owed := []) F88 (slices_medianAdjacentCmpFunc_api_Route_ok a0 (IntKind.wrap .i64 (a1 + (IntKind.wrap .i64 ((IntKind.wrap .i64 (Int.tdiv (IntKind.wrap .i64 (a2 - a1)) 4)) * 3)))) (some (pt b1 0)) a3v a3 h_a3) (fun r16 => ?_)
   refine OW.nil <| OJ.go 1 [(14, .int .i64 r16)] <| OJ.nil <| SJ.rg 7 <| OJ.go 5 [(53, a3v.v), (52, .int .i64 r16), (51, .int .i64 r15), (50, .int .i64 r14), (49, Sl.v a0)] <| OJ.call (d := 54) (g := 89) (ats := #[39, 3, 3, 3, 145, 97]) (args := [.tmp 49, .tmp 50, .tmp 51, .tmp 52, .tmp 11, .tmp 53]) (owed := []) F89 (slices_medianCmpFunc_api_Route_ok a0 r14 r15 r16 (some (pt b1 0)) a3v a3 h_a3) (fun r17 => ?_)
   refine OW.nil <| OJ.go 1 [(13, .int .i64 r17)] <| OJ.nil <| SJ.sr 1 <| OJ.ld (d := 55) (y := .tmp 11) (pend2 := fun x18 => []) Ty3 (fun _ => rfl) (fun x18 => ?_)
   refine OJ.nil <| SJ.block (id := 0) <| SJ.sr 2 <| OJ.go 2 [(57, .bool (x18 == 0)), (58, .bool (x18 == 0))] <| OJ.nil <| SJ.cond (t := (.tmp 57)) (b := (x18 == 0)) beq_iff_eq (fun hc21 => ?_) (fun hc21 => ?_)
   ·exact SJ.sr 3 <| OJ.go 3 [(9, .int .i64 1), (8, .int .i64 r17), (59, .int .i64 r17)] <| OJ.nil <| SJ.r2 (.int .i64 r17) (.int .i64 1) rfl rfl
   ·refine SJ.sr 2 <| OJ.go 2 [(60, .bool (x18 == 12)), (61, .bool (x18 == 12))] <| OJ.nil <| SJ.cond (t := (.tmp 60)) (b := (x18 == 12)) beq_iff_eq (fun hc20 => ?_) (fun hc20 => ?_)
    ·exact SJ.sr 3 <| OJ.go 3 [(9, .int .i64 2), (8, .int .i64 r17), (62, .int .i64 r17)] <| OJ.nil <| SJ.r2 (.int .i64 r17) (.int .i64 2) rfl rfl
    ·exact SJ.sr 3 <| OJ.go 3 [(9, .int .i64 0), (8, .int .i64 r17), (56, .int .i64 r17)] <| OJ.nil <| SJ.r2 (.int .i64 r17) (.int .i64 0) rfl rfl
  ·refine SJ.skip <| SJ.rg 7 <| OJ.go 5 [(53, a3v.v), (52, .int .i64 (IntKind.wrap .i64 (a1 + (IntKind.wrap .i64 ((IntKind.wrap .i64 (Int.tdiv (IntKind.wrap .i64 (a2 - a1)) 4)) * 3))))), (51, .int .i64 (IntKind.wrap .i64 (a1 + (IntKind.wrap .i64 ((IntKind.wrap .i64 (Int.tdiv (IntKind.wrap .i64 (a2 - a1)) 4)) * 2))))), (50, .int .i64 (IntKind.wrap .i64 (a1 + (IntKind.wrap .i64 ((IntKind.wrap .i64 (Int.tdiv (IntKind.wrap .i64 (a2 - a1)) 4)) * 1))))), (49, Sl.v a0)] <| OJ.call (d := 54) (g := 89) (ats := #[39, 3, 3, 3, 145, 97]) (args := [.tmp 49, .tmp 50, .tmp 51, .tmp 52, .tmp 11, .tmp 53]) (owed := []) F89 (slices_medianCmpFunc_api_Route_ok a0 (IntKind.wrap .i64 (a1 + (IntKind.wrap .i64 ((IntKind.wrap .i64 (Int.tdiv (IntKind.wrap .i64 (a2 - a1)) 4)) * 1)))) (IntKind.wrap .i64 (a1 + (IntKind.wrap .i64 ((IntKind.wrap .i64 (Int.tdiv (IntKind.wrap .i64 (a2 - a1)) 4)) * 2)))) (IntKind.wrap .i64 (a1 + (IntKind.wrap .i64 ((IntKind.wrap .i64 (Int.tdiv (IntKind.wrap .i64 (a2 - a1)) 4)) * 3)))) (some (pt b1 0)) a3v a3 h_a3) (fun r22 => ?_)
   refine OW.nil <| OJ.go 1 [(13, .int .i64 r22)] <| OJ.nil <| SJ.sr 1 <| OJ.ld (d := 55) (y := .tmp 11) (pend2 := fun x23 => []) Ty3 (fun _ => rfl) (fun x23 => ?_)
   refine OJ.nil <| SJ.block (id := 0) <| SJ.sr 2 <| OJ.go 2 [(57, .bool (x23 == 0)), (58, .bool (x23 == 0))] <| OJ.nil <| SJ.cond (t := (.tmp 57)) (b := (x23 == 0)) beq_iff_eq (fun hc26 => ?_) (fun hc26 => ?_)
   ·exact SJ.sr 3 <| OJ.go 3 [(9, .int .i64 1), (8, .int .i64 r22), (59, .int .i64 r22)] <| OJ.nil <| SJ.r2 (.int .i64 r22) (.int .i64 1) rfl rfl
   ·refine SJ.sr 2 <| OJ.go 2 [(60, .bool (x23 == 12)), (61, .bool (x23 == 12))] <| OJ.nil <| SJ.cond (t := (.tmp 60)) (b := (x23 == 12)) beq_iff_eq (fun hc25 => ?_) (fun hc25 => ?_)
    ·exact SJ.sr 3 <| OJ.go 3 [(9, .int .i64 2), (8, .int .i64 r22), (62, .int .i64 r22)] <| OJ.nil <| SJ.r2 (.int .i64 r22) (.int .i64 2) rfl rfl
    ·exact SJ.sr 3 <| OJ.go 3 [(9, .int .i64 0), (8, .int .i64 r22), (56, .int .i64 r22)] <| OJ.nil <| SJ.r2 (.int .i64 r22) (.int .i64 0) rfl rfl
 ·refine SJ.skip <| SJ.sr 1 <| OJ.ld (d := 55) (y := .tmp 11) (pend2 := fun x28 => []) Ty3 (fun _ => rfl) (fun x28 => ?_)
  refine OJ.nil <| SJ.block (id := 0) <| SJ.sr 2 <| OJ.go 2 [(57, .bool (x28 == 0)), (58, .bool (x28 == 0))] <| OJ.nil <| SJ.cond (t := (.tmp 57)) (b := (x28 == 0)) beq_iff_eq (fun hc31 => ?_) (fun hc31 => ?_)
  ·exact SJ.sr 3 <| OJ.go 3 [(9, .int .i64 1), (8, .int .i64 (IntKind.wrap .i64 (a1 + (IntKind.wrap .i64 ((IntKind.wrap .i64 (Int.tdiv (IntKind.wrap .i64 (a2 - a1)) 4)) * 2))))), (59, .int .i64 (IntKind.wrap .i64 (a1 + (IntKind.wrap .i64 ((IntKind.wrap .i64 (Int.tdiv (IntKind.wrap .i64 (a2 - a1)) 4)) * 2)))))] <| OJ.nil <| SJ.r2 (.int .i64 (IntKind.wrap .i64 (a1 + (IntKind.wrap .i64 ((IntKind.wrap .i64 (Int.tdiv (IntKind.wrap .i64 (a2 - a1)) 4)) * 2))))) (.int .i64 1) rfl rfl
  ·refine SJ.sr 2 <| OJ.go 2 [(60, .bool (x28 == 12)), (61, .bool (x28 == 12))] <| OJ.nil <| SJ.cond (t := (.tmp 60)) (b := (x28 == 12)) beq_iff_eq (fun hc30 => ?_) (fun hc30 => ?_)
   ·exact SJ.sr 3 <| OJ.go 3 [(9, .int .i64 2), (8, .int .i64 (IntKind.wrap .i64 (a1 + (IntKind.wrap .i64 ((IntKind.wrap .i64 (Int.tdiv (IntKind.wrap .i64 (a2 - a1)) 4)) * 2))))), (62, .int .i64 (IntKind.wrap .i64 (a1 + (IntKind.wrap .i64 ((IntKind.wrap .i64 (Int.tdiv (IntKind.wrap .i64 (a2 - a1)) 4)) * 2)))))] <| OJ.nil <| SJ.r2 (.int .i64 (IntKind.wrap .i64 (a1 + (IntKind.wrap .i64 ((IntKind.wrap .i64 (Int.tdiv (IntKind.wrap .i64 (a2 - a1)) 4)) * 2))))) (.int .i64 2) rfl rfl
   ·exact SJ.sr 3 <| OJ.go 3 [(9, .int .i64 0), (8, .int .i64 (IntKind.wrap .i64 (a1 + (IntKind.wrap .i64 ((IntKind.wrap .i64 (Int.tdiv (IntKind.wrap .i64 (a2 - a1)) 4)) * 2))))), (56, .int .i64 (IntKind.wrap .i64 (a1 + (IntKind.wrap .i64 ((IntKind.wrap .i64 (Int.tdiv (IntKind.wrap .i64 (a2 - a1)) 4)) * 2)))))] <| OJ.nil <| SJ.r2 (.int .i64 (IntKind.wrap .i64 (a1 + (IntKind.wrap .i64 ((IntKind.wrap .i64 (Int.tdiv (IntKind.wrap .i64 (a2 - a1)) 4)) * 2))))) (.int .i64 0) rfl rfl

/-! ### slices.reverseRangeCmpFunc[weir/api.Route]: function 74 -/
noncomputable def slices_reverseRangeCmpFunc_api_Route.B : Code := (Tryd.f74.body).getD .skip
noncomputable def slices_reverseRangeCmpFunc_api_Route.cx : Fx := ⟨Tryd.prog, 74, Tryd.f74, none⟩
noncomputable def slices_reverseRangeCmpFunc_api_Route.out (r_ : Unit) : Value := .tuple #[]
noncomputable def slices_reverseRangeCmpFunc_api_Route.F0 (r_ : Unit) : Reach := .ret (slices_reverseRangeCmpFunc_api_Route.out r_)
noncomputable def slices_reverseRangeCmpFunc_api_Route.F1 (a0 : Sl) : (LS (Int × Int) Unit) → Reach := loopF [.inLoop (c1 (c1 (c2 (c2 slices_reverseRangeCmpFunc_api_Route.B)))), .inBlock 0] (fun s_ : (Int × Int) => [(0, Sl.v a0), (8, .int .i64 s_.1), (9, .int .i64 s_.2)]) (fun s_ : (Int × Int) => []) slices_reverseRangeCmpFunc_api_Route.F0
noncomputable def slices_reverseRangeCmpFunc_api_Route.L1 (a0 : Sl) (s1 : Int) (s2 : Int) : M (LS (Int × Int) Unit) :=
 if s1 < s2 then
  draw >>= fun _ =>
  idx a0.a a0.len s2 36 >>= fun p3 =>
  ld c_api_Route p3 >>= fun x4 =>
  idx a0.a a0.len s1 36 >>= fun p5 =>
  ld c_api_Route p5 >>= fun x6 =>
  idx a0.a a0.len s1 36 >>= fun p7 =>
  st c_api_Route p7 x4 >>= fun _ =>
  idx a0.a a0.len s2 36 >>= fun p8 =>
  st c_api_Route p8 x6 >>= fun _ =>
  pure (LS.next (IntKind.wrap .i64 (s1 + 1), IntKind.wrap .i64 (s2 - 1)))
 else
  pure (LS.done ())
theorem slices_reverseRangeCmpFunc_api_Route.L1_ok (a0 : Sl) (s1 : Int) (s2 : Int) :
  SJ slices_reverseRangeCmpFunc_api_Route.cx [.code (c1 (c1 (c2 (c2 slices_reverseRangeCmpFunc_api_Route.B)))), .inLoop (c1 (c1 (c2 (c2 slices_reverseRangeCmpFunc_api_Route.B)))), .inBlock 0] [(0, Sl.v a0), (8, .int .i64 s1), (9, .int .i64 s2)] [] (slices_reverseRangeCmpFunc_api_Route.L1 a0 s1 s2) (slices_reverseRangeCmpFunc_api_Route.F1 a0) := by
 unfold slices_reverseRangeCmpFunc_api_Route.L1
 refine SJ.seq <| SJ.sr 3 <| OJ.go 3 [(15, .bool (decide (s1 < s2))), (14, .int .i64 s2), (13, .int .i64 s1)] <| OJ.nil <| SJ.cond (t := (.tmp 15)) (b := decide (s1 < s2)) decide_eq_true_iff (fun hc9 => ?_) (fun hc9 => ?_)
 ·refine SJ.skip <| SJ.block (id := 1) <| SJ.seq <| SJ.draw (id := 3) (kd := [0, 0, 0, 0, 0, 0, 0, 1, 0, 0, 0, 1, 0, 2, 0, 2]) (bef := [0, 0, 0, 0, 0, 0, 48, 112, 0, 0, 768, 1792, 4083, 8179, 16383, 32767]) (ord := [0, 1, 2, 3, 4, 5, 6, 7, 8, 9, 10, 11, 12, 13, 14, 15]) mixed ?_
  refine OJ.go 6 [(21, .int .i64 s2), (20, Sl.v a0), (19, .int .i64 s2), (18, Sl.v a0), (17, .int .i64 s1), (16, Sl.v a0)] <| OJ.idxS (d := 22) (T := 39) (y := .tmp 20) (j := .tmp 21) (E := 32) (cap := a0.cap) (k := .i64) (fun p3 => ?_)
  refine OJ.ld (d := 23) (y := .tmp 22) (pend2 := fun x4 => [⟨7, 32, p3, c_api_Route.val x4⟩]) Ty32 (fun _ => rfl) (fun x4 => ?_)
  refine OJ.go 2 [(25, .int .i64 s1), (24, Sl.v a0)] <| OJ.idxS (d := 26) (T := 39) (y := .tmp 24) (j := .tmp 25) (E := 32) (cap := a0.cap) (k := .i64) (fun p5 => ?_)
  refine OJ.ld (d := 27) (y := .tmp 26) (pend2 := fun x6 => [⟨11, 32, p5, c_api_Route.val x6⟩, ⟨7, 32, p3, c_api_Route.val x4⟩]) Ty32 (fun _ => rfl) (fun x6 => ?_)
  refine OJ.idxS (d := 28) (T := 39) (y := .tmp 16) (j := .tmp 17) (E := 32) (cap := a0.cap) (k := .i64) (fun p7 => ?_)
  refine OJ.st (y := .tmp 28) (z := .tmp 23) (owed := []) Ty32 ?_
  refine OW.nil <| OJ.idxS (d := 29) (T := 39) (y := .tmp 18) (j := .tmp 19) (E := 32) (cap := a0.cap) (k := .i64) (fun p8 => ?_)
  refine OJ.st (y := .tmp 29) (z := .tmp 27) (owed := []) Ty32 ?_
  exact OW.nil <| OJ.nil <| SJ.sr 3 <| OJ.go 3 [(8, .int .i64 (IntKind.wrap .i64 (s1 + 1))), (31, .int .i64 (IntKind.wrap .i64 (s1 + 1))), (30, .int .i64 s1)] <| OJ.nil <| SJ.rg 3 <| OJ.go 3 [(9, .int .i64 (IntKind.wrap .i64 (s2 - 1))), (33, .int .i64 (IntKind.wrap .i64 (s2 - 1))), (32, .int .i64 s2)] <| OJ.nil <| SJ.inBlock <| SJ.at_ [0, 8, 9] rfl
 ·exact SJ.exit (id := 0) (by rfl) <| SJ.end_ rfl (Res.run (ys := []) .nil rfl)
noncomputable def slices_reverseRangeCmpFunc_api_Route (a0 : Sl) (a1 : Int) (a2 : Int) (a3 : api_Route → api_Route → M Int) : M Unit :=
 loopM (fun s_ : (Int × Int) => slices_reverseRangeCmpFunc_api_Route.L1 a0 s_.1 s_.2) (a1, IntKind.wrap .i64 (a2 - 1))
theorem slices_reverseRangeCmpFunc_api_Route_ok (a0 : Sl) (a1 : Int) (a2 : Int) (a3v : Any) (a3 : api_Route → api_Route → M Int) (h_a3 : ∀ (x0_ : api_Route), ∀ (x1_ : api_Route), RefV Tryd.prog a3v.v [c_api_Route.val x0_, c_api_Route.val x1_] (a3 x0_ x1_) (fun r_ : Int => .int .i64 r_)) : Ref Tryd.prog 74 [Sl.v a0, .int .i64 a1, .int .i64 a2, a3v.v] (slices_reverseRangeCmpFunc_api_Route a0 a1 a2 a3) slices_reverseRangeCmpFunc_api_Route.out := by
 refine Ref.of (cd := slices_reverseRangeCmpFunc_api_Route.B) Tryd.func74 ?_
 show SJ slices_reverseRangeCmpFunc_api_Route.cx [.code slices_reverseRangeCmpFunc_api_Route.B] [(0, Sl.v a0), (1, .int .i64 a1), (2, .int .i64 a2), (3, a3v.v)] [] (slices_reverseRangeCmpFunc_api_Route a0 a1 a2 a3) slices_reverseRangeCmpFunc_api_Route.F0
 unfold slices_reverseRangeCmpFunc_api_Route
 exact SJ.sr 2 <| OJ.go 2 [(8, .int .i64 a1), (10, .int .i64 a1)] <| OJ.nil <| SJ.sr 3 <| OJ.go 3 [(9, .int .i64 (IntKind.wrap .i64 (a2 - 1))), (12, .int .i64 (IntKind.wrap .i64 (a2 - 1))), (11, .int .i64 a2)] <| OJ.nil <| SJ.block (id := 0) <| SJ.loop (fun s_ : (Int × Int) => [(0, Sl.v a0), (8, .int .i64 s_.1), (9, .int .i64 s_.2)]) (fun s_ : (Int × Int) => []) [0, 8, 9] rfl (fun _ _ => rfl) (fun s_ => slices_reverseRangeCmpFunc_api_Route.L1_ok a0 s_.1 s_.2)

/-! ### slices.partialInsertionSortCmpFunc[weir/api.Route]: function 75 -/
noncomputable def slices_partialInsertionSortCmpFunc_api_Route.B : Code := (Tryd.f75.body).getD .skip
noncomputable def slices_partialInsertionSortCmpFunc_api_Route.cx : Fx := ⟨Tryd.prog, 75, Tryd.f75, none⟩
noncomputable def slices_partialInsertionSortCmpFunc_api_Route.out (r_ : Bool) : Value := .bool r_
noncomputable def slices_partialInsertionSortCmpFunc_api_Route.F0 (r_ : Bool) : Reach := .ret (slices_partialInsertionSortCmpFunc_api_Route.out r_)
noncomputable def slices_partialInsertionSortCmpFunc_api_Route.F1 (a0 : Sl) (a1 : Int) (a2 : Int) (a3v : Any) : (LS (Int × Int) Bool) → Reach := loopF [.inLoop (c1 (c1 (c2 (c1 (c2 (c2 slices_partialInsertionSortCmpFunc_api_Route.B)))))), .inBlock 0, .code (c2 (c2 (c2 slices_partialInsertionSortCmpFunc_api_Route.B)))] (fun s_ : (Int × Int) => [(0, Sl.v a0), (1, .int .i64 a1), (2, .int .i64 a2), (3, a3v.v), (9, .int .i64 s_.1), (10, .int .i64 s_.2)]) (fun s_ : (Int × Int) => []) slices_partialInsertionSortCmpFunc_api_Route.F0
noncomputable def slices_partialInsertionSortCmpFunc_api_Route.K1 (s2 : Int) (s137 : Int) : M (LS (Int × Int) Bool) :=
 pure (LS.next (s137, IntKind.wrap .i64 (s2 + 1)))
theorem slices_partialInsertionSortCmpFunc_api_Route.K1_ok (a0 : Sl) (a1 : Int) (a2 : Int) (a3v : Any) (s2 : Int) (s137 : Int) :
  SJ slices_partialInsertionSortCmpFunc_api_Route.cx [.inBlock 1, .code (c2 (c2 (c1 (c1 (c2 (c1 (c2 (c2 slices_partialInsertionSortCmpFunc_api_Route.B)))))))), .inLoop (c1 (c1 (c2 (c1 (c2 (c2 slices_partialInsertionSortCmpFunc_api_Route.B)))))), .inBlock 0, .code (c2 (c2 (c2 slices_partialInsertionSortCmpFunc_api_Route.B)))] [(0, Sl.v a0), (1, .int .i64 a1), (2, .int .i64 a2), (3, a3v.v), (9, .int .i64 s137), (10, .int .i64 s2)] [] (slices_partialInsertionSortCmpFunc_api_Route.K1 s2 s137) (slices_partialInsertionSortCmpFunc_api_Route.F1 a0 a1 a2 a3v) := by
 unfold slices_partialInsertionSortCmpFunc_api_Route.K1
 exact SJ.inBlock <| SJ.rg 3 <| OJ.go 3 [(10, .int .i64 (IntKind.wrap .i64 (s2 + 1))), (18, .int .i64 (IntKind.wrap .i64 (s2 + 1))), (17, .int .i64 s2)] <| OJ.nil <| SJ.at_ [0, 1, 2, 3, 9, 10] rfl
noncomputable def slices_partialInsertionSortCmpFunc_api_Route.F2 (a0 : Sl) (a1 : Int) (a2 : Int) (a3v : Any) (s2 : Int) (s137 : Int) : (LS Int (LS (Int × Int) Bool)) → Reach := loopF [.inLoop (c1 (c1 (c2 (c1 (c2 (c2 (c2 (c2 (c2 (c2 (c1 (c1 (c2 (c1 (c1 (c2 (c1 (c2 (c2 slices_partialInsertionSortCmpFunc_api_Route.B))))))))))))))))))), .inBlock 6, .inBlock 1, .code (c2 (c2 (c1 (c1 (c2 (c1 (c2 (c2 slices_partialInsertionSortCmpFunc_api_Route.B)))))))), .inLoop (c1 (c1 (c2 (c1 (c2 (c2 slices_partialInsertionSortCmpFunc_api_Route.B)))))), .inBlock 0, .code (c2 (c2 (c2 slices_partialInsertionSortCmpFunc_api_Route.B)))] (fun s_ : Int => [(0, Sl.v a0), (1, .int .i64 a1), (2, .int .i64 a2), (3, a3v.v), (9, .int .i64 s137), (10, .int .i64 s2), (12, .int .i64 s_)]) (fun s_ : Int => []) (slices_partialInsertionSortCmpFunc_api_Route.F1 a0 a1 a2 a3v)
noncomputable def slices_partialInsertionSortCmpFunc_api_Route.L2 (a0 : Sl) (a2 : Int) (a3 : api_Route → api_Route → M Int) (s2 : Int) (s137 : Int) (s205 : Int) : M (LS Int (LS (Int × Int) Bool)) :=
 if s205 < a2 then
  draw >>= fun _ =>
  idx a0.a a0.len s205 36 >>= fun p219 =>
  ld c_api_Route p219 >>= fun x220 =>
  idx a0.a a0.len (IntKind.wrap .i64 (s205 - 1)) 36 >>= fun p221 =>
  ld c_api_Route p221 >>= fun x222 =>
  a3 x220 x222 >>= fun r223 =>
  if ¬ (r223 < 0) then
   (slices_partialInsertionSortCmpFunc_api_Route.K1 s2 s137) >>= fun b => pure (LS.done b)
  else
   draw >>= fun _ =>
   idx a0.a a0.len (IntKind.wrap .i64 (s205 - 1)) 36 >>= fun p224 =>
   ld c_api_Route p224 >>= fun x225 =>
   idx a0.a a0.len s205 36 >>= fun p226 =>
   ld c_api_Route p226 >>= fun x227 =>
   idx a0.a a0.len s205 36 >>= fun p228 =>
   st c_api_Route p228 x225 >>= fun _ =>
   idx a0.a a0.len (IntKind.wrap .i64 (s205 - 1)) 36 >>= fun p229 =>
   st c_api_Route p229 x227 >>= fun _ =>
   pure (LS.next (IntKind.wrap .i64 (s205 + 1)))
 else
  (slices_partialInsertionSortCmpFunc_api_Route.K1 s2 s137) >>= fun b => pure (LS.done b)
theorem slices_partialInsertionSortCmpFunc_api_Route.L2_ok (a0 : Sl) (a1 : Int) (a2 : Int) (a3v : Any) (a3 : api_Route → api_Route → M Int) (h_a3 : ∀ (x0_ : api_Route), ∀ (x1_ : api_Route), RefV Tryd.prog a3v.v [c_api_Route.val x0_, c_api_Route.val x1_] (a3 x0_ x1_) (fun r_ : Int => .int .i64 r_)) (s2 : Int) (s137 : Int) (s205 : Int) :
  SJ slices_partialInsertionSortCmpFunc_api_Route.cx [.code (c1 (c1 (c2 (c1 (c2 (c2 (c2 (c2 (c2 (c2 (c1 (c1 (c2 (c1 (c1 (c2 (c1 (c2 (c2 slices_partialInsertionSortCmpFunc_api_Route.B))))))))))))))))))), .inLoop (c1 (c1 (c2 (c1 (c2 (c2 (c2 (c2 (c2 (c2 (c1 (c1 (c2 (c1 (c1 (c2 (c1 (c2 (c2 slices_partialInsertionSortCmpFunc_api_Route.B))))))))))))))))))), .inBlock 6, .inBlock 1, .code (c2 (c2 (c1 (c1 (c2 (c1 (c2 (c2 slices_partialInsertionSortCmpFunc_api_Route.B)))))))), .inLoop (c1 (c1 (c2 (c1 (c2 (c2 slices_partialInsertionSortCmpFunc_api_Route.B)))))), .inBlock 0, .code (c2 (c2 (c2 slices_partialInsertionSortCmpFunc_api_Route.B)))] [(0, Sl.v a0), (1, .int .i64 a1), (2, .int .i64 a2), (3, a3v.v), (9, .int .i64 s137), (10, .int .i64 s2), (12, .int .i64 s205)] [] (slices_partialInsertionSortCmpFunc_api_Route.L2 a0 a2 a3 s2 s137 s205) (slices_partialInsertionSortCmpFunc_api_Route.F2 a0 a1 a2 a3v s2 s137) := by
 unfold slices_partialInsertionSortCmpFunc_api_Route.L2
 refine SJ.seq <| SJ.sr 3 <| OJ.go 3 [(109, .bool (decide (s205 < a2))), (108, .int .i64 a2), (107, .int .i64 s205)] <| OJ.nil <| SJ.cond (t := (.tmp 109)) (b := decide (s205 < a2)) decide_eq_true_iff (fun hc231 => ?_) (fun hc231 => ?_)
 ·refine SJ.skip <| SJ.seq <| SJ.block (id := 7) <| SJ.seq <| SJ.seq <| SJ.draw (id := 22) (kd := [0, 0, 0, 0, 1, 0, 0, 0, 0, 1, 2, 0, 0]) (bef := [0, 0, 0, 6, 14, 0, 0, 64, 224, 480, 1023, 2047, 4095]) (ord := [0, 1, 2, 3, 4, 5, 6, 7, 8, 9, 10, 11, 12]) mixed ?_
  refine OJ.go 3 [(114, .int .i64 s205), (113, Sl.v a0), (112, a3v.v)] <| OJ.idxS (d := 115) (T := 39) (y := .tmp 113) (j := .tmp 114) (E := 32) (cap := a0.cap) (k := .i64) (fun p219 => ?_)
  refine OJ.ld (d := 116) (y := .tmp 115) (pend2 := fun x220 => [⟨4, 32, p219, c_api_Route.val x220⟩]) Ty32 (fun _ => rfl) (fun x220 => ?_)
  refine OJ.go 3 [(119, .int .i64 (IntKind.wrap .i64 (s205 - 1))), (118, .int .i64 s205), (117, Sl.v a0)] <| OJ.idxS (d := 120) (T := 39) (y := .tmp 117) (j := .tmp 119) (E := 32) (cap := a0.cap) (k := .i64) (fun p221 => ?_)
  refine OJ.ld (d := 121) (y := .tmp 120) (pend2 := fun x222 => [⟨9, 32, p221, c_api_Route.val x222⟩, ⟨4, 32, p219, c_api_Route.val x220⟩]) Ty32 (fun _ => rfl) (fun x222 => ?_)
  refine OJ.callV1 (d := 122) (ats := #[32, 32]) (args := [.tmp 116, .tmp 121]) (fo := .tmp 112) (vals := [c_api_Route.val x220, c_api_Route.val x222]) (owed := []) (h_a3 x220 x222) (fun r223 => ?_)
  refine OW.nil <| OJ.go 2 [(124, .bool (!(decide (r223 < 0)))), (123, .bool (decide (r223 < 0)))] <| OJ.nil <| SJ.cond (t := (.tmp 124)) (b := (!(decide (r223 < 0)))) (bnot_iff decide_eq_true_iff) (fun hc230 => ?_) (fun hc230 => ?_)
  ·refine SJ.exit (id := 6) (by rfl) <| SJ.less [0, 1, 2, 3, 9, 10] (m' := [(0, Sl.v a0), (1, .int .i64 a1), (2, .int .i64 a2), (3, a3v.v), (9, .int .i64 s137), (10, .int .i64 s2)]) ?_
   refine SJ.done ?_
   exact slices_partialInsertionSortCmpFunc_api_Route.K1_ok a0 a1 a2 a3v s2 s137
  ·refine SJ.skip <| SJ.draw (id := 23) (kd := [0, 0, 0, 0, 0, 0, 0, 0, 0, 1, 0, 0, 0, 1, 0, 2, 0, 2]) (bef := [0, 0, 0, 0, 8, 0, 0, 64, 224, 480, 0, 0, 3072, 7168, 16355, 32739, 65535, 131071]) (ord := [0, 1, 2, 3, 4, 5, 6, 7, 8, 9, 10, 11, 12, 13, 14, 15, 16, 17]) mixed ?_
   refine OJ.go 8 [(132, .int .i64 (IntKind.wrap .i64 (s205 - 1))), (131, .int .i64 s205), (130, Sl.v a0), (129, .int .i64 (IntKind.wrap .i64 (s205 - 1))), (128, .int .i64 s205), (127, Sl.v a0), (126, .int .i64 s205), (125, Sl.v a0)] <| OJ.idxS (d := 133) (T := 39) (y := .tmp 130) (j := .tmp 132) (E := 32) (cap := a0.cap) (k := .i64) (fun p224 => ?_)
   refine OJ.ld (d := 134) (y := .tmp 133) (pend2 := fun x225 => [⟨9, 32, p224, c_api_Route.val x225⟩]) Ty32 (fun _ => rfl) (fun x225 => ?_)
   refine OJ.go 2 [(136, .int .i64 s205), (135, Sl.v a0)] <| OJ.idxS (d := 137) (T := 39) (y := .tmp 135) (j := .tmp 136) (E := 32) (cap := a0.cap) (k := .i64) (fun p226 => ?_)
   refine OJ.ld (d := 138) (y := .tmp 137) (pend2 := fun x227 => [⟨13, 32, p226, c_api_Route.val x227⟩, ⟨9, 32, p224, c_api_Route.val x225⟩]) Ty32 (fun _ => rfl) (fun x227 => ?_)
   refine OJ.idxS (d := 139) (T := 39) (y := .tmp 125) (j := .tmp 126) (E := 32) (cap := a0.cap) (k := .i64) (fun p228 => ?_)
   refine OJ.st (y := .tmp 139) (z := .tmp 134) (owed := []) Ty32 ?_
   refine OW.nil <| OJ.idxS (d := 140) (T := 39) (y := .tmp 127) (j := .tmp 129) (E := 32) (cap := a0.cap) (k := .i64) (fun p229 => ?_)
   refine OJ.st (y := .tmp 140) (z := .tmp 138) (owed := []) Ty32 ?_
   exact OW.nil <| OJ.nil <| SJ.inBlock <| SJ.rg 3 <| OJ.go 3 [(12, .int .i64 (IntKind.wrap .i64 (s205 + 1))), (111, .int .i64 (IntKind.wrap .i64 (s205 + 1))), (110, .int .i64 s205)] <| OJ.nil <| SJ.at_ [0, 1, 2, 3, 9, 10, 12] rfl
 ·refine SJ.exit (id := 6) (by rfl) <| SJ.less [0, 1, 2, 3, 9, 10] (m' := [(0, Sl.v a0), (1, .int .i64 a1), (2, .int .i64 a2), (3, a3v.v), (9, .int .i64 s137), (10, .int .i64 s2)]) ?_
  refine SJ.done ?_
  exact slices_partialInsertionSortCmpFunc_api_Route.K1_ok a0 a1 a2 a3v s2 s137
noncomputable def slices_partialInsertionSortCmpFunc_api_Route.K2 (a0 : Sl) (a2 : Int) (a3 : api_Route → api_Route → M Int) (s2 : Int) (s137 : Int) : M (LS (Int × Int) Bool) :=
 if (IntKind.wrap .i64 (a2 - s137)) ≥ 2 then
  loopM (fun s_ : Int => slices_partialInsertionSortCmpFunc_api_Route.L2 a0 a2 a3 s2 s137 s_) (IntKind.wrap .i64 (s137 + 1))
 else
  slices_partialInsertionSortCmpFunc_api_Route.K1 s2 s137
theorem slices_partialInsertionSortCmpFunc_api_Route.K2_ok (a0 : Sl) (a1 : Int) (a2 : Int) (a3v : Any) (a3 : api_Route → api_Route → M Int) (h_a3 : ∀ (x0_ : api_Route), ∀ (x1_ : api_Route), RefV Tryd.prog a3v.v [c_api_Route.val x0_, c_api_Route.val x1_] (a3 x0_ x1_) (fun r_ : Int => .int .i64 r_)) (s2 : Int) (s137 : Int) :
  SJ slices_partialInsertionSortCmpFunc_api_Route.cx [.code (c2 (c2 (c2 (c2 (c2 (c1 (c1 (c2 (c1 (c1 (c2 (c1 (c2 (c2 slices_partialInsertionSortCmpFunc_api_Route.B)))))))))))))), .inBlock 1, .code (c2 (c2 (c1 (c1 (c2 (c1 (c2 (c2 slices_partialInsertionSortCmpFunc_api_Route.B)))))))), .inLoop (c1 (c1 (c2 (c1 (c2 (c2 slices_partialInsertionSortCmpFunc_api_Route.B)))))), .inBlock 0, .code (c2 (c2 (c2 slices_partialInsertionSortCmpFunc_api_Route.B)))] [(0, Sl.v a0), (1, .int .i64 a1), (2, .int .i64 a2), (3, a3v.v), (9, .int .i64 s137), (10, .int .i64 s2)] [] (slices_partialInsertionSortCmpFunc_api_Route.K2 a0 a2 a3 s2 s137) (slices_partialInsertionSortCmpFunc_api_Route.F1 a0 a1 a2 a3v) := by
 unfold slices_partialInsertionSortCmpFunc_api_Route.K2
 refine SJ.sr 4 <| OJ.go 4 [(104, .bool (decide ((IntKind.wrap .i64 (a2 - s137)) ≥ 2))), (103, .int .i64 (IntKind.wrap .i64 (a2 - s137))), (102, .int .i64 s137), (101, .int .i64 a2)] <| OJ.nil <| SJ.cond (t := (.tmp 104)) (b := decide ((IntKind.wrap .i64 (a2 - s137)) ≥ 2)) decide_eq_true_iff (fun hc232 => ?_) (fun hc232 => ?_)
 ·exact SJ.sr 3 <| OJ.go 3 [(12, .int .i64 (IntKind.wrap .i64 (s137 + 1))), (106, .int .i64 (IntKind.wrap .i64 (s137 + 1))), (105, .int .i64 s137)] <| OJ.nil <| SJ.block (id := 6) <| SJ.loop (fun s_ : Int => [(0, Sl.v a0), (1, .int .i64 a1), (2, .int .i64 a2), (3, a3v.v), (9, .int .i64 s137), (10, .int .i64 s2), (12, .int .i64 s_)]) (fun s_ : Int => []) [0, 1, 2, 3, 9, 10, 12] rfl (fun _ _ => rfl) (fun s_ => slices_partialInsertionSortCmpFunc_api_Route.L2_ok a0 a1 a2 a3v a3 h_a3 s2 s137 s_)
 ·refine SJ.skip <| SJ.less [0, 1, 2, 3, 9, 10] (m' := [(0, Sl.v a0), (1, .int .i64 a1), (2, .int .i64 a2), (3, a3v.v), (9, .int .i64 s137), (10, .int .i64 s2)]) ?_
  exact slices_partialInsertionSortCmpFunc_api_Route.K1_ok a0 a1 a2 a3v s2 s137
noncomputable def slices_partialInsertionSortCmpFunc_api_Route.K3 (a0 : Sl) (a2 : Int) (a3 : api_Route → api_Route → M Int) (s2 : Int) (s137 : Int) : M (LS (Int × Int) Bool) :=
 slices_partialInsertionSortCmpFunc_api_Route.K2 a0 a2 a3 s2 s137
theorem slices_partialInsertionSortCmpFunc_api_Route.K3_ok (a0 : Sl) (a1 : Int) (a2 : Int) (a3v : Any) (a3 : api_Route → api_Route → M Int) (h_a3 : ∀ (x0_ : api_Route), ∀ (x1_ : api_Route), RefV Tryd.prog a3v.v [c_api_Route.val x0_, c_api_Route.val x1_] (a3 x0_ x1_) (fun r_ : Int => .int .i64 r_)) (s2 : Int) (s137 : Int) :
  SJ slices_partialInsertionSortCmpFunc_api_Route.cx [.code (c2 (c2 (c2 (c2 (c2 (c1 (c1 (c2 (c1 (c1 (c2 (c1 (c2 (c2 slices_partialInsertionSortCmpFunc_api_Route.B)))))))))))))), .inBlock 1, .code (c2 (c2 (c1 (c1 (c2 (c1 (c2 (c2 slices_partialInsertionSortCmpFunc_api_Route.B)))))))), .inLoop (c1 (c1 (c2 (c1 (c2 (c2 slices_partialInsertionSortCmpFunc_api_Route.B)))))), .inBlock 0, .code (c2 (c2 (c2 slices_partialInsertionSortCmpFunc_api_Route.B)))] [(0, Sl.v a0), (1, .int .i64 a1), (2, .int .i64 a2), (3, a3v.v), (9, .int .i64 s137), (10, .int .i64 s2)] [] (slices_partialInsertionSortCmpFunc_api_Route.K3 a0 a2 a3 s2 s137) (slices_partialInsertionSortCmpFunc_api_Route.F1 a0 a1 a2 a3v) := by
 unfold slices_partialInsertionSortCmpFunc_api_Route.K3
 refine SJ.less [0, 1, 2, 3, 9, 10] (m' := [(0, Sl.v a0), (1, .int .i64 a1), (2, .int .i64 a2), (3, a3v.v), (9, .int .i64 s137), (10, .int .i64 s2)]) ?_
 exact slices_partialInsertionSortCmpFunc_api_Route.K2_ok a0 a1 a2 a3v a3 h_a3 s2 s137
noncomputable def slices_partialInsertionSortCmpFunc_api_Route.F3 (a0 : Sl) (a1 : Int) (a2 : Int) (a3v : Any) (s2 : Int) (s137 : Int) : (LS Int (LS (Int × Int) Bool)) → Reach := loopF [.inLoop (c1 (c1 (c2 (c1 (c2 (c1 (c2 (c2 (c2 (c2 (c1 (c1 (c2 (c1 (c1 (c2 (c1 (c2 (c2 slices_partialInsertionSortCmpFunc_api_Route.B))))))))))))))))))), .inBlock 4, .code (c2 (c2 (c2 (c2 (c2 (c1 (c1 (c2 (c1 (c1 (c2 (c1 (c2 (c2 slices_partialInsertionSortCmpFunc_api_Route.B)))))))))))))), .inBlock 1, .code (c2 (c2 (c1 (c1 (c2 (c1 (c2 (c2 slices_partialInsertionSortCmpFunc_api_Route.B)))))))), .inLoop (c1 (c1 (c2 (c1 (c2 (c2 slices_partialInsertionSortCmpFunc_api_Route.B)))))), .inBlock 0, .code (c2 (c2 (c2 slices_partialInsertionSortCmpFunc_api_Route.B)))] (fun s_ : Int => [(0, Sl.v a0), (1, .int .i64 a1), (2, .int .i64 a2), (3, a3v.v), (9, .int .i64 s137), (10, .int .i64 s2), (11, .int .i64 s_)]) (fun s_ : Int => []) (slices_partialInsertionSortCmpFunc_api_Route.F1 a0 a1 a2 a3v)
noncomputable def slices_partialInsertionSortCmpFunc_api_Route.L3 (a0 : Sl) (a2 : Int) (a3 : api_Route → api_Route → M Int) (s2 : Int) (s137 : Int) (s233 : Int) : M (LS Int (LS (Int × Int) Bool)) :=
 if s233 ≥ 1 then
  draw >>= fun _ =>
  idx a0.a a0.len s233 36 >>= fun p247 =>
  ld c_api_Route p247 >>= fun x248 =>
  idx a0.a a0.len (IntKind.wrap .i64 (s233 - 1)) 36 >>= fun p249 =>
  ld c_api_Route p249 >>= fun x250 =>
  a3 x248 x250 >>= fun r251 =>
  if ¬ (r251 < 0) then
   (slices_partialInsertionSortCmpFunc_api_Route.K3 a0 a2 a3 s2 s137) >>= fun b => pure (LS.done b)
  else
   draw >>= fun _ =>
   idx a0.a a0.len (IntKind.wrap .i64 (s233 - 1)) 36 >>= fun p252 =>
   ld c_api_Route p252 >>= fun x253 =>
   idx a0.a a0.len s233 36 >>= fun p254 =>
   ld c_api_Route p254 >>= fun x255 =>
   idx a0.a a0.len s233 36 >>= fun p256 =>
   st c_api_Route p256 x253 >>= fun _ =>
   idx a0.a a0.len (IntKind.wrap .i64 (s233 - 1)) 36 >>= fun p257 =>
   st c_api_Route p257 x255 >>= fun _ =>
   pure (LS.next (IntKind.wrap .i64 (s233 - 1)))
 else
  (slices_partialInsertionSortCmpFunc_api_Route.K3 a0 a2 a3 s2 s137) >>= fun b => pure (LS.done b)
theorem slices_partialInsertionSortCmpFunc_api_Route.L3_ok (a0 : Sl) (a1 : Int) (a2 : Int) (a3v : Any) (a3 : api_Route → api_Route → M Int) (h_a3 : ∀ (x0_ : api_Route), ∀ (x1_ : api_Route), RefV Tryd.prog a3v.v [c_api_Route.val x0_, c_api_Route.val x1_] (a3 x0_ x1_) (fun r_ : Int => .int .i64 r_)) (s2 : Int) (s137 : Int) (s233 : Int) :
  SJ slices_partialInsertionSortCmpFunc_api_Route.cx [.code (c1 (c1 (c2 (c1 (c2 (c1 (c2 (c2 (c2 (c2 (c1 (c1 (c2 (c1 (c1 (c2 (c1 (c2 (c2 slices_partialInsertionSortCmpFunc_api_Route.B))))))))))))))))))), .inLoop (c1 (c1 (c2 (c1 (c2 (c1 (c2 (c2 (c2 (c2 (c1 (c1 (c2 (c1 (c1 (c2 (c1 (c2 (c2 slices_partialInsertionSortCmpFunc_api_Route.B))))))))))))))))))), .inBlock 4, .code (c2 (c2 (c2 (c2 (c2 (c1 (c1 (c2 (c1 (c1 (c2 (c1 (c2 (c2 slices_partialInsertionSortCmpFunc_api_Route.B)))))))))))))), .inBlock 1, .code (c2 (c2 (c1 (c1 (c2 (c1 (c2 (c2 slices_partialInsertionSortCmpFunc_api_Route.B)))))))), .inLoop (c1 (c1 (c2 (c1 (c2 (c2 slices_partialInsertionSortCmpFunc_api_Route.B)))))), .inBlock 0, .code (c2 (c2 (c2 slices_partialInsertionSortCmpFunc_api_Route.B)))] [(0, Sl.v a0), (1, .int .i64 a1), (2, .int .i64 a2), (3, a3v.v), (9, .int .i64 s137), (10, .int .i64 s2), (11, .int .i64 s233)] [] (slices_partialInsertionSortCmpFunc_api_Route.L3 a0 a2 a3 s2 s137 s233) (slices_partialInsertionSortCmpFunc_api_Route.F3 a0 a1 a2 a3v s2 s137) := by
 unfold slices_partialInsertionSortCmpFunc_api_Route.L3
 refine SJ.seq <| SJ.sr 2 <| OJ.go 2 [(69, .bool (decide (s233 ≥ 1))), (68, .int .i64 s233)] <| OJ.nil <| SJ.cond (t := (.tmp 69)) (b := decide (s233 ≥ 1)) decide_eq_true_iff (fun hc259 => ?_) (fun hc259 => ?_)
 ·refine SJ.skip <| SJ.seq <| SJ.block (id := 5) <| SJ.seq <| SJ.seq <| SJ.draw (id := 16) (kd := [0, 0, 0, 0, 1, 0, 0, 0, 0, 1, 2, 0, 0]) (bef := [0, 0, 0, 6, 14, 0, 0, 64, 224, 480, 1023, 2047, 4095]) (ord := [0, 1, 2, 3, 4, 5, 6, 7, 8, 9, 10, 11, 12]) mixed ?_
  refine OJ.go 3 [(74, .int .i64 s233), (73, Sl.v a0), (72, a3v.v)] <| OJ.idxS (d := 75) (T := 39) (y := .tmp 73) (j := .tmp 74) (E := 32) (cap := a0.cap) (k := .i64) (fun p247 => ?_)
  refine OJ.ld (d := 76) (y := .tmp 75) (pend2 := fun x248 => [⟨4, 32, p247, c_api_Route.val x248⟩]) Ty32 (fun _ => rfl) (fun x248 => ?_)
  refine OJ.go 3 [(79, .int .i64 (IntKind.wrap .i64 (s233 - 1))), (78, .int .i64 s233), (77, Sl.v a0)] <| OJ.idxS (d := 80) (T := 39) (y := .tmp 77) (j := .tmp 79) (E := 32) (cap := a0.cap) (k := .i64) (fun p249 => ?_)
  refine OJ.ld (d := 81) (y := .tmp 80) (pend2 := fun x250 => [⟨9, 32, p249, c_api_Route.val x250⟩, ⟨4, 32, p247, c_api_Route.val x248⟩]) Ty32 (fun _ => rfl) (fun x250 => ?_)
  refine OJ.callV1 (d := 82) (ats := #[32, 32]) (args := [.tmp 76, .tmp 81]) (fo := .tmp 72) (vals := [c_api_Route.val x248, c_api_Route.val x250]) (owed := []) (h_a3 x248 x250) (fun r251 => ?_)
  refine OW.nil <| OJ.go 2 [(84, .bool (!(decide (r251 < 0)))), (83, .bool (decide (r251 < 0)))] <| OJ.nil <| SJ.cond (t := (.tmp 84)) (b := (!(decide (r251 < 0)))) (bnot_iff decide_eq_true_iff) (fun hc258 => ?_) (fun hc258 => ?_)
  ·refine SJ.exit (id := 4) (by rfl) <| SJ.less [0, 1, 2, 3, 9, 10] (m' := [(0, Sl.v a0), (1, .int .i64 a1), (2, .int .i64 a2), (3, a3v.v), (9, .int .i64 s137), (10, .int .i64 s2)]) ?_
   refine SJ.done ?_
   exact slices_partialInsertionSortCmpFunc_api_Route.K3_ok a0 a1 a2 a3v a3 h_a3 s2 s137
  ·refine SJ.skip <| SJ.draw (id := 17) (kd := [0, 0, 0, 0, 0, 0, 0, 0, 0, 1, 0, 0, 0, 1, 0, 2, 0, 2]) (bef := [0, 0, 0, 0, 8, 0, 0, 64, 224, 480, 0, 0, 3072, 7168, 16355, 32739, 65535, 131071]) (ord := [0, 1, 2, 3, 4, 5, 6, 7, 8, 9, 10, 11, 12, 13, 14, 15, 16, 17]) mixed ?_
   refine OJ.go 8 [(92, .int .i64 (IntKind.wrap .i64 (s233 - 1))), (91, .int .i64 s233), (90, Sl.v a0), (89, .int .i64 (IntKind.wrap .i64 (s233 - 1))), (88, .int .i64 s233), (87, Sl.v a0), (86, .int .i64 s233), (85, Sl.v a0)] <| OJ.idxS (d := 93) (T := 39) (y := .tmp 90) (j := .tmp 92) (E := 32) (cap := a0.cap) (k := .i64) (fun p252 => ?_)
   refine OJ.ld (d := 94) (y := .tmp 93) (pend2 := fun x253 => [⟨9, 32, p252, c_api_Route.val x253⟩]) Ty32 (fun _ => rfl) (fun x253 => ?_)
   refine OJ.go 2 [(96, .int .i64 s233), (95, Sl.v a0)] <| OJ.idxS (d := 97) (T := 39) (y := .tmp 95) (j := .tmp 96) (E := 32) (cap := a0.cap) (k := .i64) (fun p254 => ?_)
   refine OJ.ld (d := 98) (y := .tmp 97) (pend2 := fun x255 => [⟨13, 32, p254, c_api_Route.val x255⟩, ⟨9, 32, p252, c_api_Route.val x253⟩]) Ty32 (fun _ => rfl) (fun x255 => ?_)
   refine OJ.idxS (d := 99) (T := 39) (y := .tmp 85) (j := .tmp 86) (E := 32) (cap := a0.cap) (k := .i64) (fun p256 => ?_)
   refine OJ.st (y := .tmp 99) (z := .tmp 94) (owed := []) Ty32 ?_
   refine OW.nil <| OJ.idxS (d := 100) (T := 39) (y := .tmp 87) (j := .tmp 89) (E := 32) (cap := a0.cap) (k := .i64) (fun p257 => ?_)
   refine OJ.st (y := .tmp 100) (z := .tmp 98) (owed := []) Ty32 ?_
   exact OW.nil <| OJ.nil <| SJ.inBlock <| SJ.rg 3 <| OJ.go 3 [(11, .int .i64 (IntKind.wrap .i64 (s233 - 1))), (71, .int .i64 (IntKind.wrap .i64 (s233 - 1))), (70, .int .i64 s233)] <| OJ.nil <| SJ.at_ [0, 1, 2, 3, 9, 10, 11] rfl
 ·refine SJ.exit (id := 4) (by rfl) <| SJ.less [0, 1, 2, 3, 9, 10] (m' := [(0, Sl.v a0), (1, .int .i64 a1), (2, .int .i64 a2), (3, a3v.v), (9, .int .i64 s137), (10, .int .i64 s2)]) ?_
  refine SJ.done ?_
  exact slices_partialInsertionSortCmpFunc_api_Route.K3_ok a0 a1 a2 a3v a3 h_a3 s2 s137
noncomputable def slices_partialInsertionSortCmpFunc_api_Route.K4 (a0 : Sl) (a1 : Int) (a2 : Int) (a3 : api_Route → api_Route → M Int) (s2 : Int) (s137 : Int) : M (LS (Int × Int) Bool) :=
 if s137 = a2 then
  pure (LS.done true)
 else
  if (IntKind.wrap .i64 (a2 - a1)) < 50 then
   pure (LS.done false)
  else
   draw >>= fun _ =>
   idx a0.a a0.len (IntKind.wrap .i64 (s137 - 1)) 36 >>= fun p145 =>
   ld c_api_Route p145 >>= fun x146 =>
   idx a0.a a0.len s137 36 >>= fun p147 =>
   ld c_api_Route p147 >>= fun x148 =>
   idx a0.a a0.len s137 36 >>= fun p149 =>
   st c_api_Route p149 x146 >>= fun _ =>
   idx a0.a a0.len (IntKind.wrap .i64 (s137 - 1)) 36 >>= fun p150 =>
   st c_api_Route p150 x148 >>= fun _ =>
   if (IntKind.wrap .i64 (s137 - a1)) ≥ 2 then
    loopM (fun s_ : Int => slices_partialInsertionSortCmpFunc_api_Route.L3 a0 a2 a3 s2 s137 s_) (IntKind.wrap .i64 (s137 - 1))
   else
    slices_partialInsertionSortCmpFunc_api_Route.K2 a0 a2 a3 s2 s137
theorem slices_partialInsertionSortCmpFunc_api_Route.K4_ok (a0 : Sl) (a1 : Int) (a2 : Int) (a3v : Any) (a3 : api_Route → api_Route → M Int) (h_a3 : ∀ (x0_ : api_Route), ∀ (x1_ : api_Route), RefV Tryd.prog a3v.v [c_api_Route.val x0_, c_api_Route.val x1_] (a3 x0_ x1_) (fun r_ : Int => .int .i64 r_)) (s2 : Int) (s137 : Int) :
  SJ slices_partialInsertionSortCmpFunc_api_Route.cx [.code (c2 (c1 (c1 (c2 (c1 (c1 (c2 (c1 (c2 (c2 slices_partialInsertionSortCmpFunc_api_Route.B)))))))))), .inBlock 1, .code (c2 (c2 (c1 (c1 (c2 (c1 (c2 (c2 slices_partialInsertionSortCmpFunc_api_Route.B)))))))), .inLoop (c1 (c1 (c2 (c1 (c2 (c2 slices_partialInsertionSortCmpFunc_api_Route.B)))))), .inBlock 0, .code (c2 (c2 (c2 slices_partialInsertionSortCmpFunc_api_Route.B)))] [(0, Sl.v a0), (1, .int .i64 a1), (2, .int .i64 a2), (3, a3v.v), (9, .int .i64 s137), (10, .int .i64 s2)] [] (slices_partialInsertionSortCmpFunc_api_Route.K4 a0 a1 a2 a3 s2 s137) (slices_partialInsertionSortCmpFunc_api_Route.F1 a0 a1 a2 a3v) := by
 unfold slices_partialInsertionSortCmpFunc_api_Route.K4
 refine SJ.seq <| SJ.sr 3 <| OJ.go 3 [(41, .bool (s137 == a2)), (40, .int .i64 a2), (39, .int .i64 s137)] <| OJ.nil <| SJ.cond (t := (.tmp 41)) (b := (s137 == a2)) beq_iff_eq (fun hc262 => ?_) (fun hc262 => ?_)
 ·exact SJ.sr 1 <| OJ.go 1 [(8, .bool true)] <| OJ.nil <| SJ.r1 (.bool true) rfl rfl
 ·refine SJ.skip <| SJ.seq <| SJ.sr 4 <| OJ.go 4 [(45, .bool (decide ((IntKind.wrap .i64 (a2 - a1)) < 50))), (44, .int .i64 (IntKind.wrap .i64 (a2 - a1))), (43, .int .i64 a1), (42, .int .i64 a2)] <| OJ.nil <| SJ.cond (t := (.tmp 45)) (b := decide ((IntKind.wrap .i64 (a2 - a1)) < 50)) decide_eq_true_iff (fun hc261 => ?_) (fun hc261 => ?_)
  ·exact SJ.sr 1 <| OJ.go 1 [(8, .bool false)] <| OJ.nil <| SJ.r1 (.bool false) rfl rfl
  ·refine SJ.skip <| SJ.seq <| SJ.draw (id := 11) (kd := [0, 0, 0, 0, 0, 0, 0, 0, 0, 1, 0, 0, 0, 1, 0, 2, 0, 2]) (bef := [0, 0, 0, 0, 8, 0, 0, 64, 224, 480, 0, 0, 3072, 7168, 16355, 32739, 65535, 131071]) (ord := [0, 1, 2, 3, 4, 5, 6, 7, 8, 9, 10, 11, 12, 13, 14, 15, 16, 17]) mixed ?_
   refine OJ.go 8 [(53, .int .i64 (IntKind.wrap .i64 (s137 - 1))), (52, .int .i64 s137), (51, Sl.v a0), (50, .int .i64 (IntKind.wrap .i64 (s137 - 1))), (49, .int .i64 s137), (48, Sl.v a0), (47, .int .i64 s137), (46, Sl.v a0)] <| OJ.idxS (d := 54) (T := 39) (y := .tmp 51) (j := .tmp 53) (E := 32) (cap := a0.cap) (k := .i64) (fun p145 => ?_)
   refine OJ.ld (d := 55) (y := .tmp 54) (pend2 := fun x146 => [⟨9, 32, p145, c_api_Route.val x146⟩]) Ty32 (fun _ => rfl) (fun x146 => ?_)
   refine OJ.go 2 [(57, .int .i64 s137), (56, Sl.v a0)] <| OJ.idxS (d := 58) (T := 39) (y := .tmp 56) (j := .tmp 57) (E := 32) (cap := a0.cap) (k := .i64) (fun p147 => ?_)
   refine OJ.ld (d := 59) (y := .tmp 58) (pend2 := fun x148 => [⟨13, 32, p147, c_api_Route.val x148⟩, ⟨9, 32, p145, c_api_Route.val x146⟩]) Ty32 (fun _ => rfl) (fun x148 => ?_)
   refine OJ.idxS (d := 60) (T := 39) (y := .tmp 46) (j := .tmp 47) (E := 32) (cap := a0.cap) (k := .i64) (fun p149 => ?_)
   refine OJ.st (y := .tmp 60) (z := .tmp 55) (owed := []) Ty32 ?_
   refine OW.nil <| OJ.idxS (d := 61) (T := 39) (y := .tmp 48) (j := .tmp 50) (E := 32) (cap := a0.cap) (k := .i64) (fun p150 => ?_)
   refine OJ.st (y := .tmp 61) (z := .tmp 59) (owed := []) Ty32 ?_
   refine OW.nil <| OJ.nil <| SJ.seq <| SJ.sr 4 <| OJ.go 4 [(65, .bool (decide ((IntKind.wrap .i64 (s137 - a1)) ≥ 2))), (64, .int .i64 (IntKind.wrap .i64 (s137 - a1))), (63, .int .i64 a1), (62, .int .i64 s137)] <| OJ.nil <| SJ.cond (t := (.tmp 65)) (b := decide ((IntKind.wrap .i64 (s137 - a1)) ≥ 2)) decide_eq_true_iff (fun hc260 => ?_) (fun hc260 => ?_)
   ·exact SJ.sr 3 <| OJ.go 3 [(11, .int .i64 (IntKind.wrap .i64 (s137 - 1))), (67, .int .i64 (IntKind.wrap .i64 (s137 - 1))), (66, .int .i64 s137)] <| OJ.nil <| SJ.block (id := 4) <| SJ.loop (fun s_ : Int => [(0, Sl.v a0), (1, .int .i64 a1), (2, .int .i64 a2), (3, a3v.v), (9, .int .i64 s137), (10, .int .i64 s2), (11, .int .i64 s_)]) (fun s_ : Int => []) [0, 1, 2, 3, 9, 10, 11] rfl (fun _ _ => rfl) (fun s_ => slices_partialInsertionSortCmpFunc_api_Route.L3_ok a0 a1 a2 a3v a3 h_a3 s2 s137 s_)
   ·refine SJ.skip <| SJ.less [0, 1, 2, 3, 9, 10] (m' := [(0, Sl.v a0), (1, .int .i64 a1), (2, .int .i64 a2), (3, a3v.v), (9, .int .i64 s137), (10, .int .i64 s2)]) ?_
    exact slices_partialInsertionSortCmpFunc_api_Route.K2_ok a0 a1 a2 a3v a3 h_a3 s2 s137
noncomputable def slices_partialInsertionSortCmpFunc_api_Route.F4 (a0 : Sl) (a1 : Int) (a2 : Int) (a3v : Any) (s2 : Int) : (LS Int (LS (Int × Int) Bool)) → Reach := loopF [.inLoop (c1 (c1 (c1 (c1 (c1 (c2 (c1 (c1 (c2 (c1 (c2 (c2 slices_partialInsertionSortCmpFunc_api_Route.B)))))))))))), .inBlock 2, .code (c2 (c1 (c1 (c2 (c1 (c1 (c2 (c1 (c2 (c2 slices_partialInsertionSortCmpFunc_api_Route.B)))))))))), .inBlock 1, .code (c2 (c2 (c1 (c1 (c2 (c1 (c2 (c2 slices_partialInsertionSortCmpFunc_api_Route.B)))))))), .inLoop (c1 (c1 (c2 (c1 (c2 (c2 slices_partialInsertionSortCmpFunc_api_Route.B)))))), .inBlock 0, .code (c2 (c2 (c2 slices_partialInsertionSortCmpFunc_api_Route.B)))] (fun s_ : Int => [(0, Sl.v a0), (1, .int .i64 a1), (2, .int .i64 a2), (3, a3v.v), (9, .int .i64 s_), (10, .int .i64 s2)]) (fun s_ : Int => []) (slices_partialInsertionSortCmpFunc_api_Route.F1 a0 a1 a2 a3v)
noncomputable def slices_partialInsertionSortCmpFunc_api_Route.L4 (a0 : Sl) (a1 : Int) (a2 : Int) (a3 : api_Route → api_Route → M Int) (s2 : Int) (s137 : Int) : M (LS Int (LS (Int × Int) Bool)) :=
 draw >>= fun _ =>
 (if s137 < a2 then
   idx a0.a a0.len s137 36 >>= fun p263 =>
   ld c_api_Route p263 >>= fun x264 =>
   idx a0.a a0.len (IntKind.wrap .i64 (s137 - 1)) 36 >>= fun p265 =>
   ld c_api_Route p265 >>= fun x266 =>
   a3 x264 x266 >>= fun r267 =>
   pure (!(decide (r267 < 0)))
  else
   pure false) >>= fun y268 =>
 if y268 = true then
  pure (LS.next (IntKind.wrap .i64 (s137 + 1)))
 else
  (slices_partialInsertionSortCmpFunc_api_Route.K4 a0 a1 a2 a3 s2 s137) >>= fun b => pure (LS.done b)
theorem slices_partialInsertionSortCmpFunc_api_Route.L4_ok (a0 : Sl) (a1 : Int) (a2 : Int) (a3v : Any) (a3 : api_Route → api_Route → M Int) (h_a3 : ∀ (x0_ : api_Route), ∀ (x1_ : api_Route), RefV Tryd.prog a3v.v [c_api_Route.val x0_, c_api_Route.val x1_] (a3 x0_ x1_) (fun r_ : Int => .int .i64 r_)) (s2 : Int) (s137 : Int) :
  SJ slices_partialInsertionSortCmpFunc_api_Route.cx [.code (c1 (c1 (c1 (c1 (c1 (c2 (c1 (c1 (c2 (c1 (c2 (c2 slices_partialInsertionSortCmpFunc_api_Route.B)))))))))))), .inLoop (c1 (c1 (c1 (c1 (c1 (c2 (c1 (c1 (c2 (c1 (c2 (c2 slices_partialInsertionSortCmpFunc_api_Route.B)))))))))))), .inBlock 2, .code (c2 (c1 (c1 (c2 (c1 (c1 (c2 (c1 (c2 (c2 slices_partialInsertionSortCmpFunc_api_Route.B)))))))))), .inBlock 1, .code (c2 (c2 (c1 (c1 (c2 (c1 (c2 (c2 slices_partialInsertionSortCmpFunc_api_Route.B)))))))), .inLoop (c1 (c1 (c2 (c1 (c2 (c2 slices_partialInsertionSortCmpFunc_api_Route.B)))))), .inBlock 0, .code (c2 (c2 (c2 slices_partialInsertionSortCmpFunc_api_Route.B)))] [(0, Sl.v a0), (1, .int .i64 a1), (2, .int .i64 a2), (3, a3v.v), (9, .int .i64 s137), (10, .int .i64 s2)] [] (slices_partialInsertionSortCmpFunc_api_Route.L4 a0 a1 a2 a3 s2 s137) (slices_partialInsertionSortCmpFunc_api_Route.F4 a0 a1 a2 a3v s2) := by
 unfold slices_partialInsertionSortCmpFunc_api_Route.L4
 refine SJ.seq <| SJ.seq <| SJ.draw (id := 5) (kd := [0, 0, 0, 0, 0, 0, 0, 0, 1, 0, 0, 0, 0, 1, 2, 0, 0, 0]) (bef := [0, 0, 3, 7, 15, 15, 15, 111, 239, 15, 15, 1039, 3599, 7695, 16383, 32767, 65535, 131071]) (ord := [0, 1, 2, 3, 4, 5, 6, 7, 8, 9, 10, 11, 12, 13, 14, 15, 16, 17]) mixed ?_
 refine OJ.go 4 [(22, .bool (decide (s137 < a2))), (21, .bool (decide (s137 < a2))), (20, .int .i64 a2), (19, .int .i64 s137)] <| OJ.join (b := decide (s137 < a2)) [4, 5, 6, 7, 8, 9, 10, 11, 12, 13, 14, 15, 16, 17] [] [0, 1, 2, 3, 9, 10, 36] (fun y268 => [(0, Sl.v a0), (1, .int .i64 a1), (2, .int .i64 a2), (3, a3v.v), (9, .int .i64 s137), (10, .int .i64 s2), (36, .bool y268)]) [] [8, 13] (t := 22) decide_eq_true_iff (fun hp_ => ?_) (fun hp_ => ?_) (fun _ _ _ _ _ _ h_ => h_) (fun y268 => ?_)
 ·refine OJ.go 3 [(25, .int .i64 s137), (24, Sl.v a0), (23, a3v.v)] <| OJ.idxS (d := 26) (T := 39) (y := .tmp 24) (j := .tmp 25) (E := 32) (cap := a0.cap) (k := .i64) (fun p263 => ?_)
  refine OJ.ld (d := 27) (y := .tmp 26) (pend2 := fun x264 => [⟨8, 32, p263, c_api_Route.val x264⟩]) Ty32 (fun _ => rfl) (fun x264 => ?_)
  refine OJ.go 3 [(30, .int .i64 (IntKind.wrap .i64 (s137 - 1))), (29, .int .i64 s137), (28, Sl.v a0)] <| OJ.idxS (d := 31) (T := 39) (y := .tmp 28) (j := .tmp 30) (E := 32) (cap := a0.cap) (k := .i64) (fun p265 => ?_)
  refine OJ.ld (d := 32) (y := .tmp 31) (pend2 := fun x266 => [⟨13, 32, p265, c_api_Route.val x266⟩, ⟨8, 32, p263, c_api_Route.val x264⟩]) Ty32 (fun _ => rfl) (fun x266 => ?_)
  refine OJ.callV1 (d := 33) (ats := #[32, 32]) (args := [.tmp 27, .tmp 32]) (fo := .tmp 23) (vals := [c_api_Route.val x264, c_api_Route.val x266]) (owed := []) (h_a3 x264 x266) (fun r267 => ?_)
  exact OW.nil <| OJ.go 3 [(36, .bool (!(decide (r267 < 0)))), (35, .bool (!(decide (r267 < 0)))), (34, .bool (decide (r267 < 0)))] <| OJ.nil ⟨(Cov.mem (Cov.drop (List.mem_of_getElem? (i := 1) rfl) (Cov.drop (List.mem_of_getElem? (i := 0) rfl) Cov.nil))), rfl, _, rfl, by kernel_rfl⟩
 ·exact OJ.go 14 [(36, .bool false), (35, undef), (34, undef), (33, undef), (32, undef), (31, undef), (30, undef), (29, undef), (28, undef), (27, undef), (26, undef), (25, undef), (24, undef), (23, undef)] <| OJ.x0
 ·refine OJ.nil <| SJ.cond (t := (.tmp 36)) (b := y268) Iff.rfl (fun hc269 => ?_) (fun hc269 => ?_)
  ·exact SJ.skip <| SJ.block (id := 3) <| SJ.rg 3 <| OJ.go 3 [(9, .int .i64 (IntKind.wrap .i64 (s137 + 1))), (38, .int .i64 (IntKind.wrap .i64 (s137 + 1))), (37, .int .i64 s137)] <| OJ.nil <| SJ.inBlock <| SJ.at_ [0, 1, 2, 3, 9, 10] rfl
  ·refine SJ.exit (id := 2) (by rfl) <| SJ.less [0, 1, 2, 3, 9, 10] (m' := [(0, Sl.v a0), (1, .int .i64 a1), (2, .int .i64 a2), (3, a3v.v), (9, .int .i64 s137), (10, .int .i64 s2)]) ?_
   refine SJ.done ?_
   exact slices_partialInsertionSortCmpFunc_api_Route.K4_ok a0 a1 a2 a3v a3 h_a3 s2 s137
noncomputable def slices_partialInsertionSortCmpFunc_api_Route.L1 (a0 : Sl) (a1 : Int) (a2 : Int) (a3 : api_Route → api_Route → M Int) (s1 : Int) (s2 : Int) : M (LS (Int × Int) Bool) :=
 if s2 < 5 then
  loopM (fun s_ : Int => slices_partialInsertionSortCmpFunc_api_Route.L4 a0 a1 a2 a3 s2 s_) s1
 else
  pure (LS.done false)
theorem slices_partialInsertionSortCmpFunc_api_Route.L1_ok (a0 : Sl) (a1 : Int) (a2 : Int) (a3v : Any) (a3 : api_Route → api_Route → M Int) (h_a3 : ∀ (x0_ : api_Route), ∀ (x1_ : api_Route), RefV Tryd.prog a3v.v [c_api_Route.val x0_, c_api_Route.val x1_] (a3 x0_ x1_) (fun r_ : Int => .int .i64 r_)) (s1 : Int) (s2 : Int) :
  SJ slices_partialInsertionSortCmpFunc_api_Route.cx [.code (c1 (c1 (c2 (c1 (c2 (c2 slices_partialInsertionSortCmpFunc_api_Route.B)))))), .inLoop (c1 (c1 (c2 (c1 (c2 (c2 slices_partialInsertionSortCmpFunc_api_Route.B)))))), .inBlock 0, .code (c2 (c2 (c2 slices_partialInsertionSortCmpFunc_api_Route.B)))] [(0, Sl.v a0), (1, .int .i64 a1), (2, .int .i64 a2), (3, a3v.v), (9, .int .i64 s1), (10, .int .i64 s2)] [] (slices_partialInsertionSortCmpFunc_api_Route.L1 a0 a1 a2 a3 s1 s2) (slices_partialInsertionSortCmpFunc_api_Route.F1 a0 a1 a2 a3v) := by
 unfold slices_partialInsertionSortCmpFunc_api_Route.L1
 refine SJ.seq <| SJ.sr 2 <| OJ.go 2 [(16, .bool (decide (s2 < 5))), (15, .int .i64 s2)] <| OJ.nil <| SJ.cond (t := (.tmp 16)) (b := decide (s2 < 5)) decide_eq_true_iff (fun hc270 => ?_) (fun hc270 => ?_)
 ·exact SJ.skip <| SJ.seq <| SJ.block (id := 1) <| SJ.seq <| SJ.block (id := 2) <| SJ.loop (fun s_ : Int => [(0, Sl.v a0), (1, .int .i64 a1), (2, .int .i64 a2), (3, a3v.v), (9, .int .i64 s_), (10, .int .i64 s2)]) (fun s_ : Int => []) [0, 1, 2, 3, 9, 10] rfl (fun _ _ => rfl) (fun s_ => slices_partialInsertionSortCmpFunc_api_Route.L4_ok a0 a1 a2 a3v a3 h_a3 s2 s_)
 ·exact SJ.exit (id := 0) (by rfl) <| SJ.sr 1 <| OJ.go 1 [(8, .bool false)] <| OJ.nil <| SJ.r1 (.bool false) rfl rfl
noncomputable def slices_partialInsertionSortCmpFunc_api_Route (a0 : Sl) (a1 : Int) (a2 : Int) (a3 : api_Route → api_Route → M Int) : M Bool :=
 loopM (fun s_ : (Int × Int) => slices_partialInsertionSortCmpFunc_api_Route.L1 a0 a1 a2 a3 s_.1 s_.2) (IntKind.wrap .i64 (a1 + 1), 0)
theorem slices_partialInsertionSortCmpFunc_api_Route_ok (a0 : Sl) (a1 : Int) (a2 : Int) (a3v : Any) (a3 : api_Route → api_Route → M Int) (h_a3 : ∀ (x0_ : api_Route), ∀ (x1_ : api_Route), RefV Tryd.prog a3v.v [c_api_Route.val x0_, c_api_Route.val x1_] (a3 x0_ x1_) (fun r_ : Int => .int .i64 r_)) : Ref Tryd.prog 75 [Sl.v a0, .int .i64 a1, .int .i64 a2, a3v.v] (slices_partialInsertionSortCmpFunc_api_Route a0 a1 a2 a3) slices_partialInsertionSortCmpFunc_api_Route.out := by
 refine Ref.of (cd := slices_partialInsertionSortCmpFunc_api_Route.B) Tryd.func75 ?_
 show SJ slices_partialInsertionSortCmpFunc_api_Route.cx [.code slices_partialInsertionSortCmpFunc_api_Route.B] [(0, Sl.v a0), (1, .int .i64 a1), (2, .int .i64 a2), (3, a3v.v)] [] (slices_partialInsertionSortCmpFunc_api_Route a0 a1 a2 a3) slices_partialInsertionSortCmpFunc_api_Route.F0
 unfold slices_partialInsertionSortCmpFunc_api_Route
 exact SJ.sr 1 <| OJ.go 1 [(8, .bool false)] <| OJ.nil <| SJ.sr 3 <| OJ.go 3 [(9, .int .i64 (IntKind.wrap .i64 (a1 + 1))), (14, .int .i64 (IntKind.wrap .i64 (a1 + 1))), (13, .int .i64 a1)] <| OJ.nil <| SJ.seq <| SJ.sr 1 <| OJ.go 1 [(10, .int .i64 0)] <| OJ.nil <| SJ.block (id := 0) <| SJ.loop (fun s_ : (Int × Int) => [(0, Sl.v a0), (1, .int .i64 a1), (2, .int .i64 a2), (3, a3v.v), (9, .int .i64 s_.1), (10, .int .i64 s_.2)]) (fun s_ : (Int × Int) => []) [0, 1, 2, 3, 9, 10] rfl (fun _ _ => rfl) (fun s_ => slices_partialInsertionSortCmpFunc_api_Route.L1_ok a0 a1 a2 a3v a3 h_a3 s_.1 s_.2)

/-! ### slices.partitionEqualCmpFunc[weir/api.Route]: function 76 -/
noncomputable def slices_partitionEqualCmpFunc_api_Route.B : Code := (Tryd.f76.body).getD .skip
noncomputable def slices_partitionEqualCmpFunc_api_Route.cx : Fx := ⟨Tryd.prog, 76, Tryd.f76, none⟩
noncomputable def slices_partitionEqualCmpFunc_api_Route.out (r_ : Int) : Value := .int .i64 r_
noncomputable def slices_partitionEqualCmpFunc_api_Route.F0 (r_ : Int) : Reach := .ret (slices_partitionEqualCmpFunc_api_Route.out r_)
noncomputable def slices_partitionEqualCmpFunc_api_Route.F1 (a0 : Sl) (a1 : Int) (a4v : Any) : (LS (Int × Int) Int) → Reach := loopF [.inLoop (c1 (c1 (c1 (c2 (c2 (c2 slices_partitionEqualCmpFunc_api_Route.B)))))), .inBlock 0, .code (c2 (c2 (c2 (c2 slices_partitionEqualCmpFunc_api_Route.B))))] (fun s_ : (Int × Int) => [(0, Sl.v a0), (1, .int .i64 a1), (4, a4v.v), (11, .int .i64 s_.1), (12, .int .i64 s_.2)]) (fun s_ : (Int × Int) => []) slices_partitionEqualCmpFunc_api_Route.F0
noncomputable def slices_partitionEqualCmpFunc_api_Route.K1 (a0 : Sl) (s46 : Int) (s54 : Int) : M (LS (Int × Int) Int) :=
 if s46 > s54 then
  pure (LS.done s46)
 else
  draw >>= fun _ =>
  idx a0.a a0.len s54 36 >>= fun p62 =>
  ld c_api_Route p62 >>= fun x63 =>
  idx a0.a a0.len s46 36 >>= fun p64 =>
  ld c_api_Route p64 >>= fun x65 =>
  idx a0.a a0.len s46 36 >>= fun p66 =>
  st c_api_Route p66 x63 >>= fun _ =>
  idx a0.a a0.len s54 36 >>= fun p67 =>
  st c_api_Route p67 x65 >>= fun _ =>
  pure (LS.next (IntKind.wrap .i64 (s46 + 1), IntKind.wrap .i64 (s54 - 1)))
theorem slices_partitionEqualCmpFunc_api_Route.K1_ok (a0 : Sl) (a1 : Int) (a4v : Any) (s46 : Int) (s54 : Int) :
  SJ slices_partitionEqualCmpFunc_api_Route.cx [.code (c2 (c2 (c1 (c1 (c1 (c1 (c2 (c2 (c2 slices_partitionEqualCmpFunc_api_Route.B))))))))), .inBlock 1, .inLoop (c1 (c1 (c1 (c2 (c2 (c2 slices_partitionEqualCmpFunc_api_Route.B)))))), .inBlock 0, .code (c2 (c2 (c2 (c2 slices_partitionEqualCmpFunc_api_Route.B))))] [(0, Sl.v a0), (1, .int .i64 a1), (4, a4v.v), (11, .int .i64 s46), (12, .int .i64 s54)] [] (slices_partitionEqualCmpFunc_api_Route.K1 a0 s46 s54) (slices_partitionEqualCmpFunc_api_Route.F1 a0 a1 a4v) := by
 unfold slices_partitionEqualCmpFunc_api_Route.K1
 refine SJ.seq <| SJ.sr 3 <| OJ.go 3 [(70, .bool (decide (s46 > s54))), (69, .int .i64 s54), (68, .int .i64 s46)] <| OJ.nil <| SJ.cond (t := (.tmp 70)) (b := decide (s46 > s54)) decide_eq_true_iff (fun hc68 => ?_) (fun hc68 => ?_)
 ·exact SJ.exit (id := 0) (by rfl) <| SJ.sr 2 <| OJ.go 2 [(10, .int .i64 s46), (89, .int .i64 s46)] <| OJ.nil <| SJ.r1 (.int .i64 s46) rfl rfl
 ·refine SJ.skip <| SJ.seq <| SJ.draw (id := 8) (kd := [0, 0, 0, 0, 0, 0, 0, 1, 0, 0, 0, 1, 0, 2, 0, 2]) (bef := [0, 0, 0, 0, 0, 0, 48, 112, 0, 0, 768, 1792, 4083, 8179, 16383, 32767]) (ord := [0, 1, 2, 3, 4, 5, 6, 7, 8, 9, 10, 11, 12, 13, 14, 15]) mixed ?_
  refine OJ.go 6 [(76, .int .i64 s54), (75, Sl.v a0), (74, .int .i64 s54), (73, Sl.v a0), (72, .int .i64 s46), (71, Sl.v a0)] <| OJ.idxS (d := 77) (T := 39) (y := .tmp 75) (j := .tmp 76) (E := 32) (cap := a0.cap) (k := .i64) (fun p62 => ?_)
  refine OJ.ld (d := 78) (y := .tmp 77) (pend2 := fun x63 => [⟨7, 32, p62, c_api_Route.val x63⟩]) Ty32 (fun _ => rfl) (fun x63 => ?_)
  refine OJ.go 2 [(80, .int .i64 s46), (79, Sl.v a0)] <| OJ.idxS (d := 81) (T := 39) (y := .tmp 79) (j := .tmp 80) (E := 32) (cap := a0.cap) (k := .i64) (fun p64 => ?_)
  refine OJ.ld (d := 82) (y := .tmp 81) (pend2 := fun x65 => [⟨11, 32, p64, c_api_Route.val x65⟩, ⟨7, 32, p62, c_api_Route.val x63⟩]) Ty32 (fun _ => rfl) (fun x65 => ?_)
  refine OJ.idxS (d := 83) (T := 39) (y := .tmp 71) (j := .tmp 72) (E := 32) (cap := a0.cap) (k := .i64) (fun p66 => ?_)
  refine OJ.st (y := .tmp 83) (z := .tmp 78) (owed := []) Ty32 ?_
  refine OW.nil <| OJ.idxS (d := 84) (T := 39) (y := .tmp 73) (j := .tmp 74) (E := 32) (cap := a0.cap) (k := .i64) (fun p67 => ?_)
  refine OJ.st (y := .tmp 84) (z := .tmp 82) (owed := []) Ty32 ?_
  exact OW.nil <| OJ.nil <| SJ.sr 3 <| OJ.go 3 [(11, .int .i64 (IntKind.wrap .i64 (s46 + 1))), (86, .int .i64 (IntKind.wrap .i64 (s46 + 1))), (85, .int .i64 s46)] <| OJ.nil <| SJ.rg 3 <| OJ.go 3 [(12, .int .i64 (IntKind.wrap .i64 (s54 - 1))), (88, .int .i64 (IntKind.wrap .i64 (s54 - 1))), (87, .int .i64 s54)] <| OJ.nil <| SJ.inBlock <| SJ.at_ [0, 1, 4, 11, 12] rfl
noncomputable def slices_partitionEqualCmpFunc_api_Route.F2 (a0 : Sl) (a1 : Int) (a4v : Any) (s46 : Int) : (LS Int (LS (Int × Int) Int)) → Reach := loopF [.inLoop (c1 (c1 (c1 (c2 (c1 (c1 (c1 (c1 (c2 (c2 (c2 slices_partitionEqualCmpFunc_api_Route.B))))))))))), .inBlock 4, .code (c2 (c2 (c1 (c1 (c1 (c1 (c2 (c2 (c2 slices_partitionEqualCmpFunc_api_Route.B))))))))), .inBlock 1, .inLoop (c1 (c1 (c1 (c2 (c2 (c2 slices_partitionEqualCmpFunc_api_Route.B)))))), .inBlock 0, .code (c2 (c2 (c2 (c2 slices_partitionEqualCmpFunc_api_Route.B))))] (fun s_ : Int => [(0, Sl.v a0), (1, .int .i64 a1), (4, a4v.v), (11, .int .i64 s46), (12, .int .i64 s_)]) (fun s_ : Int => []) (slices_partitionEqualCmpFunc_api_Route.F1 a0 a1 a4v)
noncomputable def slices_partitionEqualCmpFunc_api_Route.L2 (a0 : Sl) (a1 : Int) (a4 : api_Route → api_Route → M Int) (s46 : Int) (s54 : Int) : M (LS Int (LS (Int × Int) Int)) :=
 draw >>= fun _ =>
 (if s46 ≤ s54 then
   idx a0.a a0.len a1 36 >>= fun p69 =>
   ld c_api_Route p69 >>= fun x70 =>
   idx a0.a a0.len s54 36 >>= fun p71 =>
   ld c_api_Route p71 >>= fun x72 =>
   a4 x70 x72 >>= fun r73 =>
   pure (decide (r73 < 0))
  else
   pure false) >>= fun y74 =>
 if y74 = true then
  pure (LS.next (IntKind.wrap .i64 (s54 - 1)))
 else
  (slices_partitionEqualCmpFunc_api_Route.K1 a0 s46 s54) >>= fun b => pure (LS.done b)
theorem slices_partitionEqualCmpFunc_api_Route.L2_ok (a0 : Sl) (a1 : Int) (a4v : Any) (a4 : api_Route → api_Route → M Int) (h_a4 : ∀ (x0_ : api_Route), ∀ (x1_ : api_Route), RefV Tryd.prog a4v.v [c_api_Route.val x0_, c_api_Route.val x1_] (a4 x0_ x1_) (fun r_ : Int => .int .i64 r_)) (s46 : Int) (s54 : Int) :
  SJ slices_partitionEqualCmpFunc_api_Route.cx [.code (c1 (c1 (c1 (c2 (c1 (c1 (c1 (c1 (c2 (c2 (c2 slices_partitionEqualCmpFunc_api_Route.B))))))))))), .inLoop (c1 (c1 (c1 (c2 (c1 (c1 (c1 (c1 (c2 (c2 (c2 slices_partitionEqualCmpFunc_api_Route.B))))))))))), .inBlock 4, .code (c2 (c2 (c1 (c1 (c1 (c1 (c2 (c2 (c2 slices_partitionEqualCmpFunc_api_Route.B))))))))), .inBlock 1, .inLoop (c1 (c1 (c1 (c2 (c2 (c2 slices_partitionEqualCmpFunc_api_Route.B)))))), .inBlock 0, .code (c2 (c2 (c2 (c2 slices_partitionEqualCmpFunc_api_Route.B))))] [(0, Sl.v a0), (1, .int .i64 a1), (4, a4v.v), (11, .int .i64 s46), (12, .int .i64 s54)] [] (slices_partitionEqualCmpFunc_api_Route.L2 a0 a1 a4 s46 s54) (slices_partitionEqualCmpFunc_api_Route.F2 a0 a1 a4v s46) := by
 unfold slices_partitionEqualCmpFunc_api_Route.L2
 refine SJ.seq <| SJ.seq <| SJ.draw (id := 5) (kd := [0, 0, 0, 0, 0, 0, 0, 0, 1, 0, 0, 0, 1, 2, 0, 0]) (bef := [0, 0, 3, 7, 15, 15, 15, 111, 239, 15, 15, 1551, 3599, 8191, 16383, 32767]) (ord := [0, 1, 2, 3, 4, 5, 6, 7, 8, 9, 10, 11, 12, 13, 14, 15]) mixed ?_
 refine OJ.go 4 [(53, .bool (decide (s46 ≤ s54))), (52, .bool (decide (s46 ≤ s54))), (51, .int .i64 s54), (50, .int .i64 s46)] <| OJ.join (b := decide (s46 ≤ s54)) [4, 5, 6, 7, 8, 9, 10, 11, 12, 13, 14, 15] [] [0, 1, 4, 11, 12, 65] (fun y74 => [(0, Sl.v a0), (1, .int .i64 a1), (4, a4v.v), (11, .int .i64 s46), (12, .int .i64 s54), (65, .bool y74)]) [] [8, 12] (t := 53) decide_eq_true_iff (fun hp_ => ?_) (fun hp_ => ?_) (fun _ _ _ _ _ _ h_ => h_) (fun y74 => ?_)
 ·refine OJ.go 3 [(56, .int .i64 a1), (55, Sl.v a0), (54, a4v.v)] <| OJ.idxS (d := 57) (T := 39) (y := .tmp 55) (j := .tmp 56) (E := 32) (cap := a0.cap) (k := .i64) (fun p69 => ?_)
  refine OJ.ld (d := 58) (y := .tmp 57) (pend2 := fun x70 => [⟨8, 32, p69, c_api_Route.val x70⟩]) Ty32 (fun _ => rfl) (fun x70 => ?_)
  refine OJ.go 2 [(60, .int .i64 s54), (59, Sl.v a0)] <| OJ.idxS (d := 61) (T := 39) (y := .tmp 59) (j := .tmp 60) (E := 32) (cap := a0.cap) (k := .i64) (fun p71 => ?_)
  refine OJ.ld (d := 62) (y := .tmp 61) (pend2 := fun x72 => [⟨12, 32, p71, c_api_Route.val x72⟩, ⟨8, 32, p69, c_api_Route.val x70⟩]) Ty32 (fun _ => rfl) (fun x72 => ?_)
  refine OJ.callV1 (d := 63) (ats := #[32, 32]) (args := [.tmp 58, .tmp 62]) (fo := .tmp 54) (vals := [c_api_Route.val x70, c_api_Route.val x72]) (owed := []) (h_a4 x70 x72) (fun r73 => ?_)
  exact OW.nil <| OJ.go 2 [(65, .bool (decide (r73 < 0))), (64, .bool (decide (r73 < 0)))] <| OJ.nil ⟨(Cov.mem (Cov.drop (List.mem_of_getElem? (i := 1) rfl) (Cov.drop (List.mem_of_getElem? (i := 0) rfl) Cov.nil))), rfl, _, rfl, by kernel_rfl⟩
 ·exact OJ.go 12 [(65, .bool false), (64, undef), (63, undef), (62, undef), (61, undef), (60, undef), (59, undef), (58, undef), (57, undef), (56, undef), (55, undef), (54, undef)] <| OJ.x0
 ·refine OJ.nil <| SJ.cond (t := (.tmp 65)) (b := y74) Iff.rfl (fun hc75 => ?_) (fun hc75 => ?_)
  ·exact SJ.skip <| SJ.block (id := 5) <| SJ.rg 3 <| OJ.go 3 [(12, .int .i64 (IntKind.wrap .i64 (s54 - 1))), (67, .int .i64 (IntKind.wrap .i64 (s54 - 1))), (66, .int .i64 s54)] <| OJ.nil <| SJ.inBlock <| SJ.at_ [0, 1, 4, 11, 12] rfl
  ·refine SJ.exit (id := 4) (by rfl) <| SJ.less [0, 1, 4, 11, 12] (m' := [(0, Sl.v a0), (1, .int .i64 a1), (4, a4v.v), (11, .int .i64 s46), (12, .int .i64 s54)]) ?_
   refine SJ.done ?_
   exact slices_partitionEqualCmpFunc_api_Route.K1_ok a0 a1 a4v s46 s54
noncomputable def slices_partitionEqualCmpFunc_api_Route.K2 (a0 : Sl) (a1 : Int) (a4 : api_Route → api_Route → M Int) (s8 : Int) (s46 : Int) : M (LS (Int × Int) Int) :=
 loopM (fun s_ : Int => slices_partitionEqualCmpFunc_api_Route.L2 a0 a1 a4 s46 s_) s8
theorem slices_partitionEqualCmpFunc_api_Route.K2_ok (a0 : Sl) (a1 : Int) (a4v : Any) (a4 : api_Route → api_Route → M Int) (h_a4 : ∀ (x0_ : api_Route), ∀ (x1_ : api_Route), RefV Tryd.prog a4v.v [c_api_Route.val x0_, c_api_Route.val x1_] (a4 x0_ x1_) (fun r_ : Int => .int .i64 r_)) (s8 : Int) (s46 : Int) :
  SJ slices_partitionEqualCmpFunc_api_Route.cx [.code (c2 (c1 (c1 (c1 (c1 (c2 (c2 (c2 slices_partitionEqualCmpFunc_api_Route.B)))))))), .inBlock 1, .inLoop (c1 (c1 (c1 (c2 (c2 (c2 slices_partitionEqualCmpFunc_api_Route.B)))))), .inBlock 0, .code (c2 (c2 (c2 (c2 slices_partitionEqualCmpFunc_api_Route.B))))] [(0, Sl.v a0), (1, .int .i64 a1), (4, a4v.v), (11, .int .i64 s46), (12, .int .i64 s8)] [] (slices_partitionEqualCmpFunc_api_Route.K2 a0 a1 a4 s8 s46) (slices_partitionEqualCmpFunc_api_Route.F1 a0 a1 a4v) := by
 unfold slices_partitionEqualCmpFunc_api_Route.K2
 exact SJ.seq <| SJ.block (id := 4) <| SJ.loop (fun s_ : Int => [(0, Sl.v a0), (1, .int .i64 a1), (4, a4v.v), (11, .int .i64 s46), (12, .int .i64 s_)]) (fun s_ : Int => []) [0, 1, 4, 11, 12] rfl (fun _ _ => rfl) (fun s_ => slices_partitionEqualCmpFunc_api_Route.L2_ok a0 a1 a4v a4 h_a4 s46 s_)
noncomputable def slices_partitionEqualCmpFunc_api_Route.F3 (a0 : Sl) (a1 : Int) (a4v : Any) (s8 : Int) : (LS Int (LS (Int × Int) Int)) → Reach := loopF [.inLoop (c1 (c1 (c1 (c1 (c1 (c1 (c1 (c2 (c2 (c2 slices_partitionEqualCmpFunc_api_Route.B)))))))))), .inBlock 2, .code (c2 (c1 (c1 (c1 (c1 (c2 (c2 (c2 slices_partitionEqualCmpFunc_api_Route.B)))))))), .inBlock 1, .inLoop (c1 (c1 (c1 (c2 (c2 (c2 slices_partitionEqualCmpFunc_api_Route.B)))))), .inBlock 0, .code (c2 (c2 (c2 (c2 slices_partitionEqualCmpFunc_api_Route.B))))] (fun s_ : Int => [(0, Sl.v a0), (1, .int .i64 a1), (4, a4v.v), (11, .int .i64 s_), (12, .int .i64 s8)]) (fun s_ : Int => []) (slices_partitionEqualCmpFunc_api_Route.F1 a0 a1 a4v)
noncomputable def slices_partitionEqualCmpFunc_api_Route.L3 (a0 : Sl) (a1 : Int) (a4 : api_Route → api_Route → M Int) (s8 : Int) (s46 : Int) : M (LS Int (LS (Int × Int) Int)) :=
 draw >>= fun _ =>
 (if s46 ≤ s8 then
   idx a0.a a0.len a1 36 >>= fun p76 =>
   ld c_api_Route p76 >>= fun x77 =>
   idx a0.a a0.len s46 36 >>= fun p78 =>
   ld c_api_Route p78 >>= fun x79 =>
   a4 x77 x79 >>= fun r80 =>
   pure (!(decide (r80 < 0)))
  else
   pure false) >>= fun y81 =>
 if y81 = true then
  pure (LS.next (IntKind.wrap .i64 (s46 + 1)))
 else
  (slices_partitionEqualCmpFunc_api_Route.K2 a0 a1 a4 s8 s46) >>= fun b => pure (LS.done b)
theorem slices_partitionEqualCmpFunc_api_Route.L3_ok (a0 : Sl) (a1 : Int) (a4v : Any) (a4 : api_Route → api_Route → M Int) (h_a4 : ∀ (x0_ : api_Route), ∀ (x1_ : api_Route), RefV Tryd.prog a4v.v [c_api_Route.val x0_, c_api_Route.val x1_] (a4 x0_ x1_) (fun r_ : Int => .int .i64 r_)) (s8 : Int) (s46 : Int) :
  SJ slices_partitionEqualCmpFunc_api_Route.cx [.code (c1 (c1 (c1 (c1 (c1 (c1 (c1 (c2 (c2 (c2 slices_partitionEqualCmpFunc_api_Route.B)))))))))), .inLoop (c1 (c1 (c1 (c1 (c1 (c1 (c1 (c2 (c2 (c2 slices_partitionEqualCmpFunc_api_Route.B)))))))))), .inBlock 2, .code (c2 (c1 (c1 (c1 (c1 (c2 (c2 (c2 slices_partitionEqualCmpFunc_api_Route.B)))))))), .inBlock 1, .inLoop (c1 (c1 (c1 (c2 (c2 (c2 slices_partitionEqualCmpFunc_api_Route.B)))))), .inBlock 0, .code (c2 (c2 (c2 (c2 slices_partitionEqualCmpFunc_api_Route.B))))] [(0, Sl.v a0), (1, .int .i64 a1), (4, a4v.v), (11, .int .i64 s46), (12, .int .i64 s8)] [] (slices_partitionEqualCmpFunc_api_Route.L3 a0 a1 a4 s8 s46) (slices_partitionEqualCmpFunc_api_Route.F3 a0 a1 a4v s8) := by
 unfold slices_partitionEqualCmpFunc_api_Route.L3
 refine SJ.seq <| SJ.seq <| SJ.draw (id := 3) (kd := [0, 0, 0, 0, 0, 0, 0, 0, 1, 0, 0, 0, 1, 2, 0, 0, 0]) (bef := [0, 0, 3, 7, 15, 15, 15, 111, 239, 15, 15, 1551, 3599, 8191, 16383, 32767, 65535]) (ord := [0, 1, 2, 3, 4, 5, 6, 7, 8, 9, 10, 11, 12, 13, 14, 15, 16]) mixed ?_
 refine OJ.go 4 [(34, .bool (decide (s46 ≤ s8))), (33, .bool (decide (s46 ≤ s8))), (32, .int .i64 s8), (31, .int .i64 s46)] <| OJ.join (b := decide (s46 ≤ s8)) [4, 5, 6, 7, 8, 9, 10, 11, 12, 13, 14, 15, 16] [] [0, 1, 4, 11, 12, 47] (fun y81 => [(0, Sl.v a0), (1, .int .i64 a1), (4, a4v.v), (11, .int .i64 s46), (12, .int .i64 s8), (47, .bool y81)]) [] [8, 12] (t := 34) decide_eq_true_iff (fun hp_ => ?_) (fun hp_ => ?_) (fun _ _ _ _ _ _ h_ => h_) (fun y81 => ?_)
 ·refine OJ.go 3 [(37, .int .i64 a1), (36, Sl.v a0), (35, a4v.v)] <| OJ.idxS (d := 38) (T := 39) (y := .tmp 36) (j := .tmp 37) (E := 32) (cap := a0.cap) (k := .i64) (fun p76 => ?_)
  refine OJ.ld (d := 39) (y := .tmp 38) (pend2 := fun x77 => [⟨8, 32, p76, c_api_Route.val x77⟩]) Ty32 (fun _ => rfl) (fun x77 => ?_)
  refine OJ.go 2 [(41, .int .i64 s46), (40, Sl.v a0)] <| OJ.idxS (d := 42) (T := 39) (y := .tmp 40) (j := .tmp 41) (E := 32) (cap := a0.cap) (k := .i64) (fun p78 => ?_)
  refine OJ.ld (d := 43) (y := .tmp 42) (pend2 := fun x79 => [⟨12, 32, p78, c_api_Route.val x79⟩, ⟨8, 32, p76, c_api_Route.val x77⟩]) Ty32 (fun _ => rfl) (fun x79 => ?_)
  refine OJ.callV1 (d := 44) (ats := #[32, 32]) (args := [.tmp 39, .tmp 43]) (fo := .tmp 35) (vals := [c_api_Route.val x77, c_api_Route.val x79]) (owed := []) (h_a4 x77 x79) (fun r80 => ?_)
  exact OW.nil <| OJ.go 3 [(47, .bool (!(decide (r80 < 0)))), (46, .bool (!(decide (r80 < 0)))), (45, .bool (decide (r80 < 0)))] <| OJ.nil ⟨(Cov.mem (Cov.drop (List.mem_of_getElem? (i := 1) rfl) (Cov.drop (List.mem_of_getElem? (i := 0) rfl) Cov.nil))), rfl, _, rfl, by kernel_rfl⟩
 ·exact OJ.go 13 [(47, .bool false), (46, undef), (45, undef), (44, undef), (43, undef), (42, undef), (41, undef), (40, undef), (39, undef), (38, undef), (37, undef), (36, undef), (35, undef)] <| OJ.x0
 ·refine OJ.nil <| SJ.cond (t := (.tmp 47)) (b := y81) Iff.rfl (fun hc82 => ?_) (fun hc82 => ?_)
  ·exact SJ.skip <| SJ.block (id := 3) <| SJ.rg 3 <| OJ.go 3 [(11, .int .i64 (IntKind.wrap .i64 (s46 + 1))), (49, .int .i64 (IntKind.wrap .i64 (s46 + 1))), (48, .int .i64 s46)] <| OJ.nil <| SJ.inBlock <| SJ.at_ [0, 1, 4, 11, 12] rfl
  ·refine SJ.exit (id := 2) (by rfl) <| SJ.less [0, 1, 4, 11, 12] (m' := [(0, Sl.v a0), (1, .int .i64 a1), (4, a4v.v), (11, .int .i64 s46), (12, .int .i64 s8)]) ?_
   refine SJ.done ?_
   exact slices_partitionEqualCmpFunc_api_Route.K2_ok a0 a1 a4v a4 h_a4 s8 s46
noncomputable def slices_partitionEqualCmpFunc_api_Route.L1 (a0 : Sl) (a1 : Int) (a4 : api_Route → api_Route → M Int) (s7 : Int) (s8 : Int) : M (LS (Int × Int) Int) :=
 loopM (fun s_ : Int => slices_partitionEqualCmpFunc_api_Route.L3 a0 a1 a4 s8 s_) s7
theorem slices_partitionEqualCmpFunc_api_Route.L1_ok (a0 : Sl) (a1 : Int) (a4v : Any) (a4 : api_Route → api_Route → M Int) (h_a4 : ∀ (x0_ : api_Route), ∀ (x1_ : api_Route), RefV Tryd.prog a4v.v [c_api_Route.val x0_, c_api_Route.val x1_] (a4 x0_ x1_) (fun r_ : Int => .int .i64 r_)) (s7 : Int) (s8 : Int) :
  SJ slices_partitionEqualCmpFunc_api_Route.cx [.code (c1 (c1 (c1 (c2 (c2 (c2 slices_partitionEqualCmpFunc_api_Route.B)))))), .inLoop (c1 (c1 (c1 (c2 (c2 (c2 slices_partitionEqualCmpFunc_api_Route.B)))))), .inBlock 0, .code (c2 (c2 (c2 (c2 slices_partitionEqualCmpFunc_api_Route.B))))] [(0, Sl.v a0), (1, .int .i64 a1), (4, a4v.v), (11, .int .i64 s7), (12, .int .i64 s8)] [] (slices_partitionEqualCmpFunc_api_Route.L1 a0 a1 a4 s7 s8) (slices_partitionEqualCmpFunc_api_Route.F1 a0 a1 a4v) := by
 unfold slices_partitionEqualCmpFunc_api_Route.L1
 exact SJ.block (id := 1) <| SJ.seq <| SJ.block (id := 2) <| SJ.loop (fun s_ : Int => [(0, Sl.v a0), (1, .int .i64 a1), (4, a4v.v), (11, .int .i64 s_), (12, .int .i64 s8)]) (fun s_ : Int => []) [0, 1, 4, 11, 12] rfl (fun _ _ => rfl) (fun s_ => slices_partitionEqualCmpFunc_api_Route.L3_ok a0 a1 a4v a4 h_a4 s8 s_)
noncomputable def slices_partitionEqualCmpFunc_api_Route (a0 : Sl) (a1 : Int) (a2 : Int) (a3 : Int) (a4 : api_Route → api_Route → M Int) : M Int :=
 draw >>= fun _ =>
 idx a0.a a0.len a3 36 >>= fun p1 =>
 ld c_api_Route p1 >>= fun x2 =>
 idx a0.a a0.len a1 36 >>= fun p3 =>
 ld c_api_Route p3 >>= fun x4 =>
 idx a0.a a0.len a1 36 >>= fun p5 =>
 st c_api_Route p5 x2 >>= fun _ =>
 idx a0.a a0.len a3 36 >>= fun p6 =>
 st c_api_Route p6 x4 >>= fun _ =>
 loopM (fun s_ : (Int × Int) => slices_partitionEqualCmpFunc_api_Route.L1 a0 a1 a4 s_.1 s_.2) (IntKind.wrap .i64 (a1 + 1), IntKind.wrap .i64 (a2 - 1))
theorem slices_partitionEqualCmpFunc_api_Route_ok (a0 : Sl) (a1 : Int) (a2 : Int) (a3 : Int) (a4v : Any) (a4 : api_Route → api_Route → M Int) (h_a4 : ∀ (x0_ : api_Route), ∀ (x1_ : api_Route), RefV Tryd.prog a4v.v [c_api_Route.val x0_, c_api_Route.val x1_] (a4 x0_ x1_) (fun r_ : Int => .int .i64 r_)) : Ref Tryd.prog 76 [Sl.v a0, .int .i64 a1, .int .i64 a2, .int .i64 a3, a4v.v] (slices_partitionEqualCmpFunc_api_Route a0 a1 a2 a3 a4) slices_partitionEqualCmpFunc_api_Route.out := by
 refine Ref.of (cd := slices_partitionEqualCmpFunc_api_Route.B) Tryd.func76 ?_
 show SJ slices_partitionEqualCmpFunc_api_Route.cx [.code slices_partitionEqualCmpFunc_api_Route.B] [(0, Sl.v a0), (1, .int .i64 a1), (2, .int .i64 a2), (3, .int .i64 a3), (4, a4v.v)] [] (slices_partitionEqualCmpFunc_api_Route a0 a1 a2 a3 a4) slices_partitionEqualCmpFunc_api_Route.F0
 unfold slices_partitionEqualCmpFunc_api_Route
 refine SJ.sr 1 <| OJ.go 1 [(10, .int .i64 0)] <| OJ.nil <| SJ.seq <| SJ.draw (id := 1) (kd := [0, 0, 0, 0, 0, 0, 0, 1, 0, 0, 0, 1, 0, 2, 0, 2]) (bef := [0, 0, 0, 0, 0, 0, 48, 112, 0, 0, 768, 1792, 4083, 8179, 16383, 32767]) (ord := [0, 1, 2, 3, 4, 5, 6, 7, 8, 9, 10, 11, 12, 13, 14, 15]) mixed ?_
 refine OJ.go 6 [(18, .int .i64 a3), (17, Sl.v a0), (16, .int .i64 a3), (15, Sl.v a0), (14, .int .i64 a1), (13, Sl.v a0)] <| OJ.idxS (d := 19) (T := 39) (y := .tmp 17) (j := .tmp 18) (E := 32) (cap := a0.cap) (k := .i64) (fun p1 => ?_)
 refine OJ.ld (d := 20) (y := .tmp 19) (pend2 := fun x2 => [⟨7, 32, p1, c_api_Route.val x2⟩]) Ty32 (fun _ => rfl) (fun x2 => ?_)
 refine OJ.go 2 [(22, .int .i64 a1), (21, Sl.v a0)] <| OJ.idxS (d := 23) (T := 39) (y := .tmp 21) (j := .tmp 22) (E := 32) (cap := a0.cap) (k := .i64) (fun p3 => ?_)
 refine OJ.ld (d := 24) (y := .tmp 23) (pend2 := fun x4 => [⟨11, 32, p3, c_api_Route.val x4⟩, ⟨7, 32, p1, c_api_Route.val x2⟩]) Ty32 (fun _ => rfl) (fun x4 => ?_)
 refine OJ.idxS (d := 25) (T := 39) (y := .tmp 13) (j := .tmp 14) (E := 32) (cap := a0.cap) (k := .i64) (fun p5 => ?_)
 refine OJ.st (y := .tmp 25) (z := .tmp 20) (owed := []) Ty32 ?_
 refine OW.nil <| OJ.idxS (d := 26) (T := 39) (y := .tmp 15) (j := .tmp 16) (E := 32) (cap := a0.cap) (k := .i64) (fun p6 => ?_)
 refine OJ.st (y := .tmp 26) (z := .tmp 24) (owed := []) Ty32 ?_
 exact OW.nil <| OJ.nil <| SJ.sr 6 <| OJ.go 6 [(12, .int .i64 (IntKind.wrap .i64 (a2 - 1))), (11, .int .i64 (IntKind.wrap .i64 (a1 + 1))), (30, .int .i64 (IntKind.wrap .i64 (a2 - 1))), (29, .int .i64 a2), (28, .int .i64 (IntKind.wrap .i64 (a1 + 1))), (27, .int .i64 a1)] <| OJ.nil <| SJ.seq <| SJ.block (id := 0) <| SJ.loop (fun s_ : (Int × Int) => [(0, Sl.v a0), (1, .int .i64 a1), (4, a4v.v), (11, .int .i64 s_.1), (12, .int .i64 s_.2)]) (fun s_ : (Int × Int) => []) [0, 1, 4, 11, 12] rfl (fun _ _ => rfl) (fun s_ => slices_partitionEqualCmpFunc_api_Route.L1_ok a0 a1 a4v a4 h_a4 s_.1 s_.2)

/-! ### slices.partitionCmpFunc[weir/api.Route]: function 77 -/
noncomputable def slices_partitionCmpFunc_api_Route.B : Code := (Tryd.f77.body).getD .skip
noncomputable def slices_partitionCmpFunc_api_Route.cx : Fx := ⟨Tryd.prog, 77, Tryd.f77, none⟩
noncomputable def slices_partitionCmpFunc_api_Route.out (r_ : (Int × Bool)) : Value := .tuple #[.int .i64 r_.1, .bool r_.2]
noncomputable def slices_partitionCmpFunc_api_Route.F0 (r_ : (Int × Bool)) : Reach := .ret (slices_partitionCmpFunc_api_Route.out r_)
noncomputable def slices_partitionCmpFunc_api_Route.K1 (a0 : Sl) (a1 : Int) (j80 : Int) : M (Int × Bool) :=
 draw >>= fun _ =>
 idx a0.a a0.len a1 36 >>= fun p81 =>
 ld c_api_Route p81 >>= fun x82 =>
 idx a0.a a0.len j80 36 >>= fun p83 =>
 ld c_api_Route p83 >>= fun x84 =>
 idx a0.a a0.len j80 36 >>= fun p85 =>
 st c_api_Route p85 x82 >>= fun _ =>
 idx a0.a a0.len a1 36 >>= fun p86 =>
 st c_api_Route p86 x84 >>= fun _ =>
 pure (j80, false)
theorem slices_partitionCmpFunc_api_Route.K1_ok (a0 : Sl) (a1 : Int) (j80 : Int) :
  SJ slices_partitionCmpFunc_api_Route.cx [.code (c2 (c2 (c2 (c2 (c2 (c2 (c2 (c2 (c2 (c2 slices_partitionCmpFunc_api_Route.B))))))))))] [(0, Sl.v a0), (1, .int .i64 a1), (13, .int .i64 j80)] [] (slices_partitionCmpFunc_api_Route.K1 a0 a1 j80) slices_partitionCmpFunc_api_Route.F0 := by
 unfold slices_partitionCmpFunc_api_Route.K1
 refine SJ.seq <| SJ.draw (id := 21) (kd := [0, 0, 0, 0, 0, 0, 0, 1, 0, 0, 0, 1, 0, 2, 0, 2]) (bef := [0, 0, 0, 0, 0, 0, 48, 112, 0, 0, 768, 1792, 4083, 8179, 16383, 32767]) (ord := [0, 1, 2, 3, 4, 5, 6, 7, 8, 9, 10, 11, 12, 13, 14, 15]) mixed ?_
 refine OJ.go 6 [(168, .int .i64 a1), (167, Sl.v a0), (166, .int .i64 a1), (165, Sl.v a0), (164, .int .i64 j80), (163, Sl.v a0)] <| OJ.idxS (d := 169) (T := 39) (y := .tmp 167) (j := .tmp 168) (E := 32) (cap := a0.cap) (k := .i64) (fun p81 => ?_)
 refine OJ.ld (d := 170) (y := .tmp 169) (pend2 := fun x82 => [⟨7, 32, p81, c_api_Route.val x82⟩]) Ty32 (fun _ => rfl) (fun x82 => ?_)
 refine OJ.go 2 [(172, .int .i64 j80), (171, Sl.v a0)] <| OJ.idxS (d := 173) (T := 39) (y := .tmp 171) (j := .tmp 172) (E := 32) (cap := a0.cap) (k := .i64) (fun p83 => ?_)
 refine OJ.ld (d := 174) (y := .tmp 173) (pend2 := fun x84 => [⟨11, 32, p83, c_api_Route.val x84⟩, ⟨7, 32, p81, c_api_Route.val x82⟩]) Ty32 (fun _ => rfl) (fun x84 => ?_)
 refine OJ.idxS (d := 175) (T := 39) (y := .tmp 163) (j := .tmp 164) (E := 32) (cap := a0.cap) (k := .i64) (fun p85 => ?_)
 refine OJ.st (y := .tmp 175) (z := .tmp 170) (owed := []) Ty32 ?_
 refine OW.nil <| OJ.idxS (d := 176) (T := 39) (y := .tmp 165) (j := .tmp 166) (E := 32) (cap := a0.cap) (k := .i64) (fun p86 => ?_)
 refine OJ.st (y := .tmp 176) (z := .tmp 174) (owed := []) Ty32 ?_
 exact OW.nil <| OJ.nil <| SJ.sr 3 <| OJ.go 3 [(11, .bool false), (10, .int .i64 j80), (177, .int .i64 j80)] <| OJ.nil <| SJ.r2 (.int .i64 j80) (.bool false) rfl rfl
noncomputable def slices_partitionCmpFunc_api_Route.F1 (a0 : Sl) (a1 : Int) (a4v : Any) : (LS (Int × Int) (Int × Bool)) → Reach := loopF [.inLoop (c1 (c1 (c1 (c2 (c2 (c2 (c2 (c2 (c2 (c2 (c2 (c2 slices_partitionCmpFunc_api_Route.B)))))))))))), .inBlock 4, .code (c2 (c2 (c2 (c2 (c2 (c2 (c2 (c2 (c2 (c2 slices_partitionCmpFunc_api_Route.B))))))))))] (fun s_ : (Int × Int) => [(0, Sl.v a0), (1, .int .i64 a1), (4, a4v.v), (12, .int .i64 s_.1), (13, .int .i64 s_.2)]) (fun s_ : (Int × Int) => []) slices_partitionCmpFunc_api_Route.F0
noncomputable def slices_partitionCmpFunc_api_Route.K2 (a0 : Sl) (a1 : Int) (s87 : Int) (s95 : Int) : M (LS (Int × Int) (Int × Bool)) :=
 if s87 > s95 then
  (slices_partitionCmpFunc_api_Route.K1 a0 a1 s95) >>= fun b => pure (LS.done b)
 else
  draw >>= fun _ =>
  idx a0.a a0.len s95 36 >>= fun p103 =>
  ld c_api_Route p103 >>= fun x104 =>
  idx a0.a a0.len s87 36 >>= fun p105 =>
  ld c_api_Route p105 >>= fun x106 =>
  idx a0.a a0.len s87 36 >>= fun p107 =>
  st c_api_Route p107 x104 >>= fun _ =>
  idx a0.a a0.len s95 36 >>= fun p108 =>
  st c_api_Route p108 x106 >>= fun _ =>
  pure (LS.next (IntKind.wrap .i64 (s87 + 1), IntKind.wrap .i64 (s95 - 1)))
theorem slices_partitionCmpFunc_api_Route.K2_ok (a0 : Sl) (a1 : Int) (a4v : Any) (s87 : Int) (s95 : Int) :
  SJ slices_partitionCmpFunc_api_Route.cx [.code (c2 (c2 (c1 (c1 (c1 (c1 (c2 (c2 (c2 (c2 (c2 (c2 (c2 (c2 (c2 slices_partitionCmpFunc_api_Route.B))))))))))))))), .inBlock 5, .inLoop (c1 (c1 (c1 (c2 (c2 (c2 (c2 (c2 (c2 (c2 (c2 (c2 slices_partitionCmpFunc_api_Route.B)))))))))))), .inBlock 4, .code (c2 (c2 (c2 (c2 (c2 (c2 (c2 (c2 (c2 (c2 slices_partitionCmpFunc_api_Route.B))))))))))] [(0, Sl.v a0), (1, .int .i64 a1), (4, a4v.v), (12, .int .i64 s87), (13, .int .i64 s95)] [] (slices_partitionCmpFunc_api_Route.K2 a0 a1 s87 s95) (slices_partitionCmpFunc_api_Route.F1 a0 a1 a4v) := by
 unfold slices_partitionCmpFunc_api_Route.K2
 refine SJ.seq <| SJ.sr 3 <| OJ.go 3 [(144, .bool (decide (s87 > s95))), (143, .int .i64 s95), (142, .int .i64 s87)] <| OJ.nil <| SJ.cond (t := (.tmp 144)) (b := decide (s87 > s95)) decide_eq_true_iff (fun hc109 => ?_) (fun hc109 => ?_)
 ·refine SJ.exit (id := 4) (by rfl) <| SJ.less [0, 1, 13] (m' := [(0, Sl.v a0), (1, .int .i64 a1), (13, .int .i64 s95)]) ?_
  refine SJ.done ?_
  exact slices_partitionCmpFunc_api_Route.K1_ok a0 a1 s95
 ·refine SJ.skip <| SJ.seq <| SJ.draw (id := 18) (kd := [0, 0, 0, 0, 0, 0, 0, 1, 0, 0, 0, 1, 0, 2, 0, 2]) (bef := [0, 0, 0, 0, 0, 0, 48, 112, 0, 0, 768, 1792, 4083, 8179, 16383, 32767]) (ord := [0, 1, 2, 3, 4, 5, 6, 7, 8, 9, 10, 11, 12, 13, 14, 15]) mixed ?_
  refine OJ.go 6 [(150, .int .i64 s95), (149, Sl.v a0), (148, .int .i64 s95), (147, Sl.v a0), (146, .int .i64 s87), (145, Sl.v a0)] <| OJ.idxS (d := 151) (T := 39) (y := .tmp 149) (j := .tmp 150) (E := 32) (cap := a0.cap) (k := .i64) (fun p103 => ?_)
  refine OJ.ld (d := 152) (y := .tmp 151) (pend2 := fun x104 => [⟨7, 32, p103, c_api_Route.val x104⟩]) Ty32 (fun _ => rfl) (fun x104 => ?_)
  refine OJ.go 2 [(154, .int .i64 s87), (153, Sl.v a0)] <| OJ.idxS (d := 155) (T := 39) (y := .tmp 153) (j := .tmp 154) (E := 32) (cap := a0.cap) (k := .i64) (fun p105 => ?_)
  refine OJ.ld (d := 156) (y := .tmp 155) (pend2 := fun x106 => [⟨11, 32, p105, c_api_Route.val x106⟩, ⟨7, 32, p103, c_api_Route.val x104⟩]) Ty32 (fun _ => rfl) (fun x106 => ?_)
  refine OJ.idxS (d := 157) (T := 39) (y := .tmp 145) (j := .tmp 146) (E := 32) (cap := a0.cap) (k := .i64) (fun p107 => ?_)
  refine OJ.st (y := .tmp 157) (z := .tmp 152) (owed := []) Ty32 ?_
  refine OW.nil <| OJ.idxS (d := 158) (T := 39) (y := .tmp 147) (j := .tmp 148) (E := 32) (cap := a0.cap) (k := .i64) (fun p108 => ?_)
  refine OJ.st (y := .tmp 158) (z := .tmp 156) (owed := []) Ty32 ?_
  exact OW.nil <| OJ.nil <| SJ.sr 3 <| OJ.go 3 [(12, .int .i64 (IntKind.wrap .i64 (s87 + 1))), (160, .int .i64 (IntKind.wrap .i64 (s87 + 1))), (159, .int .i64 s87)] <| OJ.nil <| SJ.rg 3 <| OJ.go 3 [(13, .int .i64 (IntKind.wrap .i64 (s95 - 1))), (162, .int .i64 (IntKind.wrap .i64 (s95 - 1))), (161, .int .i64 s95)] <| OJ.nil <| SJ.inBlock <| SJ.at_ [0, 1, 4, 12, 13] rfl
noncomputable def slices_partitionCmpFunc_api_Route.F2 (a0 : Sl) (a1 : Int) (a4v : Any) (s87 : Int) : (LS Int (LS (Int × Int) (Int × Bool))) → Reach := loopF [.inLoop (c1 (c1 (c1 (c2 (c1 (c1 (c1 (c1 (c2 (c2 (c2 (c2 (c2 (c2 (c2 (c2 (c2 slices_partitionCmpFunc_api_Route.B))))))))))))))))), .inBlock 8, .code (c2 (c2 (c1 (c1 (c1 (c1 (c2 (c2 (c2 (c2 (c2 (c2 (c2 (c2 (c2 slices_partitionCmpFunc_api_Route.B))))))))))))))), .inBlock 5, .inLoop (c1 (c1 (c1 (c2 (c2 (c2 (c2 (c2 (c2 (c2 (c2 (c2 slices_partitionCmpFunc_api_Route.B)))))))))))), .inBlock 4, .code (c2 (c2 (c2 (c2 (c2 (c2 (c2 (c2 (c2 (c2 slices_partitionCmpFunc_api_Route.B))))))))))] (fun s_ : Int => [(0, Sl.v a0), (1, .int .i64 a1), (4, a4v.v), (12, .int .i64 s87), (13, .int .i64 s_)]) (fun s_ : Int => []) (slices_partitionCmpFunc_api_Route.F1 a0 a1 a4v)
noncomputable def slices_partitionCmpFunc_api_Route.L2 (a0 : Sl) (a1 : Int) (a4 : api_Route → api_Route → M Int) (s87 : Int) (s95 : Int) : M (LS Int (LS (Int × Int) (Int × Bool))) :=
 draw >>= fun _ =>
 (if s87 ≤ s95 then
   idx a0.a a0.len s95 36 >>= fun p110 =>
   ld c_api_Route p110 >>= fun x111 =>
   idx a0.a a0.len a1 36 >>= fun p112 =>
   ld c_api_Route p112 >>= fun x113 =>
   a4 x111 x113 >>= fun r114 =>
   pure (!(decide (r114 < 0)))
  else
   pure false) >>= fun y115 =>
 if y115 = true then
  pure (LS.next (IntKind.wrap .i64 (s95 - 1)))
 else
  (slices_partitionCmpFunc_api_Route.K2 a0 a1 s87 s95) >>= fun b => pure (LS.done b)
theorem slices_partitionCmpFunc_api_Route.L2_ok (a0 : Sl) (a1 : Int) (a4v : Any) (a4 : api_Route → api_Route → M Int) (h_a4 : ∀ (x0_ : api_Route), ∀ (x1_ : api_Route), RefV Tryd.prog a4v.v [c_api_Route.val x0_, c_api_Route.val x1_] (a4 x0_ x1_) (fun r_ : Int => .int .i64 r_)) (s87 : Int) (s95 : Int) :
  SJ slices_partitionCmpFunc_api_Route.cx [.code (c1 (c1 (c1 (c2 (c1 (c1 (c1 (c1 (c2 (c2 (c2 (c2 (c2 (c2 (c2 (c2 (c2 slices_partitionCmpFunc_api_Route.B))))))))))))))))), .inLoop (c1 (c1 (c1 (c2 (c1 (c1 (c1 (c1 (c2 (c2 (c2 (c2 (c2 (c2 (c2 (c2 (c2 slices_partitionCmpFunc_api_Route.B))))))))))))))))), .inBlock 8, .code (c2 (c2 (c1 (c1 (c1 (c1 (c2 (c2 (c2 (c2 (c2 (c2 (c2 (c2 (c2 slices_partitionCmpFunc_api_Route.B))))))))))))))), .inBlock 5, .inLoop (c1 (c1 (c1 (c2 (c2 (c2 (c2 (c2 (c2 (c2 (c2 (c2 slices_partitionCmpFunc_api_Route.B)))))))))))), .inBlock 4, .code (c2 (c2 (c2 (c2 (c2 (c2 (c2 (c2 (c2 (c2 slices_partitionCmpFunc_api_Route.B))))))))))] [(0, Sl.v a0), (1, .int .i64 a1), (4, a4v.v), (12, .int .i64 s87), (13, .int .i64 s95)] [] (slices_partitionCmpFunc_api_Route.L2 a0 a1 a4 s87 s95) (slices_partitionCmpFunc_api_Route.F2 a0 a1 a4v s87) := by
 unfold slices_partitionCmpFunc_api_Route.L2
 refine SJ.seq <| SJ.seq <| SJ.draw (id := 15) (kd := [0, 0, 0, 0, 0, 0, 0, 0, 1, 0, 0, 0, 1, 2, 0, 0, 0]) (bef := [0, 0, 3, 7, 15, 15, 15, 111, 239, 15, 15, 1551, 3599, 8191, 16383, 32767, 65535]) (ord := [0, 1, 2, 3, 4, 5, 6, 7, 8, 9, 10, 11, 12, 13, 14, 15, 16]) mixed ?_
 refine OJ.go 4 [(126, .bool (decide (s87 ≤ s95))), (125, .bool (decide (s87 ≤ s95))), (124, .int .i64 s95), (123, .int .i64 s87)] <| OJ.join (b := decide (s87 ≤ s95)) [4, 5, 6, 7, 8, 9, 10, 11, 12, 13, 14, 15, 16] [] [0, 1, 4, 12, 13, 139] (fun y115 => [(0, Sl.v a0), (1, .int .i64 a1), (4, a4v.v), (12, .int .i64 s87), (13, .int .i64 s95), (139, .bool y115)]) [] [8, 12] (t := 126) decide_eq_true_iff (fun hp_ => ?_) (fun hp_ => ?_) (fun _ _ _ _ _ _ h_ => h_) (fun y115 => ?_)
 ·refine OJ.go 3 [(129, .int .i64 s95), (128, Sl.v a0), (127, a4v.v)] <| OJ.idxS (d := 130) (T := 39) (y := .tmp 128) (j := .tmp 129) (E := 32) (cap := a0.cap) (k := .i64) (fun p110 => ?_)
  refine OJ.ld (d := 131) (y := .tmp 130) (pend2 := fun x111 => [⟨8, 32, p110, c_api_Route.val x111⟩]) Ty32 (fun _ => rfl) (fun x111 => ?_)
  refine OJ.go 2 [(133, .int .i64 a1), (132, Sl.v a0)] <| OJ.idxS (d := 134) (T := 39) (y := .tmp 132) (j := .tmp 133) (E := 32) (cap := a0.cap) (k := .i64) (fun p112 => ?_)
  refine OJ.ld (d := 135) (y := .tmp 134) (pend2 := fun x113 => [⟨12, 32, p112, c_api_Route.val x113⟩, ⟨8, 32, p110, c_api_Route.val x111⟩]) Ty32 (fun _ => rfl) (fun x113 => ?_)
  refine OJ.callV1 (d := 136) (ats := #[32, 32]) (args := [.tmp 131, .tmp 135]) (fo := .tmp 127) (vals := [c_api_Route.val x111, c_api_Route.val x113]) (owed := []) (h_a4 x111 x113) (fun r114 => ?_)
  exact OW.nil <| OJ.go 3 [(139, .bool (!(decide (r114 < 0)))), (138, .bool (!(decide (r114 < 0)))), (137, .bool (decide (r114 < 0)))] <| OJ.nil ⟨(Cov.mem (Cov.drop (List.mem_of_getElem? (i := 1) rfl) (Cov.drop (List.mem_of_getElem? (i := 0) rfl) Cov.nil))), rfl, _, rfl, by kernel_rfl⟩
 ·exact OJ.go 13 [(139, .bool false), (138, undef), (137, undef), (136, undef), (135, undef), (134, undef), (133, undef), (132, undef), (131, undef), (130, undef), (129, undef), (128, undef), (127, undef)] <| OJ.x0
 ·refine OJ.nil <| SJ.cond (t := (.tmp 139)) (b := y115) Iff.rfl (fun hc116 => ?_) (fun hc116 => ?_)
  ·exact SJ.skip <| SJ.block (id := 9) <| SJ.rg 3 <| OJ.go 3 [(13, .int .i64 (IntKind.wrap .i64 (s95 - 1))), (141, .int .i64 (IntKind.wrap .i64 (s95 - 1))), (140, .int .i64 s95)] <| OJ.nil <| SJ.inBlock <| SJ.at_ [0, 1, 4, 12, 13] rfl
  ·refine SJ.exit (id := 8) (by rfl) <| SJ.less [0, 1, 4, 12, 13] (m' := [(0, Sl.v a0), (1, .int .i64 a1), (4, a4v.v), (12, .int .i64 s87), (13, .int .i64 s95)]) ?_
   refine SJ.done ?_
   exact slices_partitionCmpFunc_api_Route.K2_ok a0 a1 a4v s87 s95
noncomputable def slices_partitionCmpFunc_api_Route.K3 (a0 : Sl) (a1 : Int) (a4 : api_Route → api_Route → M Int) (s42 : Int) (s87 : Int) : M (LS (Int × Int) (Int × Bool)) :=
 loopM (fun s_ : Int => slices_partitionCmpFunc_api_Route.L2 a0 a1 a4 s87 s_) s42
theorem slices_partitionCmpFunc_api_Route.K3_ok (a0 : Sl) (a1 : Int) (a4v : Any) (a4 : api_Route → api_Route → M Int) (h_a4 : ∀ (x0_ : api_Route), ∀ (x1_ : api_Route), RefV Tryd.prog a4v.v [c_api_Route.val x0_, c_api_Route.val x1_] (a4 x0_ x1_) (fun r_ : Int => .int .i64 r_)) (s42 : Int) (s87 : Int) :
  SJ slices_partitionCmpFunc_api_Route.cx [.code (c2 (c1 (c1 (c1 (c1 (c2 (c2 (c2 (c2 (c2 (c2 (c2 (c2 (c2 slices_partitionCmpFunc_api_Route.B)))))))))))))), .inBlock 5, .inLoop (c1 (c1 (c1 (c2 (c2 (c2 (c2 (c2 (c2 (c2 (c2 (c2 slices_partitionCmpFunc_api_Route.B)))))))))))), .inBlock 4, .code (c2 (c2 (c2 (c2 (c2 (c2 (c2 (c2 (c2 (c2 slices_partitionCmpFunc_api_Route.B))))))))))] [(0, Sl.v a0), (1, .int .i64 a1), (4, a4v.v), (12, .int .i64 s87), (13, .int .i64 s42)] [] (slices_partitionCmpFunc_api_Route.K3 a0 a1 a4 s42 s87) (slices_partitionCmpFunc_api_Route.F1 a0 a1 a4v) := by
 unfold slices_partitionCmpFunc_api_Route.K3
 exact SJ.seq <| SJ.block (id := 8) <| SJ.loop (fun s_ : Int => [(0, Sl.v a0), (1, .int .i64 a1), (4, a4v.v), (12, .int .i64 s87), (13, .int .i64 s_)]) (fun s_ : Int => []) [0, 1, 4, 12, 13] rfl (fun _ _ => rfl) (fun s_ => slices_partitionCmpFunc_api_Route.L2_ok a0 a1 a4v a4 h_a4 s87 s_)
noncomputable def slices_partitionCmpFunc_api_Route.F3 (a0 : Sl) (a1 : Int) (a4v : Any) (s42 : Int) : (LS Int (LS (Int × Int) (Int × Bool))) → Reach := loopF [.inLoop (c1 (c1 (c1 (c1 (c1 (c1 (c1 (c2 (c2 (c2 (c2 (c2 (c2 (c2 (c2 (c2 slices_partitionCmpFunc_api_Route.B)))))))))))))))), .inBlock 6, .code (c2 (c1 (c1 (c1 (c1 (c2 (c2 (c2 (c2 (c2 (c2 (c2 (c2 (c2 slices_partitionCmpFunc_api_Route.B)))))))))))))), .inBlock 5, .inLoop (c1 (c1 (c1 (c2 (c2 (c2 (c2 (c2 (c2 (c2 (c2 (c2 slices_partitionCmpFunc_api_Route.B)))))))))))), .inBlock 4, .code (c2 (c2 (c2 (c2 (c2 (c2 (c2 (c2 (c2 (c2 slices_partitionCmpFunc_api_Route.B))))))))))] (fun s_ : Int => [(0, Sl.v a0), (1, .int .i64 a1), (4, a4v.v), (12, .int .i64 s_), (13, .int .i64 s42)]) (fun s_ : Int => []) (slices_partitionCmpFunc_api_Route.F1 a0 a1 a4v)
noncomputable def slices_partitionCmpFunc_api_Route.L3 (a0 : Sl) (a1 : Int) (a4 : api_Route → api_Route → M Int) (s42 : Int) (s87 : Int) : M (LS Int (LS (Int × Int) (Int × Bool))) :=
 draw >>= fun _ =>
 (if s87 ≤ s42 then
   idx a0.a a0.len s87 36 >>= fun p117 =>
   ld c_api_Route p117 >>= fun x118 =>
   idx a0.a a0.len a1 36 >>= fun p119 =>
   ld c_api_Route p119 >>= fun x120 =>
   a4 x118 x120 >>= fun r121 =>
   pure (decide (r121 < 0))
  else
   pure false) >>= fun y122 =>
 if y122 = true then
  pure (LS.next (IntKind.wrap .i64 (s87 + 1)))
 else
  (slices_partitionCmpFunc_api_Route.K3 a0 a1 a4 s42 s87) >>= fun b => pure (LS.done b)
theorem slices_partitionCmpFunc_api_Route.L3_ok (a0 : Sl) (a1 : Int) (a4v : Any) (a4 : api_Route → api_Route → M Int) (h_a4 : ∀ (x0_ : api_Route), ∀ (x1_ : api_Route), RefV Tryd.prog a4v.v [c_api_Route.val x0_, c_api_Route.val x1_] (a4 x0_ x1_) (fun r_ : Int => .int .i64 r_)) (s42 : Int) (s87 : Int) :
  SJ slices_partitionCmpFunc_api_Route.cx [.code (c1 (c1 (c1 (c1 (c1 (c1 (c1 (c2 (c2 (c2 (c2 (c2 (c2 (c2 (c2 (c2 slices_partitionCmpFunc_api_Route.B)))))))))))))))), .inLoop (c1 (c1 (c1 (c1 (c1 (c1 (c1 (c2 (c2 (c2 (c2 (c2 (c2 (c2 (c2 (c2 slices_partitionCmpFunc_api_Route.B)))))))))))))))), .inBlock 6, .code (c2 (c1 (c1 (c1 (c1 (c2 (c2 (c2 (c2 (c2 (c2 (c2 (c2 (c2 slices_partitionCmpFunc_api_Route.B)))))))))))))), .inBlock 5, .inLoop (c1 (c1 (c1 (c2 (c2 (c2 (c2 (c2 (c2 (c2 (c2 (c2 slices_partitionCmpFunc_api_Route.B)))))))))))), .inBlock 4, .code (c2 (c2 (c2 (c2 (c2 (c2 (c2 (c2 (c2 (c2 slices_partitionCmpFunc_api_Route.B))))))))))] [(0, Sl.v a0), (1, .int .i64 a1), (4, a4v.v), (12, .int .i64 s87), (13, .int .i64 s42)] [] (slices_partitionCmpFunc_api_Route.L3 a0 a1 a4 s42 s87) (slices_partitionCmpFunc_api_Route.F3 a0 a1 a4v s42) := by
 unfold slices_partitionCmpFunc_api_Route.L3
 refine SJ.seq <| SJ.seq <| SJ.draw (id := 13) (kd := [0, 0, 0, 0, 0, 0, 0, 0, 1, 0, 0, 0, 1, 2, 0, 0]) (bef := [0, 0, 3, 7, 15, 15, 15, 111, 239, 15, 15, 1551, 3599, 8191, 16383, 32767]) (ord := [0, 1, 2, 3, 4, 5, 6, 7, 8, 9, 10, 11, 12, 13, 14, 15]) mixed ?_
 refine OJ.go 4 [(108, .bool (decide (s87 ≤ s42))), (107, .bool (decide (s87 ≤ s42))), (106, .int .i64 s42), (105, .int .i64 s87)] <| OJ.join (b := decide (s87 ≤ s42)) [4, 5, 6, 7, 8, 9, 10, 11, 12, 13, 14, 15] [] [0, 1, 4, 12, 13, 120] (fun y122 => [(0, Sl.v a0), (1, .int .i64 a1), (4, a4v.v), (12, .int .i64 s87), (13, .int .i64 s42), (120, .bool y122)]) [] [8, 12] (t := 108) decide_eq_true_iff (fun hp_ => ?_) (fun hp_ => ?_) (fun _ _ _ _ _ _ h_ => h_) (fun y122 => ?_)
 ·refine OJ.go 3 [(111, .int .i64 s87), (110, Sl.v a0), (109, a4v.v)] <| OJ.idxS (d := 112) (T := 39) (y := .tmp 110) (j := .tmp 111) (E := 32) (cap := a0.cap) (k := .i64) (fun p117 => ?_)
  refine OJ.ld (d := 113) (y := .tmp 112) (pend2 := fun x118 => [⟨8, 32, p117, c_api_Route.val x118⟩]) Ty32 (fun _ => rfl) (fun x118 => ?_)
  refine OJ.go 2 [(115, .int .i64 a1), (114, Sl.v a0)] <| OJ.idxS (d := 116) (T := 39) (y := .tmp 114) (j := .tmp 115) (E := 32) (cap := a0.cap) (k := .i64) (fun p119 => ?_)
  refine OJ.ld (d := 117) (y := .tmp 116) (pend2 := fun x120 => [⟨12, 32, p119, c_api_Route.val x120⟩, ⟨8, 32, p117, c_api_Route.val x118⟩]) Ty32 (fun _ => rfl) (fun x120 => ?_)
  refine OJ.callV1 (d := 118) (ats := #[32, 32]) (args := [.tmp 113, .tmp 117]) (fo := .tmp 109) (vals := [c_api_Route.val x118, c_api_Route.val x120]) (owed := []) (h_a4 x118 x120) (fun r121 => ?_)
  exact OW.nil <| OJ.go 2 [(120, .bool (decide (r121 < 0))), (119, .bool (decide (r121 < 0)))] <| OJ.nil ⟨(Cov.mem (Cov.drop (List.mem_of_getElem? (i := 1) rfl) (Cov.drop (List.mem_of_getElem? (i := 0) rfl) Cov.nil))), rfl, _, rfl, by kernel_rfl⟩
 ·exact OJ.go 12 [(120, .bool false), (119, undef), (118, undef), (117, undef), (116, undef), (115, undef), (114, undef), (113, undef), (112, undef), (111, undef), (110, undef), (109, undef)] <| OJ.x0
 ·refine OJ.nil <| SJ.cond (t := (.tmp 120)) (b := y122) Iff.rfl (fun hc123 => ?_) (fun hc123 => ?_)
  ·exact SJ.skip <| SJ.block (id := 7) <| SJ.rg 3 <| OJ.go 3 [(12, .int .i64 (IntKind.wrap .i64 (s87 + 1))), (122, .int .i64 (IntKind.wrap .i64 (s87 + 1))), (121, .int .i64 s87)] <| OJ.nil <| SJ.inBlock <| SJ.at_ [0, 1, 4, 12, 13] rfl
  ·refine SJ.exit (id := 6) (by rfl) <| SJ.less [0, 1, 4, 12, 13] (m' := [(0, Sl.v a0), (1, .int .i64 a1), (4, a4v.v), (12, .int .i64 s87), (13, .int .i64 s42)]) ?_
   refine SJ.done ?_
   exact slices_partitionCmpFunc_api_Route.K3_ok a0 a1 a4v a4 h_a4 s42 s87
noncomputable def slices_partitionCmpFunc_api_Route.L1 (a0 : Sl) (a1 : Int) (a4 : api_Route → api_Route → M Int) (s41 : Int) (s42 : Int) : M (LS (Int × Int) (Int × Bool)) :=
 loopM (fun s_ : Int => slices_partitionCmpFunc_api_Route.L3 a0 a1 a4 s42 s_) s41
theorem slices_partitionCmpFunc_api_Route.L1_ok (a0 : Sl) (a1 : Int) (a4v : Any) (a4 : api_Route → api_Route → M Int) (h_a4 : ∀ (x0_ : api_Route), ∀ (x1_ : api_Route), RefV Tryd.prog a4v.v [c_api_Route.val x0_, c_api_Route.val x1_] (a4 x0_ x1_) (fun r_ : Int => .int .i64 r_)) (s41 : Int) (s42 : Int) :
  SJ slices_partitionCmpFunc_api_Route.cx [.code (c1 (c1 (c1 (c2 (c2 (c2 (c2 (c2 (c2 (c2 (c2 (c2 slices_partitionCmpFunc_api_Route.B)))))))))))), .inLoop (c1 (c1 (c1 (c2 (c2 (c2 (c2 (c2 (c2 (c2 (c2 (c2 slices_partitionCmpFunc_api_Route.B)))))))))))), .inBlock 4, .code (c2 (c2 (c2 (c2 (c2 (c2 (c2 (c2 (c2 (c2 slices_partitionCmpFunc_api_Route.B))))))))))] [(0, Sl.v a0), (1, .int .i64 a1), (4, a4v.v), (12, .int .i64 s41), (13, .int .i64 s42)] [] (slices_partitionCmpFunc_api_Route.L1 a0 a1 a4 s41 s42) (slices_partitionCmpFunc_api_Route.F1 a0 a1 a4v) := by
 unfold slices_partitionCmpFunc_api_Route.L1
 exact SJ.block (id := 5) <| SJ.seq <| SJ.block (id := 6) <| SJ.loop (fun s_ : Int => [(0, Sl.v a0), (1, .int .i64 a1), (4, a4v.v), (12, .int .i64 s_), (13, .int .i64 s42)]) (fun s_ : Int => []) [0, 1, 4, 12, 13] rfl (fun _ _ => rfl) (fun s_ => slices_partitionCmpFunc_api_Route.L3_ok a0 a1 a4v a4 h_a4 s42 s_)
noncomputable def slices_partitionCmpFunc_api_Route.K4 (a0 : Sl) (a1 : Int) (a4 : api_Route → api_Route → M Int) (s7 : Int) (s15 : Int) : M (Int × Bool) :=
 if s7 > s15 then
  draw >>= fun _ =>
  idx a0.a a0.len a1 36 >>= fun p29 =>
  ld c_api_Route p29 >>= fun x30 =>
  idx a0.a a0.len s15 36 >>= fun p31 =>
  ld c_api_Route p31 >>= fun x32 =>
  idx a0.a a0.len s15 36 >>= fun p33 =>
  st c_api_Route p33 x30 >>= fun _ =>
  idx a0.a a0.len a1 36 >>= fun p34 =>
  st c_api_Route p34 x32 >>= fun _ =>
  pure (s15, true)
 else
  draw >>= fun _ =>
  idx a0.a a0.len s15 36 >>= fun p35 =>
  ld c_api_Route p35 >>= fun x36 =>
  idx a0.a a0.len s7 36 >>= fun p37 =>
  ld c_api_Route p37 >>= fun x38 =>
  idx a0.a a0.len s7 36 >>= fun p39 =>
  st c_api_Route p39 x36 >>= fun _ =>
  idx a0.a a0.len s15 36 >>= fun p40 =>
  st c_api_Route p40 x38 >>= fun _ =>
  loopM (fun s_ : (Int × Int) => slices_partitionCmpFunc_api_Route.L1 a0 a1 a4 s_.1 s_.2) (IntKind.wrap .i64 (s7 + 1), IntKind.wrap .i64 (s15 - 1))
theorem slices_partitionCmpFunc_api_Route.K4_ok (a0 : Sl) (a1 : Int) (a4v : Any) (a4 : api_Route → api_Route → M Int) (h_a4 : ∀ (x0_ : api_Route), ∀ (x1_ : api_Route), RefV Tryd.prog a4v.v [c_api_Route.val x0_, c_api_Route.val x1_] (a4 x0_ x1_) (fun r_ : Int => .int .i64 r_)) (s7 : Int) (s15 : Int) :
  SJ slices_partitionCmpFunc_api_Route.cx [.code (c2 (c2 (c2 (c2 (c2 slices_partitionCmpFunc_api_Route.B)))))] [(0, Sl.v a0), (1, .int .i64 a1), (4, a4v.v), (12, .int .i64 s7), (13, .int .i64 s15)] [] (slices_partitionCmpFunc_api_Route.K4 a0 a1 a4 s7 s15) slices_partitionCmpFunc_api_Route.F0 := by
 unfold slices_partitionCmpFunc_api_Route.K4
 refine SJ.seq <| SJ.sr 3 <| OJ.go 3 [(71, .bool (decide (s7 > s15))), (70, .int .i64 s15), (69, .int .i64 s7)] <| OJ.nil <| SJ.cond (t := (.tmp 71)) (b := decide (s7 > s15)) decide_eq_true_iff (fun hc124 => ?_) (fun hc124 => ?_)
 ·refine SJ.seq <| SJ.draw (id := 8) (kd := [0, 0, 0, 0, 0, 0, 0, 1, 0, 0, 0, 1, 0, 2, 0, 2]) (bef := [0, 0, 0, 0, 0, 0, 48, 112, 0, 0, 768, 1792, 4083, 8179, 16383, 32767]) (ord := [0, 1, 2, 3, 4, 5, 6, 7, 8, 9, 10, 11, 12, 13, 14, 15]) mixed ?_
  refine OJ.go 6 [(77, .int .i64 a1), (76, Sl.v a0), (75, .int .i64 a1), (74, Sl.v a0), (73, .int .i64 s15), (72, Sl.v a0)] <| OJ.idxS (d := 78) (T := 39) (y := .tmp 76) (j := .tmp 77) (E := 32) (cap := a0.cap) (k := .i64) (fun p29 => ?_)
  refine OJ.ld (d := 79) (y := .tmp 78) (pend2 := fun x30 => [⟨7, 32, p29, c_api_Route.val x30⟩]) Ty32 (fun _ => rfl) (fun x30 => ?_)
  refine OJ.go 2 [(81, .int .i64 s15), (80, Sl.v a0)] <| OJ.idxS (d := 82) (T := 39) (y := .tmp 80) (j := .tmp 81) (E := 32) (cap := a0.cap) (k := .i64) (fun p31 => ?_)
  refine OJ.ld (d := 83) (y := .tmp 82) (pend2 := fun x32 => [⟨11, 32, p31, c_api_Route.val x32⟩, ⟨7, 32, p29, c_api_Route.val x30⟩]) Ty32 (fun _ => rfl) (fun x32 => ?_)
  refine OJ.idxS (d := 84) (T := 39) (y := .tmp 72) (j := .tmp 73) (E := 32) (cap := a0.cap) (k := .i64) (fun p33 => ?_)
  refine OJ.st (y := .tmp 84) (z := .tmp 79) (owed := []) Ty32 ?_
  refine OW.nil <| OJ.idxS (d := 85) (T := 39) (y := .tmp 74) (j := .tmp 75) (E := 32) (cap := a0.cap) (k := .i64) (fun p34 => ?_)
  refine OJ.st (y := .tmp 85) (z := .tmp 83) (owed := []) Ty32 ?_
  exact OW.nil <| OJ.nil <| SJ.sr 3 <| OJ.go 3 [(11, .bool true), (10, .int .i64 s15), (86, .int .i64 s15)] <| OJ.nil <| SJ.r2 (.int .i64 s15) (.bool true) rfl rfl
 ·refine SJ.skip <| SJ.seq <| SJ.draw (id := 10) (kd := [0, 0, 0, 0, 0, 0, 0, 1, 0, 0, 0, 1, 0, 2, 0, 2]) (bef := [0, 0, 0, 0, 0, 0, 48, 112, 0, 0, 768, 1792, 4083, 8179, 16383, 32767]) (ord := [0, 1, 2, 3, 4, 5, 6, 7, 8, 9, 10, 11, 12, 13, 14, 15]) mixed ?_
  refine OJ.go 6 [(92, .int .i64 s15), (91, Sl.v a0), (90, .int .i64 s15), (89, Sl.v a0), (88, .int .i64 s7), (87, Sl.v a0)] <| OJ.idxS (d := 93) (T := 39) (y := .tmp 91) (j := .tmp 92) (E := 32) (cap := a0.cap) (k := .i64) (fun p35 => ?_)
  refine OJ.ld (d := 94) (y := .tmp 93) (pend2 := fun x36 => [⟨7, 32, p35, c_api_Route.val x36⟩]) Ty32 (fun _ => rfl) (fun x36 => ?_)
  refine OJ.go 2 [(96, .int .i64 s7), (95, Sl.v a0)] <| OJ.idxS (d := 97) (T := 39) (y := .tmp 95) (j := .tmp 96) (E := 32) (cap := a0.cap) (k := .i64) (fun p37 => ?_)
  refine OJ.ld (d := 98) (y := .tmp 97) (pend2 := fun x38 => [⟨11, 32, p37, c_api_Route.val x38⟩, ⟨7, 32, p35, c_api_Route.val x36⟩]) Ty32 (fun _ => rfl) (fun x38 => ?_)
  refine OJ.idxS (d := 99) (T := 39) (y := .tmp 87) (j := .tmp 88) (E := 32) (cap := a0.cap) (k := .i64) (fun p39 => ?_)
  refine OJ.st (y := .tmp 99) (z := .tmp 94) (owed := []) Ty32 ?_
  refine OW.nil <| OJ.idxS (d := 100) (T := 39) (y := .tmp 89) (j := .tmp 90) (E := 32) (cap := a0.cap) (k := .i64) (fun p40 => ?_)
  refine OJ.st (y := .tmp 100) (z := .tmp 98) (owed := []) Ty32 ?_
  exact OW.nil <| OJ.nil <| SJ.sr 3 <| OJ.go 3 [(12, .int .i64 (IntKind.wrap .i64 (s7 + 1))), (102, .int .i64 (IntKind.wrap .i64 (s7 + 1))), (101, .int .i64 s7)] <| OJ.nil <| SJ.sr 3 <| OJ.go 3 [(13, .int .i64 (IntKind.wrap .i64 (s15 - 1))), (104, .int .i64 (IntKind.wrap .i64 (s15 - 1))), (103, .int .i64 s15)] <| OJ.nil <| SJ.seq <| SJ.block (id := 4) <| SJ.loop (fun s_ : (Int × Int) => [(0, Sl.v a0), (1, .int .i64 a1), (4, a4v.v), (12, .int .i64 s_.1), (13, .int .i64 s_.2)]) (fun s_ : (Int × Int) => []) [0, 1, 4, 12, 13] rfl (fun _ _ => rfl) (fun s_ => slices_partitionCmpFunc_api_Route.L1_ok a0 a1 a4v a4 h_a4 s_.1 s_.2)
noncomputable def slices_partitionCmpFunc_api_Route.F4 (a0 : Sl) (a1 : Int) (a4v : Any) (s7 : Int) : (LS Int (Int × Bool)) → Reach := loopF [.inLoop (c1 (c1 (c1 (c2 (c2 (c2 (c2 slices_partitionCmpFunc_api_Route.B))))))), .inBlock 2, .code (c2 (c2 (c2 (c2 (c2 slices_partitionCmpFunc_api_Route.B)))))] (fun s_ : Int => [(0, Sl.v a0), (1, .int .i64 a1), (4, a4v.v), (12, .int .i64 s7), (13, .int .i64 s_)]) (fun s_ : Int => []) slices_partitionCmpFunc_api_Route.F0
noncomputable def slices_partitionCmpFunc_api_Route.L4 (a0 : Sl) (a1 : Int) (a4 : api_Route → api_Route → M Int) (s7 : Int) (s15 : Int) : M (LS Int (Int × Bool)) :=
 draw >>= fun _ =>
 (if s7 ≤ s15 then
   idx a0.a a0.len s15 36 >>= fun p125 =>
   ld c_api_Route p125 >>= fun x126 =>
   idx a0.a a0.len a1 36 >>= fun p127 =>
   ld c_api_Route p127 >>= fun x128 =>
   a4 x126 x128 >>= fun r129 =>
   pure (!(decide (r129 < 0)))
  else
   pure false) >>= fun y130 =>
 if y130 = true then
  pure (LS.next (IntKind.wrap .i64 (s15 - 1)))
 else
  (slices_partitionCmpFunc_api_Route.K4 a0 a1 a4 s7 s15) >>= fun b => pure (LS.done b)
theorem slices_partitionCmpFunc_api_Route.L4_ok (a0 : Sl) (a1 : Int) (a4v : Any) (a4 : api_Route → api_Route → M Int) (h_a4 : ∀ (x0_ : api_Route), ∀ (x1_ : api_Route), RefV Tryd.prog a4v.v [c_api_Route.val x0_, c_api_Route.val x1_] (a4 x0_ x1_) (fun r_ : Int => .int .i64 r_)) (s7 : Int) (s15 : Int) :
  SJ slices_partitionCmpFunc_api_Route.cx [.code (c1 (c1 (c1 (c2 (c2 (c2 (c2 slices_partitionCmpFunc_api_Route.B))))))), .inLoop (c1 (c1 (c1 (c2 (c2 (c2 (c2 slices_partitionCmpFunc_api_Route.B))))))), .inBlock 2, .code (c2 (c2 (c2 (c2 (c2 slices_partitionCmpFunc_api_Route.B)))))] [(0, Sl.v a0), (1, .int .i64 a1), (4, a4v.v), (12, .int .i64 s7), (13, .int .i64 s15)] [] (slices_partitionCmpFunc_api_Route.L4 a0 a1 a4 s7 s15) (slices_partitionCmpFunc_api_Route.F4 a0 a1 a4v s7) := by
 unfold slices_partitionCmpFunc_api_Route.L4
 refine SJ.seq <| SJ.seq <| SJ.draw (id := 5) (kd := [0, 0, 0, 0, 0, 0, 0, 0, 1, 0, 0, 0, 1, 2, 0, 0, 0]) (bef := [0, 0, 3, 7, 15, 15, 15, 111, 239, 15, 15, 1551, 3599, 8191, 16383, 32767, 65535]) (ord := [0, 1, 2, 3, 4, 5, 6, 7, 8, 9, 10, 11, 12, 13, 14, 15, 16]) mixed ?_
 refine OJ.go 4 [(53, .bool (decide (s7 ≤ s15))), (52, .bool (decide (s7 ≤ s15))), (51, .int .i64 s15), (50, .int .i64 s7)] <| OJ.join (b := decide (s7 ≤ s15)) [4, 5, 6, 7, 8, 9, 10, 11, 12, 13, 14, 15, 16] [] [0, 1, 4, 12, 13, 66] (fun y130 => [(0, Sl.v a0), (1, .int .i64 a1), (4, a4v.v), (12, .int .i64 s7), (13, .int .i64 s15), (66, .bool y130)]) [] [8, 12] (t := 53) decide_eq_true_iff (fun hp_ => ?_) (fun hp_ => ?_) (fun _ _ _ _ _ _ h_ => h_) (fun y130 => ?_)
 ·refine OJ.go 3 [(56, .int .i64 s15), (55, Sl.v a0), (54, a4v.v)] <| OJ.idxS (d := 57) (T := 39) (y := .tmp 55) (j := .tmp 56) (E := 32) (cap := a0.cap) (k := .i64) (fun p125 => ?_)
  refine OJ.ld (d := 58) (y := .tmp 57) (pend2 := fun x126 => [⟨8, 32, p125, c_api_Route.val x126⟩]) Ty32 (fun _ => rfl) (fun x126 => ?_)
  refine OJ.go 2 [(60, .int .i64 a1), (59, Sl.v a0)] <| OJ.idxS (d := 61) (T := 39) (y := .tmp 59) (j := .tmp 60) (E := 32) (cap := a0.cap) (k := .i64) (fun p127 => ?_)
  refine OJ.ld (d := 62) (y := .tmp 61) (pend2 := fun x128 => [⟨12, 32, p127, c_api_Route.val x128⟩, ⟨8, 32, p125, c_api_Route.val x126⟩]) Ty32 (fun _ => rfl) (fun x128 => ?_)
  refine OJ.callV1 (d := 63) (ats := #[32, 32]) (args := [.tmp 58, .tmp 62]) (fo := .tmp 54) (vals := [c_api_Route.val x126, c_api_Route.val x128]) (owed := []) (h_a4 x126 x128) (fun r129 => ?_)
  exact OW.nil <| OJ.go 3 [(66, .bool (!(decide (r129 < 0)))), (65, .bool (!(decide (r129 < 0)))), (64, .bool (decide (r129 < 0)))] <| OJ.nil ⟨(Cov.mem (Cov.drop (List.mem_of_getElem? (i := 1) rfl) (Cov.drop (List.mem_of_getElem? (i := 0) rfl) Cov.nil))), rfl, _, rfl, by kernel_rfl⟩
 ·exact OJ.go 13 [(66, .bool false), (65, undef), (64, undef), (63, undef), (62, undef), (61, undef), (60, undef), (59, undef), (58, undef), (57, undef), (56, undef), (55, undef), (54, undef)] <| OJ.x0
 ·refine OJ.nil <| SJ.cond (t := (.tmp 66)) (b := y130) Iff.rfl (fun hc131 => ?_) (fun hc131 => ?_)
  ·exact SJ.skip <| SJ.block (id := 3) <| SJ.rg 3 <| OJ.go 3 [(13, .int .i64 (IntKind.wrap .i64 (s15 - 1))), (68, .int .i64 (IntKind.wrap .i64 (s15 - 1))), (67, .int .i64 s15)] <| OJ.nil <| SJ.inBlock <| SJ.at_ [0, 1, 4, 12, 13] rfl
  ·refine SJ.exit (id := 2) (by rfl) <| SJ.less [0, 1, 4, 12, 13] (m' := [(0, Sl.v a0), (1, .int .i64 a1), (4, a4v.v), (12, .int .i64 s7), (13, .int .i64 s15)]) ?_
   refine SJ.done ?_
   exact slices_partitionCmpFunc_api_Route.K4_ok a0 a1 a4v a4 h_a4 s7 s15
noncomputable def slices_partitionCmpFunc_api_Route.K5 (a0 : Sl) (a1 : Int) (a2 : Int) (a4 : api_Route → api_Route → M Int) (s7 : Int) : M (Int × Bool) :=
 loopM (fun s_ : Int => slices_partitionCmpFunc_api_Route.L4 a0 a1 a4 s7 s_) (IntKind.wrap .i64 (a2 - 1))
theorem slices_partitionCmpFunc_api_Route.K5_ok (a0 : Sl) (a1 : Int) (a2 : Int) (a4v : Any) (a4 : api_Route → api_Route → M Int) (h_a4 : ∀ (x0_ : api_Route), ∀ (x1_ : api_Route), RefV Tryd.prog a4v.v [c_api_Route.val x0_, c_api_Route.val x1_] (a4 x0_ x1_) (fun r_ : Int => .int .i64 r_)) (s7 : Int) :
  SJ slices_partitionCmpFunc_api_Route.cx [.code (c2 (c2 (c2 (c2 slices_partitionCmpFunc_api_Route.B))))] [(0, Sl.v a0), (1, .int .i64 a1), (4, a4v.v), (12, .int .i64 s7), (13, .int .i64 (IntKind.wrap .i64 (a2 - 1)))] [] (slices_partitionCmpFunc_api_Route.K5 a0 a1 a2 a4 s7) slices_partitionCmpFunc_api_Route.F0 := by
 unfold slices_partitionCmpFunc_api_Route.K5
 exact SJ.seq <| SJ.block (id := 2) <| SJ.loop (fun s_ : Int => [(0, Sl.v a0), (1, .int .i64 a1), (4, a4v.v), (12, .int .i64 s7), (13, .int .i64 s_)]) (fun s_ : Int => []) [0, 1, 4, 12, 13] rfl (fun _ _ => rfl) (fun s_ => slices_partitionCmpFunc_api_Route.L4_ok a0 a1 a4v a4 h_a4 s7 s_)
noncomputable def slices_partitionCmpFunc_api_Route.F5 (a0 : Sl) (a1 : Int) (a2 : Int) (a4v : Any) : (LS Int (Int × Bool)) → Reach := loopF [.inLoop (c1 (c1 (c1 (c2 (c2 (c2 slices_partitionCmpFunc_api_Route.B)))))), .inBlock 0, .code (c2 (c2 (c2 (c2 slices_partitionCmpFunc_api_Route.B))))] (fun s_ : Int => [(0, Sl.v a0), (1, .int .i64 a1), (4, a4v.v), (12, .int .i64 s_), (13, .int .i64 (IntKind.wrap .i64 (a2 - 1)))]) (fun s_ : Int => []) slices_partitionCmpFunc_api_Route.F0
noncomputable def slices_partitionCmpFunc_api_Route.L5 (a0 : Sl) (a1 : Int) (a2 : Int) (a4 : api_Route → api_Route → M Int) (s7 : Int) : M (LS Int (Int × Bool)) :=
 draw >>= fun _ =>
 (if s7 ≤ (IntKind.wrap .i64 (a2 - 1)) then
   idx a0.a a0.len s7 36 >>= fun p132 =>
   ld c_api_Route p132 >>= fun x133 =>
   idx a0.a a0.len a1 36 >>= fun p134 =>
   ld c_api_Route p134 >>= fun x135 =>
   a4 x133 x135 >>= fun r136 =>
   pure (decide (r136 < 0))
  else
   pure false) >>= fun y137 =>
 if y137 = true then
  pure (LS.next (IntKind.wrap .i64 (s7 + 1)))
 else
  (slices_partitionCmpFunc_api_Route.K5 a0 a1 a2 a4 s7) >>= fun b => pure (LS.done b)
theorem slices_partitionCmpFunc_api_Route.L5_ok (a0 : Sl) (a1 : Int) (a2 : Int) (a4v : Any) (a4 : api_Route → api_Route → M Int) (h_a4 : ∀ (x0_ : api_Route), ∀ (x1_ : api_Route), RefV Tryd.prog a4v.v [c_api_Route.val x0_, c_api_Route.val x1_] (a4 x0_ x1_) (fun r_ : Int => .int .i64 r_)) (s7 : Int) :
  SJ slices_partitionCmpFunc_api_Route.cx [.code (c1 (c1 (c1 (c2 (c2 (c2 slices_partitionCmpFunc_api_Route.B)))))), .inLoop (c1 (c1 (c1 (c2 (c2 (c2 slices_partitionCmpFunc_api_Route.B)))))), .inBlock 0, .code (c2 (c2 (c2 (c2 slices_partitionCmpFunc_api_Route.B))))] [(0, Sl.v a0), (1, .int .i64 a1), (4, a4v.v), (12, .int .i64 s7), (13, .int .i64 (IntKind.wrap .i64 (a2 - 1)))] [] (slices_partitionCmpFunc_api_Route.L5 a0 a1 a2 a4 s7) (slices_partitionCmpFunc_api_Route.F5 a0 a1 a2 a4v) := by
 unfold slices_partitionCmpFunc_api_Route.L5
 refine SJ.seq <| SJ.seq <| SJ.draw (id := 3) (kd := [0, 0, 0, 0, 0, 0, 0, 0, 1, 0, 0, 0, 1, 2, 0, 0]) (bef := [0, 0, 3, 7, 15, 15, 15, 111, 239, 15, 15, 1551, 3599, 8191, 16383, 32767]) (ord := [0, 1, 2, 3, 4, 5, 6, 7, 8, 9, 10, 11, 12, 13, 14, 15]) mixed ?_
 refine OJ.go 4 [(35, .bool (decide (s7 ≤ (IntKind.wrap .i64 (a2 - 1))))), (34, .bool (decide (s7 ≤ (IntKind.wrap .i64 (a2 - 1))))), (33, .int .i64 (IntKind.wrap .i64 (a2 - 1))), (32, .int .i64 s7)] <| OJ.join (b := decide (s7 ≤ (IntKind.wrap .i64 (a2 - 1)))) [4, 5, 6, 7, 8, 9, 10, 11, 12, 13, 14, 15] [] [0, 1, 4, 12, 13, 47] (fun y137 => [(0, Sl.v a0), (1, .int .i64 a1), (4, a4v.v), (12, .int .i64 s7), (13, .int .i64 (IntKind.wrap .i64 (a2 - 1))), (47, .bool y137)]) [] [8, 12] (t := 35) decide_eq_true_iff (fun hp_ => ?_) (fun hp_ => ?_) (fun _ _ _ _ _ _ h_ => h_) (fun y137 => ?_)
 ·refine OJ.go 3 [(38, .int .i64 s7), (37, Sl.v a0), (36, a4v.v)] <| OJ.idxS (d := 39) (T := 39) (y := .tmp 37) (j := .tmp 38) (E := 32) (cap := a0.cap) (k := .i64) (fun p132 => ?_)
  refine OJ.ld (d := 40) (y := .tmp 39) (pend2 := fun x133 => [⟨8, 32, p132, c_api_Route.val x133⟩]) Ty32 (fun _ => rfl) (fun x133 => ?_)
  refine OJ.go 2 [(42, .int .i64 a1), (41, Sl.v a0)] <| OJ.idxS (d := 43) (T := 39) (y := .tmp 41) (j := .tmp 42) (E := 32) (cap := a0.cap) (k := .i64) (fun p134 => ?_)
  refine OJ.ld (d := 44) (y := .tmp 43) (pend2 := fun x135 => [⟨12, 32, p134, c_api_Route.val x135⟩, ⟨8, 32, p132, c_api_Route.val x133⟩]) Ty32 (fun _ => rfl) (fun x135 => ?_)
  refine OJ.callV1 (d := 45) (ats := #[32, 32]) (args := [.tmp 40, .tmp 44]) (fo := .tmp 36) (vals := [c_api_Route.val x133, c_api_Route.val x135]) (owed := []) (h_a4 x133 x135) (fun r136 => ?_)
  exact OW.nil <| OJ.go 2 [(47, .bool (decide (r136 < 0))), (46, .bool (decide (r136 < 0)))] <| OJ.nil ⟨(Cov.mem (Cov.drop (List.mem_of_getElem? (i := 1) rfl) (Cov.drop (List.mem_of_getElem? (i := 0) rfl) Cov.nil))), rfl, _, rfl, by kernel_rfl⟩
 ·exact OJ.go 12 [(47, .bool false), (46, undef), (45, undef), (44, undef), (43, undef), (42, undef), (41, undef), (40, undef), (39, undef), (38, undef), (37, undef), (36, undef)] <| OJ.x0
 ·refine OJ.nil <| SJ.cond (t := (.tmp 47)) (b := y137) Iff.rfl (fun hc138 => ?_) (fun hc138 => ?_)
  ·exact SJ.skip <| SJ.block (id := 1) <| SJ.rg 3 <| OJ.go 3 [(12, .int .i64 (IntKind.wrap .i64 (s7 + 1))), (49, .int .i64 (IntKind.wrap .i64 (s7 + 1))), (48, .int .i64 s7)] <| OJ.nil <| SJ.inBlock <| SJ.at_ [0, 1, 4, 12, 13] rfl
  ·refine SJ.exit (id := 0) (by rfl) <| SJ.less [0, 1, 4, 12, 13] (m' := [(0, Sl.v a0), (1, .int .i64 a1), (4, a4v.v), (12, .int .i64 s7), (13, .int .i64 (IntKind.wrap .i64 (a2 - 1)))]) ?_
   refine SJ.done ?_
   exact slices_partitionCmpFunc_api_Route.K5_ok a0 a1 a2 a4v a4 h_a4 s7
noncomputable def slices_partitionCmpFunc_api_Route (a0 : Sl) (a1 : Int) (a2 : Int) (a3 : Int) (a4 : api_Route → api_Route → M Int) : M (Int × Bool) :=
 draw >>= fun _ =>
 idx a0.a a0.len a3 36 >>= fun p1 =>
 ld c_api_Route p1 >>= fun x2 =>
 idx a0.a a0.len a1 36 >>= fun p3 =>
 ld c_api_Route p3 >>= fun x4 =>
 idx a0.a a0.len a1 36 >>= fun p5 =>
 st c_api_Route p5 x2 >>= fun _ =>
 idx a0.a a0.len a3 36 >>= fun p6 =>
 st c_api_Route p6 x4 >>= fun _ =>
 loopM (fun s_ : Int => slices_partitionCmpFunc_api_Route.L5 a0 a1 a2 a4 s_) (IntKind.wrap .i64 (a1 + 1))
theorem slices_partitionCmpFunc_api_Route_ok (a0 : Sl) (a1 : Int) (a2 : Int) (a3 : Int) (a4v : Any) (a4 : api_Route → api_Route → M Int) (h_a4 : ∀ (x0_ : api_Route), ∀ (x1_ : api_Route), RefV Tryd.prog a4v.v [c_api_Route.val x0_, c_api_Route.val x1_] (a4 x0_ x1_) (fun r_ : Int => .int .i64 r_)) : Ref Tryd.prog 77 [Sl.v a0, .int .i64 a1, .int .i64 a2, .int .i64 a3, a4v.v] (slices_partitionCmpFunc_api_Route a0 a1 a2 a3 a4) slices_partitionCmpFunc_api_Route.out := by
 refine Ref.of (cd := slices_partitionCmpFunc_api_Route.B) Tryd.func77 ?_
 show SJ slices_partitionCmpFunc_api_Route.cx [.code slices_partitionCmpFunc_api_Route.B] [(0, Sl.v a0), (1, .int .i64 a1), (2, .int .i64 a2), (3, .int .i64 a3), (4, a4v.v)] [] (slices_partitionCmpFunc_api_Route a0 a1 a2 a3 a4) slices_partitionCmpFunc_api_Route.F0
 unfold slices_partitionCmpFunc_api_Route
 refine SJ.sr 2 <| OJ.go 2 [(11, .bool false), (10, .int .i64 0)] <| OJ.nil <| SJ.seq <| SJ.draw (id := 1) (kd := [0, 0, 0, 0, 0, 0, 0, 1, 0, 0, 0, 1, 0, 2, 0, 2]) (bef := [0, 0, 0, 0, 0, 0, 48, 112, 0, 0, 768, 1792, 4083, 8179, 16383, 32767]) (ord := [0, 1, 2, 3, 4, 5, 6, 7, 8, 9, 10, 11, 12, 13, 14, 15]) mixed ?_
 refine OJ.go 6 [(19, .int .i64 a3), (18, Sl.v a0), (17, .int .i64 a3), (16, Sl.v a0), (15, .int .i64 a1), (14, Sl.v a0)] <| OJ.idxS (d := 20) (T := 39) (y := .tmp 18) (j := .tmp 19) (E := 32) (cap := a0.cap) (k := .i64) (fun p1 => ?_)
 refine OJ.ld (d := 21) (y := .tmp 20) (pend2 := fun x2 => [⟨7, 32, p1, c_api_Route.val x2⟩]) Ty32 (fun _ => rfl) (fun x2 => ?_)
 refine OJ.go 2 [(23, .int .i64 a1), (22, Sl.v a0)] <| OJ.idxS (d := 24) (T := 39) (y := .tmp 22) (j := .tmp 23) (E := 32) (cap := a0.cap) (k := .i64) (fun p3 => ?_)
 refine OJ.ld (d := 25) (y := .tmp 24) (pend2 := fun x4 => [⟨11, 32, p3, c_api_Route.val x4⟩, ⟨7, 32, p1, c_api_Route.val x2⟩]) Ty32 (fun _ => rfl) (fun x4 => ?_)
 refine OJ.idxS (d := 26) (T := 39) (y := .tmp 14) (j := .tmp 15) (E := 32) (cap := a0.cap) (k := .i64) (fun p5 => ?_)
 refine OJ.st (y := .tmp 26) (z := .tmp 21) (owed := []) Ty32 ?_
 refine OW.nil <| OJ.idxS (d := 27) (T := 39) (y := .tmp 16) (j := .tmp 17) (E := 32) (cap := a0.cap) (k := .i64) (fun p6 => ?_)
 refine OJ.st (y := .tmp 27) (z := .tmp 25) (owed := []) Ty32 ?_
 exact OW.nil <| OJ.nil <| SJ.sr 6 <| OJ.go 6 [(13, .int .i64 (IntKind.wrap .i64 (a2 - 1))), (12, .int .i64 (IntKind.wrap .i64 (a1 + 1))), (31, .int .i64 (IntKind.wrap .i64 (a2 - 1))), (30, .int .i64 a2), (29, .int .i64 (IntKind.wrap .i64 (a1 + 1))), (28, .int .i64 a1)] <| OJ.nil <| SJ.seq <| SJ.block (id := 0) <| SJ.loop (fun s_ : Int => [(0, Sl.v a0), (1, .int .i64 a1), (4, a4v.v), (12, .int .i64 s_), (13, .int .i64 (IntKind.wrap .i64 (a2 - 1)))]) (fun s_ : Int => []) [0, 1, 4, 12, 13] rfl (fun _ _ => rfl) (fun s_ => slices_partitionCmpFunc_api_Route.L5_ok a0 a1 a2 a4v a4 h_a4 s_)
end Go.Proofs.YtfgcobigollfjaaDoor.Lx
