/- Programs of the M-world for Go functions, each with the proof that the Go text does what it says. Printed by lxgen.py. -/
import Derived.Test.YtfgcobigollfjaaDoorLxT
import Derived.Test.YtfgcobigollfjaaDoorLxP0
import Derived.Test.YtfgcobigollfjaaDoorLxP1
set_option linter.unusedVariables false
set_option linter.unusedSimpArgs false
set_option linter.unusedSectionVars false
namespace Go.Proofs.YtfgcobigollfjaaDoor.Lx
open Go Go.Proofs
variable [Loops]
/-! ### slices.partitionEqualCmpFunc[weir/api.Route]: function 76 -/
noncomputable def slices_partitionEqualCmpFunc_api_Route.B : Code := (Tryd.f76.body).getD .skip
noncomputable def slices_partitionEqualCmpFunc_api_Route.cx : Fx := ⟨Tryd.prog, 76, Tryd.f76, none⟩
noncomputable def slices_partitionEqualCmpFunc_api_Route.out (r_ : Int) : Value := .int .i64 r_
noncomputable def slices_partitionEqualCmpFunc_api_Route.F0 (r_ : Int) : Reach := .ret (slices_partitionEqualCmpFunc_api_Route.out r_)
noncomputable def slices_partitionEqualCmpFunc_api_Route.F1 (a0 : Sl) (a1 : Int) (a4v : Any) : (LS (Int × Int) Int) → Reach := loopF [.inLoop (c1 (c1 (c1 (c2 (c2 (c2 slices_partitionEqualCmpFunc_api_Route.B)))))), .inBlock 0, .code (c2 (c2 (c2 (c2 slices_partitionEqualCmpFunc_api_Route.B))))] (fun s_ : (Int × Int) => [(0, Sl.v a0), (1, .int .i64 a1), (4, a4v.v), (11, .int .i64 s_.1), (12, .int .i64 s_.2)]) (fun s_ : (Int × Int) => []) slices_partitionEqualCmpFunc_api_Route.F0
noncomputable def slices_partitionEqualCmpFunc_api_Route.K1 (a0 : Sl) (s46 : Int) (s54 : Int) : M (LS (Int × Int) Int) :=
  if s46 > s54 then
    pure (LS.done s46)
  else
    draw >>= fun _ =>
    idx a0.a a0.len s54 36 >>= fun p62 =>
    ld c_api_Route p62 >>= fun x63 =>
    idx a0.a a0.len s46 36 >>= fun p64 =>
    ld c_api_Route p64 >>= fun x65 =>
    idx a0.a a0.len s46 36 >>= fun p66 =>
    st c_api_Route p66 x63 >>= fun _ =>
    idx a0.a a0.len s54 36 >>= fun p67 =>
    st c_api_Route p67 x65 >>= fun _ =>
    pure (LS.next (IntKind.wrap .i64 (s46 + 1), IntKind.wrap .i64 (s54 - 1)))
theorem slices_partitionEqualCmpFunc_api_Route.K1_ok (a0 : Sl) (a1 : Int) (a4v : Any) (s46 : Int) (s54 : Int) :
    SJ slices_partitionEqualCmpFunc_api_Route.cx [.code (c2 (c2 (c1 (c1 (c1 (c1 (c2 (c2 (c2 slices_partitionEqualCmpFunc_api_Route.B))))))))), .inBlock 1, .inLoop (c1 (c1 (c1 (c2 (c2 (c2 slices_partitionEqualCmpFunc_api_Route.B)))))), .inBlock 0, .code (c2 (c2 (c2 (c2 slices_partitionEqualCmpFunc_api_Route.B))))] [(0, Sl.v a0), (1, .int .i64 a1), (4, a4v.v), (11, .int .i64 s46), (12, .int .i64 s54)] [] (slices_partitionEqualCmpFunc_api_Route.K1 a0 s46 s54) (slices_partitionEqualCmpFunc_api_Route.F1 a0 a1 a4v) := by
  unfold slices_partitionEqualCmpFunc_api_Route.K1
  refine SJ.seq ?_
  refine SJ.sr 3 ?_
  refine OJ.go 3 [(70, .bool (decide (s46 > s54))), (69, .int .i64 s54), (68, .int .i64 s46)] ?_
  refine OJ.nil ?_
  refine SJ.cond (t := (.tmp 70)) (b := decide (s46 > s54)) decide_eq_true_iff (fun hc68 => ?_) (fun hc68 => ?_)
  · refine SJ.exit (id := 0) (by rfl) ?_
    refine SJ.sr 2 ?_
    refine OJ.go 2 [(10, .int .i64 s46), (89, .int .i64 s46)] ?_
    refine OJ.nil ?_
    exact SJ.ret rfl (Res.run (ys := [.int .i64 s46]) (.tmp (by kernel_rfl) .nil) rfl)
  · refine SJ.skip ?_
    refine SJ.seq ?_
    refine SJ.draw (id := 8) (kd := [0, 0, 0, 0, 0, 0, 0, 1, 0, 0, 0, 1, 0, 2, 0, 2]) (bef := [0, 0, 0, 0, 0, 0, 48, 112, 0, 0, 768, 1792, 4083, 8179, 16383, 32767]) (ord := [0, 1, 2, 3, 4, 5, 6, 7, 8, 9, 10, 11, 12, 13, 14, 15]) mixed ?_
    refine OJ.go 6 [(76, .int .i64 s54), (75, Sl.v a0), (74, .int .i64 s54), (73, Sl.v a0), (72, .int .i64 s46), (71, Sl.v a0)] ?_
    refine OJ.idxS (d := 77) (T := 39) (y := .tmp 75) (j := .tmp 76) (E := 32) (cap := a0.cap) (k := .i64) (fun p62 => ?_)
    refine OJ.ld (d := 78) (y := .tmp 77) (pend2 := fun x63 => [⟨7, 32, p62, c_api_Route.val x63⟩]) Ty32 (fun _ => rfl) (fun x63 => ?_)
    refine OJ.go 2 [(80, .int .i64 s46), (79, Sl.v a0)] ?_
    refine OJ.idxS (d := 81) (T := 39) (y := .tmp 79) (j := .tmp 80) (E := 32) (cap := a0.cap) (k := .i64) (fun p64 => ?_)
    refine OJ.ld (d := 82) (y := .tmp 81) (pend2 := fun x65 => [⟨11, 32, p64, c_api_Route.val x65⟩, ⟨7, 32, p62, c_api_Route.val x63⟩]) Ty32 (fun _ => rfl) (fun x65 => ?_)
    refine OJ.idxS (d := 83) (T := 39) (y := .tmp 71) (j := .tmp 72) (E := 32) (cap := a0.cap) (k := .i64) (fun p66 => ?_)
    refine OJ.st (y := .tmp 83) (z := .tmp 78) (owed := []) Ty32 ?_
    refine OW.nil ?_
    refine OJ.idxS (d := 84) (T := 39) (y := .tmp 73) (j := .tmp 74) (E := 32) (cap := a0.cap) (k := .i64) (fun p67 => ?_)
    refine OJ.st (y := .tmp 84) (z := .tmp 82) (owed := []) Ty32 ?_
    refine OW.nil ?_
    refine OJ.nil ?_
    refine SJ.sr 3 ?_
    refine OJ.go 3 [(11, .int .i64 (IntKind.wrap .i64 (s46 + 1))), (86, .int .i64 (IntKind.wrap .i64 (s46 + 1))), (85, .int .i64 s46)] ?_
    refine OJ.nil ?_
    refine SJ.rg 3 ?_
    refine OJ.go 3 [(12, .int .i64 (IntKind.wrap .i64 (s54 - 1))), (88, .int .i64 (IntKind.wrap .i64 (s54 - 1))), (87, .int .i64 s54)] ?_
    refine OJ.nil ?_
    refine SJ.inBlock ?_
    exact SJ.at_ [0, 1, 4, 11, 12] rfl
noncomputable def slices_partitionEqualCmpFunc_api_Route.F2 (a0 : Sl) (a1 : Int) (a4v : Any) (s46 : Int) : (LS Int (LS (Int × Int) Int)) → Reach := loopF [.inLoop (c1 (c1 (c1 (c2 (c1 (c1 (c1 (c1 (c2 (c2 (c2 slices_partitionEqualCmpFunc_api_Route.B))))))))))), .inBlock 4, .code (c2 (c2 (c1 (c1 (c1 (c1 (c2 (c2 (c2 slices_partitionEqualCmpFunc_api_Route.B))))))))), .inBlock 1, .inLoop (c1 (c1 (c1 (c2 (c2 (c2 slices_partitionEqualCmpFunc_api_Route.B)))))), .inBlock 0, .code (c2 (c2 (c2 (c2 slices_partitionEqualCmpFunc_api_Route.B))))] (fun s_ : Int => [(0, Sl.v a0), (1, .int .i64 a1), (4, a4v.v), (11, .int .i64 s46), (12, .int .i64 s_)]) (fun s_ : Int => []) (slices_partitionEqualCmpFunc_api_Route.F1 a0 a1 a4v)
noncomputable def slices_partitionEqualCmpFunc_api_Route.L2 (a0 : Sl) (a1 : Int) (a4 : api_Route → api_Route → M Int) (s46 : Int) (s54 : Int) : M (LS Int (LS (Int × Int) Int)) :=
  draw >>= fun _ =>
  (if s46 ≤ s54 then
      idx a0.a a0.len a1 36 >>= fun p69 =>
      ld c_api_Route p69 >>= fun x70 =>
      idx a0.a a0.len s54 36 >>= fun p71 =>
      ld c_api_Route p71 >>= fun x72 =>
      a4 x70 x72 >>= fun r73 =>
      pure (decide (r73 < 0))
    else
      pure false) >>= fun y74 =>
  if y74 = true then
    pure (LS.next (IntKind.wrap .i64 (s54 - 1)))
  else
    (slices_partitionEqualCmpFunc_api_Route.K1 a0 s46 s54) >>= fun b => pure (LS.done b)
theorem slices_partitionEqualCmpFunc_api_Route.L2_ok (a0 : Sl) (a1 : Int) (a4v : Any) (a4 : api_Route → api_Route → M Int) (h_a4 : ∀ (x0_ : api_Route), ∀ (x1_ : api_Route), RefV Tryd.prog a4v.v [c_api_Route.val x0_, c_api_Route.val x1_] (a4 x0_ x1_) (fun r_ : Int => .int .i64 r_)) (s46 : Int) (s54 : Int) :
    SJ slices_partitionEqualCmpFunc_api_Route.cx [.code (c1 (c1 (c1 (c2 (c1 (c1 (c1 (c1 (c2 (c2 (c2 slices_partitionEqualCmpFunc_api_Route.B))))))))))), .inLoop (c1 (c1 (c1 (c2 (c1 (c1 (c1 (c1 (c2 (c2 (c2 slices_partitionEqualCmpFunc_api_Route.B))))))))))), .inBlock 4, .code (c2 (c2 (c1 (c1 (c1 (c1 (c2 (c2 (c2 slices_partitionEqualCmpFunc_api_Route.B))))))))), .inBlock 1, .inLoop (c1 (c1 (c1 (c2 (c2 (c2 slices_partitionEqualCmpFunc_api_Route.B)))))), .inBlock 0, .code (c2 (c2 (c2 (c2 slices_partitionEqualCmpFunc_api_Route.B))))] [(0, Sl.v a0), (1, .int .i64 a1), (4, a4v.v), (11, .int .i64 s46), (12, .int .i64 s54)] [] (slices_partitionEqualCmpFunc_api_Route.L2 a0 a1 a4 s46 s54) (slices_partitionEqualCmpFunc_api_Route.F2 a0 a1 a4v s46) := by
  unfold slices_partitionEqualCmpFunc_api_Route.L2
  refine SJ.seq ?_
  refine SJ.seq ?_
  refine SJ.draw (id := 5) (kd := [0, 0, 0, 0, 0, 0, 0, 0, 1, 0, 0, 0, 1, 2, 0, 0]) (bef := [0, 0, 3, 7, 15, 15, 15, 111, 239, 15, 15, 1551, 3599, 8191, 16383, 32767]) (ord := [0, 1, 2, 3, 4, 5, 6, 7, 8, 9, 10, 11, 12, 13, 14, 15]) mixed ?_
  refine OJ.go 4 [(53, .bool (decide (s46 ≤ s54))), (52, .bool (decide (s46 ≤ s54))), (51, .int .i64 s54), (50, .int .i64 s46)] ?_
  refine OJ.join (b := decide (s46 ≤ s54)) [4, 5, 6, 7, 8, 9, 10, 11, 12, 13, 14, 15] [] [0, 1, 4, 11, 12, 65] (fun y74 => [(0, Sl.v a0), (1, .int .i64 a1), (4, a4v.v), (11, .int .i64 s46), (12, .int .i64 s54), (65, .bool y74)]) [] [8, 12] (t := 53) decide_eq_true_iff (fun hp_ => ?_) (fun hp_ => ?_) (fun _ _ _ _ _ _ h_ => h_) (fun y74 => ?_)
  · refine OJ.go 3 [(56, .int .i64 a1), (55, Sl.v a0), (54, a4v.v)] ?_
    refine OJ.idxS (d := 57) (T := 39) (y := .tmp 55) (j := .tmp 56) (E := 32) (cap := a0.cap) (k := .i64) (fun p69 => ?_)
    refine OJ.ld (d := 58) (y := .tmp 57) (pend2 := fun x70 => [⟨8, 32, p69, c_api_Route.val x70⟩]) Ty32 (fun _ => rfl) (fun x70 => ?_)
    refine OJ.go 2 [(60, .int .i64 s54), (59, Sl.v a0)] ?_
    refine OJ.idxS (d := 61) (T := 39) (y := .tmp 59) (j := .tmp 60) (E := 32) (cap := a0.cap) (k := .i64) (fun p71 => ?_)
    refine OJ.ld (d := 62) (y := .tmp 61) (pend2 := fun x72 => [⟨12, 32, p71, c_api_Route.val x72⟩, ⟨8, 32, p69, c_api_Route.val x70⟩]) Ty32 (fun _ => rfl) (fun x72 => ?_)
    refine OJ.callV1 (d := 63) (ats := #[32, 32]) (args := [.tmp 58, .tmp 62]) (fo := .tmp 54) (vals := [c_api_Route.val x70, c_api_Route.val x72]) (owed := []) (h_a4 x70 x72) (fun r73 => ?_)
    refine OW.nil ?_
    refine OJ.go 2 [(65, .bool (decide (r73 < 0))), (64, .bool (decide (r73 < 0)))] ?_
    exact OJ.nil ⟨(Cov.mem (Cov.drop (List.mem_of_getElem? (i := 1) rfl) (Cov.drop (List.mem_of_getElem? (i := 0) rfl) Cov.nil))), rfl, _, rfl, by kernel_rfl⟩
  · refine OJ.go 12 [(65, .bool false), (64, undef), (63, undef), (62, undef), (61, undef), (60, undef), (59, undef), (58, undef), (57, undef), (56, undef), (55, undef), (54, undef)] ?_
    exact OJ.nil ⟨(Cov.mem Cov.nil), rfl, _, rfl, by kernel_rfl⟩
  · refine OJ.nil ?_
    refine SJ.cond (t := (.tmp 65)) (b := y74) Iff.rfl (fun hc75 => ?_) (fun hc75 => ?_)
    · refine SJ.skip ?_
      refine SJ.block (id := 5) ?_
      refine SJ.rg 3 ?_
      refine OJ.go 3 [(12, .int .i64 (IntKind.wrap .i64 (s54 - 1))), (67, .int .i64 (IntKind.wrap .i64 (s54 - 1))), (66, .int .i64 s54)] ?_
      refine OJ.nil ?_
      refine SJ.inBlock ?_
      exact SJ.at_ [0, 1, 4, 11, 12] rfl
    · refine SJ.exit (id := 4) (by rfl) ?_
      refine SJ.less [0, 1, 4, 11, 12] (m' := [(0, Sl.v a0), (1, .int .i64 a1), (4, a4v.v), (11, .int .i64 s46), (12, .int .i64 s54)]) ?_
      refine SJ.done ?_
      exact slices_partitionEqualCmpFunc_api_Route.K1_ok a0 a1 a4v s46 s54
noncomputable def slices_partitionEqualCmpFunc_api_Route.K2 (a0 : Sl) (a1 : Int) (a4 : api_Route → api_Route → M Int) (s8 : Int) (s46 : Int) : M (LS (Int × Int) Int) :=
  loopM (fun s_ : Int => slices_partitionEqualCmpFunc_api_Route.L2 a0 a1 a4 s46 s_) s8
theorem slices_partitionEqualCmpFunc_api_Route.K2_ok (a0 : Sl) (a1 : Int) (a4v : Any) (a4 : api_Route → api_Route → M Int) (h_a4 : ∀ (x0_ : api_Route), ∀ (x1_ : api_Route), RefV Tryd.prog a4v.v [c_api_Route.val x0_, c_api_Route.val x1_] (a4 x0_ x1_) (fun r_ : Int => .int .i64 r_)) (s8 : Int) (s46 : Int) :
    SJ slices_partitionEqualCmpFunc_api_Route.cx [.code (c2 (c1 (c1 (c1 (c1 (c2 (c2 (c2 slices_partitionEqualCmpFunc_api_Route.B)))))))), .inBlock 1, .inLoop (c1 (c1 (c1 (c2 (c2 (c2 slices_partitionEqualCmpFunc_api_Route.B)))))), .inBlock 0, .code (c2 (c2 (c2 (c2 slices_partitionEqualCmpFunc_api_Route.B))))] [(0, Sl.v a0), (1, .int .i64 a1), (4, a4v.v), (11, .int .i64 s46), (12, .int .i64 s8)] [] (slices_partitionEqualCmpFunc_api_Route.K2 a0 a1 a4 s8 s46) (slices_partitionEqualCmpFunc_api_Route.F1 a0 a1 a4v) := by
  unfold slices_partitionEqualCmpFunc_api_Route.K2
  refine SJ.seq ?_
  refine SJ.block (id := 4) ?_
  exact SJ.loop (fun s_ : Int => [(0, Sl.v a0), (1, .int .i64 a1), (4, a4v.v), (11, .int .i64 s46), (12, .int .i64 s_)]) (fun s_ : Int => []) [0, 1, 4, 11, 12] rfl (fun _ _ => rfl) (fun s_ => slices_partitionEqualCmpFunc_api_Route.L2_ok a0 a1 a4v a4 h_a4 s46 s_)
noncomputable def slices_partitionEqualCmpFunc_api_Route.F3 (a0 : Sl) (a1 : Int) (a4v : Any) (s8 : Int) : (LS Int (LS (Int × Int) Int)) → Reach := loopF [.inLoop (c1 (c1 (c1 (c1 (c1 (c1 (c1 (c2 (c2 (c2 slices_partitionEqualCmpFunc_api_Route.B)))))))))), .inBlock 2, .code (c2 (c1 (c1 (c1 (c1 (c2 (c2 (c2 slices_partitionEqualCmpFunc_api_Route.B)))))))), .inBlock 1, .inLoop (c1 (c1 (c1 (c2 (c2 (c2 slices_partitionEqualCmpFunc_api_Route.B)))))), .inBlock 0, .code (c2 (c2 (c2 (c2 slices_partitionEqualCmpFunc_api_Route.B))))] (fun s_ : Int => [(0, Sl.v a0), (1, .int .i64 a1), (4, a4v.v), (11, .int .i64 s_), (12, .int .i64 s8)]) (fun s_ : Int => []) (slices_partitionEqualCmpFunc_api_Route.F1 a0 a1 a4v)
noncomputable def slices_partitionEqualCmpFunc_api_Route.L3 (a0 : Sl) (a1 : Int) (a4 : api_Route → api_Route → M Int) (s8 : Int) (s46 : Int) : M (LS Int (LS (Int × Int) Int)) :=
  draw >>= fun _ =>
  (if s46 ≤ s8 then
      idx a0.a a0.len a1 36 >>= fun p76 =>
      ld c_api_Route p76 >>= fun x77 =>
      idx a0.a a0.len s46 36 >>= fun p78 =>
      ld c_api_Route p78 >>= fun x79 =>
      a4 x77 x79 >>= fun r80 =>
      pure (!(decide (r80 < 0)))
    else
      pure false) >>= fun y81 =>
  if y81 = true then
    pure (LS.next (IntKind.wrap .i64 (s46 + 1)))
  else
    (slices_partitionEqualCmpFunc_api_Route.K2 a0 a1 a4 s8 s46) >>= fun b => pure (LS.done b)
theorem slices_partitionEqualCmpFunc_api_Route.L3_ok (a0 : Sl) (a1 : Int) (a4v : Any) (a4 : api_Route → api_Route → M Int) (h_a4 : ∀ (x0_ : api_Route), ∀ (x1_ : api_Route), RefV Tryd.prog a4v.v [c_api_Route.val x0_, c_api_Route.val x1_] (a4 x0_ x1_) (fun r_ : Int => .int .i64 r_)) (s8 : Int) (s46 : Int) :
    SJ slices_partitionEqualCmpFunc_api_Route.cx [.code (c1 (c1 (c1 (c1 (c1 (c1 (c1 (c2 (c2 (c2 slices_partitionEqualCmpFunc_api_Route.B)))))))))), .inLoop (c1 (c1 (c1 (c1 (c1 (c1 (c1 (c2 (c2 (c2 slices_partitionEqualCmpFunc_api_Route.B)))))))))), .inBlock 2, .code (c2 (c1 (c1 (c1 (c1 (c2 (c2 (c2 slices_partitionEqualCmpFunc_api_Route.B)))))))), .inBlock 1, .inLoop (c1 (c1 (c1 (c2 (c2 (c2 slices_partitionEqualCmpFunc_api_Route.B)))))), .inBlock 0, .code (c2 (c2 (c2 (c2 slices_partitionEqualCmpFunc_api_Route.B))))] [(0, Sl.v a0), (1, .int .i64 a1), (4, a4v.v), (11, .int .i64 s46), (12, .int .i64 s8)] [] (slices_partitionEqualCmpFunc_api_Route.L3 a0 a1 a4 s8 s46) (slices_partitionEqualCmpFunc_api_Route.F3 a0 a1 a4v s8) := by
  unfold slices_partitionEqualCmpFunc_api_Route.L3
  refine SJ.seq ?_
  refine SJ.seq ?_
  refine SJ.draw (id := 3) (kd := [0, 0, 0, 0, 0, 0, 0, 0, 1, 0, 0, 0, 1, 2, 0, 0, 0]) (bef := [0, 0, 3, 7, 15, 15, 15, 111, 239, 15, 15, 1551, 3599, 8191, 16383, 32767, 65535]) (ord := [0, 1, 2, 3, 4, 5, 6, 7, 8, 9, 10, 11, 12, 13, 14, 15, 16]) mixed ?_
  refine OJ.go 4 [(34, .bool (decide (s46 ≤ s8))), (33, .bool (decide (s46 ≤ s8))), (32, .int .i64 s8), (31, .int .i64 s46)] ?_
  refine OJ.join (b := decide (s46 ≤ s8)) [4, 5, 6, 7, 8, 9, 10, 11, 12, 13, 14, 15, 16] [] [0, 1, 4, 11, 12, 47] (fun y81 => [(0, Sl.v a0), (1, .int .i64 a1), (4, a4v.v), (11, .int .i64 s46), (12, .int .i64 s8), (47, .bool y81)]) [] [8, 12] (t := 34) decide_eq_true_iff (fun hp_ => ?_) (fun hp_ => ?_) (fun _ _ _ _ _ _ h_ => h_) (fun y81 => ?_)
  · refine OJ.go 3 [(37, .int .i64 a1), (36, Sl.v a0), (35, a4v.v)] ?_
    refine OJ.idxS (d := 38) (T := 39) (y := .tmp 36) (j := .tmp 37) (E := 32) (cap := a0.cap) (k := .i64) (fun p76 => ?_)
    refine OJ.ld (d := 39) (y := .tmp 38) (pend2 := fun x77 => [⟨8, 32, p76, c_api_Route.val x77⟩]) Ty32 (fun _ => rfl) (fun x77 => ?_)
    refine OJ.go 2 [(41, .int .i64 s46), (40, Sl.v a0)] ?_
    refine OJ.idxS (d := 42) (T := 39) (y := .tmp 40) (j := .tmp 41) (E := 32) (cap := a0.cap) (k := .i64) (fun p78 => ?_)
    refine OJ.ld (d := 43) (y := .tmp 42) (pend2 := fun x79 => [⟨12, 32, p78, c_api_Route.val x79⟩, ⟨8, 32, p76, c_api_Route.val x77⟩]) Ty32 (fun _ => rfl) (fun x79 => ?_)
    refine OJ.callV1 (d := 44) (ats := #[32, 32]) (args := [.tmp 39, .tmp 43]) (fo := .tmp 35) (vals := [c_api_Route.val x77, c_api_Route.val x79]) (owed := []) (h_a4 x77 x79) (fun r80 => ?_)
    refine OW.nil ?_
    refine OJ.go 3 [(47, .bool (!(decide (r80 < 0)))), (46, .bool (!(decide (r80 < 0)))), (45, .bool (decide (r80 < 0)))] ?_
    exact OJ.nil ⟨(Cov.mem (Cov.drop (List.mem_of_getElem? (i := 1) rfl) (Cov.drop (List.mem_of_getElem? (i := 0) rfl) Cov.nil))), rfl, _, rfl, by kernel_rfl⟩
  · refine OJ.go 13 [(47, .bool false), (46, undef), (45, undef), (44, undef), (43, undef), (42, undef), (41, undef), (40, undef), (39, undef), (38, undef), (37, undef), (36, undef), (35, undef)] ?_
    exact OJ.nil ⟨(Cov.mem Cov.nil), rfl, _, rfl, by kernel_rfl⟩
  · refine OJ.nil ?_
    refine SJ.cond (t := (.tmp 47)) (b := y81) Iff.rfl (fun hc82 => ?_) (fun hc82 => ?_)
    · refine SJ.skip ?_
      refine SJ.block (id := 3) ?_
      refine SJ.rg 3 ?_
      refine OJ.go 3 [(11, .int .i64 (IntKind.wrap .i64 (s46 + 1))), (49, .int .i64 (IntKind.wrap .i64 (s46 + 1))), (48, .int .i64 s46)] ?_
      refine OJ.nil ?_
      refine SJ.inBlock ?_
      exact SJ.at_ [0, 1, 4, 11, 12] rfl
    · refine SJ.exit (id := 2) (by rfl) ?_
      refine SJ.less [0, 1, 4, 11, 12] (m' := [(0, Sl.v a0), (1, .int .i64 a1), (4, a4v.v), (11, .int .i64 s46), (12, .int .i64 s8)]) ?_
      refine SJ.done ?_
      exact slices_partitionEqualCmpFunc_api_Route.K2_ok a0 a1 a4v a4 h_a4 s8 s46
noncomputable def slices_partitionEqualCmpFunc_api_Route.L1 (a0 : Sl) (a1 : Int) (a4 : api_Route → api_Route → M Int) (s7 : Int) (s8 : Int) : M (LS (Int × Int) Int) :=
  loopM (fun s_ : Int => slices_partitionEqualCmpFunc_api_Route.L3 a0 a1 a4 s8 s_) s7
theorem slices_partitionEqualCmpFunc_api_Route.L1_ok (a0 : Sl) (a1 : Int) (a4v : Any) (a4 : api_Route → api_Route → M Int) (h_a4 : ∀ (x0_ : api_Route), ∀ (x1_ : api_Route), RefV Tryd.prog a4v.v [c_api_Route.val x0_, c_api_Route.val x1_] (a4 x0_ x1_) (fun r_ : Int => .int .i64 r_)) (s7 : Int) (s8 : Int) :
    SJ slices_partitionEqualCmpFunc_api_Route.cx [.code (c1 (c1 (c1 (c2 (c2 (c2 slices_partitionEqualCmpFunc_api_Route.B)))))), .inLoop (c1 (c1 (c1 (c2 (c2 (c2 slices_partitionEqualCmpFunc_api_Route.B)))))), .inBlock 0, .code (c2 (c2 (c2 (c2 slices_partitionEqualCmpFunc_api_Route.B))))] [(0, Sl.v a0), (1, .int .i64 a1), (4, a4v.v), (11, .int .i64 s7), (12, .int .i64 s8)] [] (slices_partitionEqualCmpFunc_api_Route.L1 a0 a1 a4 s7 s8) (slices_partitionEqualCmpFunc_api_Route.F1 a0 a1 a4v) := by
  unfold slices_partitionEqualCmpFunc_api_Route.L1
  refine SJ.block (id := 1) ?_
  refine SJ.seq ?_
  refine SJ.block (id := 2) ?_
  exact SJ.loop (fun s_ : Int => [(0, Sl.v a0), (1, .int .i64 a1), (4, a4v.v), (11, .int .i64 s_), (12, .int .i64 s8)]) (fun s_ : Int => []) [0, 1, 4, 11, 12] rfl (fun _ _ => rfl) (fun s_ => slices_partitionEqualCmpFunc_api_Route.L3_ok a0 a1 a4v a4 h_a4 s8 s_)
noncomputable def slices_partitionEqualCmpFunc_api_Route (a0 : Sl) (a1 : Int) (a2 : Int) (a3 : Int) (a4 : api_Route → api_Route → M Int) : M Int :=
  draw >>= fun _ =>
  idx a0.a a0.len a3 36 >>= fun p1 =>
  ld c_api_Route p1 >>= fun x2 =>
  idx a0.a a0.len a1 36 >>= fun p3 =>
  ld c_api_Route p3 >>= fun x4 =>
  idx a0.a a0.len a1 36 >>= fun p5 =>
  st c_api_Route p5 x2 >>= fun _ =>
  idx a0.a a0.len a3 36 >>= fun p6 =>
  st c_api_Route p6 x4 >>= fun _ =>
  loopM (fun s_ : (Int × Int) => slices_partitionEqualCmpFunc_api_Route.L1 a0 a1 a4 s_.1 s_.2) (IntKind.wrap .i64 (a1 + 1), IntKind.wrap .i64 (a2 - 1))
theorem slices_partitionEqualCmpFunc_api_Route_ok (a0 : Sl) (a1 : Int) (a2 : Int) (a3 : Int) (a4v : Any) (a4 : api_Route → api_Route → M Int) (h_a4 : ∀ (x0_ : api_Route), ∀ (x1_ : api_Route), RefV Tryd.prog a4v.v [c_api_Route.val x0_, c_api_Route.val x1_] (a4 x0_ x1_) (fun r_ : Int => .int .i64 r_)) : Ref Tryd.prog 76 [Sl.v a0, .int .i64 a1, .int .i64 a2, .int .i64 a3, a4v.v] (slices_partitionEqualCmpFunc_api_Route a0 a1 a2 a3 a4) slices_partitionEqualCmpFunc_api_Route.out := by
  refine Ref.of (cd := slices_partitionEqualCmpFunc_api_Route.B) Tryd.func76 ?_
  show SJ slices_partitionEqualCmpFunc_api_Route.cx [.code slices_partitionEqualCmpFunc_api_Route.B] [(0, Sl.v a0), (1, .int .i64 a1), (2, .int .i64 a2), (3, .int .i64 a3), (4, a4v.v)] [] (slices_partitionEqualCmpFunc_api_Route a0 a1 a2 a3 a4) slices_partitionEqualCmpFunc_api_Route.F0
  unfold slices_partitionEqualCmpFunc_api_Route
  refine SJ.sr 1 ?_
  refine OJ.go 1 [(10, .int .i64 0)] ?_
  refine OJ.nil ?_
  refine SJ.seq ?_
  refine SJ.draw (id := 1) (kd := [0, 0, 0, 0, 0, 0, 0, 1, 0, 0, 0, 1, 0, 2, 0, 2]) (bef := [0, 0, 0, 0, 0, 0, 48, 112, 0, 0, 768, 1792, 4083, 8179, 16383, 32767]) (ord := [0, 1, 2, 3, 4, 5, 6, 7, 8, 9, 10, 11, 12, 13, 14, 15]) mixed ?_
  refine OJ.go 6 [(18, .int .i64 a3), (17, Sl.v a0), (16, .int .i64 a3), (15, Sl.v a0), (14, .int .i64 a1), (13, Sl.v a0)] ?_
  refine OJ.idxS (d := 19) (T := 39) (y := .tmp 17) (j := .tmp 18) (E := 32) (cap := a0.cap) (k := .i64) (fun p1 => ?_)
  refine OJ.ld (d := 20) (y := .tmp 19) (pend2 := fun x2 => [⟨7, 32, p1, c_api_Route.val x2⟩]) Ty32 (fun _ => rfl) (fun x2 => ?_)
  refine OJ.go 2 [(22, .int .i64 a1), (21, Sl.v a0)] ?_
  refine OJ.idxS (d := 23) (T := 39) (y := .tmp 21) (j := .tmp 22) (E := 32) (cap := a0.cap) (k := .i64) (fun p3 => ?_)
  refine OJ.ld (d := 24) (y := .tmp 23) (pend2 := fun x4 => [⟨11, 32, p3, c_api_Route.val x4⟩, ⟨7, 32, p1, c_api_Route.val x2⟩]) Ty32 (fun _ => rfl) (fun x4 => ?_)
  refine OJ.idxS (d := 25) (T := 39) (y := .tmp 13) (j := .tmp 14) (E := 32) (cap := a0.cap) (k := .i64) (fun p5 => ?_)
  refine OJ.st (y := .tmp 25) (z := .tmp 20) (owed := []) Ty32 ?_
  refine OW.nil ?_
  refine OJ.idxS (d := 26) (T := 39) (y := .tmp 15) (j := .tmp 16) (E := 32) (cap := a0.cap) (k := .i64) (fun p6 => ?_)
  refine OJ.st (y := .tmp 26) (z := .tmp 24) (owed := []) Ty32 ?_
  refine OW.nil ?_
  refine OJ.nil ?_
  refine SJ.sr 6 ?_
  refine OJ.go 6 [(12, .int .i64 (IntKind.wrap .i64 (a2 - 1))), (11, .int .i64 (IntKind.wrap .i64 (a1 + 1))), (30, .int .i64 (IntKind.wrap .i64 (a2 - 1))), (29, .int .i64 a2), (28, .int .i64 (IntKind.wrap .i64 (a1 + 1))), (27, .int .i64 a1)] ?_
  refine OJ.nil ?_
  refine SJ.seq ?_
  refine SJ.block (id := 0) ?_
  exact SJ.loop (fun s_ : (Int × Int) => [(0, Sl.v a0), (1, .int .i64 a1), (4, a4v.v), (11, .int .i64 s_.1), (12, .int .i64 s_.2)]) (fun s_ : (Int × Int) => []) [0, 1, 4, 11, 12] rfl (fun _ _ => rfl) (fun s_ => slices_partitionEqualCmpFunc_api_Route.L1_ok a0 a1 a4v a4 h_a4 s_.1 s_.2)

/-! ### slices.partitionCmpFunc[weir/api.Route]: function 77 -/
noncomputable def slices_partitionCmpFunc_api_Route.B : Code := (Tryd.f77.body).getD .skip
noncomputable def slices_partitionCmpFunc_api_Route.cx : Fx := ⟨Tryd.prog, 77, Tryd.f77, none⟩
noncomputable def slices_partitionCmpFunc_api_Route.out (r_ : (Int × Bool)) : Value := .tuple #[.int .i64 r_.1, .bool r_.2]
noncomputable def slices_partitionCmpFunc_api_Route.F0 (r_ : (Int × Bool)) : Reach := .ret (slices_partitionCmpFunc_api_Route.out r_)
noncomputable def slices_partitionCmpFunc_api_Route.K1 (a0 : Sl) (a1 : Int) (j80 : Int) : M (Int × Bool) :=
  draw >>= fun _ =>
  idx a0.a a0.len a1 36 >>= fun p81 =>
  ld c_api_Route p81 >>= fun x82 =>
  idx a0.a a0.len j80 36 >>= fun p83 =>
  ld c_api_Route p83 >>= fun x84 =>
  idx a0.a a0.len j80 36 >>= fun p85 =>
  st c_api_Route p85 x82 >>= fun _ =>
  idx a0.a a0.len a1 36 >>= fun p86 =>
  st c_api_Route p86 x84 >>= fun _ =>
  pure (j80, false)
theorem slices_partitionCmpFunc_api_Route.K1_ok (a0 : Sl) (a1 : Int) (j80 : Int) :
    SJ slices_partitionCmpFunc_api_Route.cx [.code (c2 (c2 (c2 (c2 (c2 (c2 (c2 (c2 (c2 (c2 slices_partitionCmpFunc_api_Route.B))))))))))] [(0, Sl.v a0), (1, .int .i64 a1), (13, .int .i64 j80)] [] (slices_partitionCmpFunc_api_Route.K1 a0 a1 j80) slices_partitionCmpFunc_api_Route.F0 := by
  unfold slices_partitionCmpFunc_api_Route.K1
  refine SJ.seq ?_
  refine SJ.draw (id := 21) (kd := [0, 0, 0, 0, 0, 0, 0, 1, 0, 0, 0, 1, 0, 2, 0, 2]) (bef := [0, 0, 0, 0, 0, 0, 48, 112, 0, 0, 768, 1792, 4083, 8179, 16383, 32767]) (ord := [0, 1, 2, 3, 4, 5, 6, 7, 8, 9, 10, 11, 12, 13, 14, 15]) mixed ?_
  refine OJ.go 6 [(168, .int .i64 a1), (167, Sl.v a0), (166, .int .i64 a1), (165, Sl.v a0), (164, .int .i64 j80), (163, Sl.v a0)] ?_
  refine OJ.idxS (d := 169) (T := 39) (y := .tmp 167) (j := .tmp 168) (E := 32) (cap := a0.cap) (k := .i64) (fun p81 => ?_)
  refine OJ.ld (d := 170) (y := .tmp 169) (pend2 := fun x82 => [⟨7, 32, p81, c_api_Route.val x82⟩]) Ty32 (fun _ => rfl) (fun x82 => ?_)
  refine OJ.go 2 [(172, .int .i64 j80), (171, Sl.v a0)] ?_
  refine OJ.idxS (d := 173) (T := 39) (y := .tmp 171) (j := .tmp 172) (E := 32) (cap := a0.cap) (k := .i64) (fun p83 => ?_)
  refine OJ.ld (d := 174) (y := .tmp 173) (pend2 := fun x84 => [⟨11, 32, p83, c_api_Route.val x84⟩, ⟨7, 32, p81, c_api_Route.val x82⟩]) Ty32 (fun _ => rfl) (fun x84 => ?_)
  refine OJ.idxS (d := 175) (T := 39) (y := .tmp 163) (j := .tmp 164) (E := 32) (cap := a0.cap) (k := .i64) (fun p85 => ?_)
  refine OJ.st (y := .tmp 175) (z := .tmp 170) (owed := []) Ty32 ?_
  refine OW.nil ?_
  refine OJ.idxS (d := 176) (T := 39) (y := .tmp 165) (j := .tmp 166) (E := 32) (cap := a0.cap) (k := .i64) (fun p86 => ?_)
  refine OJ.st (y := .tmp 176) (z := .tmp 174) (owed := []) Ty32 ?_
  refine OW.nil ?_
  refine OJ.nil ?_
  refine SJ.sr 3 ?_
  refine OJ.go 3 [(11, .bool false), (10, .int .i64 j80), (177, .int .i64 j80)] ?_
  refine OJ.nil ?_
  exact SJ.ret rfl (Res.run (ys := [.int .i64 j80, .bool false]) (.tmp (by kernel_rfl) (.tmp (by kernel_rfl) .nil)) rfl)
noncomputable def slices_partitionCmpFunc_api_Route.F1 (a0 : Sl) (a1 : Int) (a4v : Any) : (LS (Int × Int) (Int × Bool)) → Reach := loopF [.inLoop (c1 (c1 (c1 (c2 (c2 (c2 (c2 (c2 (c2 (c2 (c2 (c2 slices_partitionCmpFunc_api_Route.B)))))))))))), .inBlock 4, .code (c2 (c2 (c2 (c2 (c2 (c2 (c2 (c2 (c2 (c2 slices_partitionCmpFunc_api_Route.B))))))))))] (fun s_ : (Int × Int) => [(0, Sl.v a0), (1, .int .i64 a1), (4, a4v.v), (12, .int .i64 s_.1), (13, .int .i64 s_.2)]) (fun s_ : (Int × Int) => []) slices_partitionCmpFunc_api_Route.F0
noncomputable def slices_partitionCmpFunc_api_Route.K2 (a0 : Sl) (a1 : Int) (s87 : Int) (s95 : Int) : M (LS (Int × Int) (Int × Bool)) :=
  if s87 > s95 then
    (slices_partitionCmpFunc_api_Route.K1 a0 a1 s95) >>= fun b => pure (LS.done b)
  else
    draw >>= fun _ =>
    idx a0.a a0.len s95 36 >>= fun p103 =>
    ld c_api_Route p103 >>= fun x104 =>
    idx a0.a a0.len s87 36 >>= fun p105 =>
    ld c_api_Route p105 >>= fun x106 =>
    idx a0.a a0.len s87 36 >>= fun p107 =>
    st c_api_Route p107 x104 >>= fun _ =>
    idx a0.a a0.len s95 36 >>= fun p108 =>
    st c_api_Route p108 x106 >>= fun _ =>
    pure (LS.next (IntKind.wrap .i64 (s87 + 1), IntKind.wrap .i64 (s95 - 1)))
theorem slices_partitionCmpFunc_api_Route.K2_ok (a0 : Sl) (a1 : Int) (a4v : Any) (s87 : Int) (s95 : Int) :
    SJ slices_partitionCmpFunc_api_Route.cx [.code (c2 (c2 (c1 (c1 (c1 (c1 (c2 (c2 (c2 (c2 (c2 (c2 (c2 (c2 (c2 slices_partitionCmpFunc_api_Route.B))))))))))))))), .inBlock 5, .inLoop (c1 (c1 (c1 (c2 (c2 (c2 (c2 (c2 (c2 (c2 (c2 (c2 slices_partitionCmpFunc_api_Route.B)))))))))))), .inBlock 4, .code (c2 (c2 (c2 (c2 (c2 (c2 (c2 (c2 (c2 (c2 slices_partitionCmpFunc_api_Route.B))))))))))] [(0, Sl.v a0), (1, .int .i64 a1), (4, a4v.v), (12, .int .i64 s87), (13, .int .i64 s95)] [] (slices_partitionCmpFunc_api_Route.K2 a0 a1 s87 s95) (slices_partitionCmpFunc_api_Route.F1 a0 a1 a4v) := by
  unfold slices_partitionCmpFunc_api_Route.K2
  refine SJ.seq ?_
  refine SJ.sr 3 ?_
  refine OJ.go 3 [(144, .bool (decide (s87 > s95))), (143, .int .i64 s95), (142, .int .i64 s87)] ?_
  refine OJ.nil ?_
  refine SJ.cond (t := (.tmp 144)) (b := decide (s87 > s95)) decide_eq_true_iff (fun hc109 => ?_) (fun hc109 => ?_)
  · refine SJ.exit (id := 4) (by rfl) ?_
    refine SJ.less [0, 1, 13] (m' := [(0, Sl.v a0), (1, .int .i64 a1), (13, .int .i64 s95)]) ?_
    refine SJ.done ?_
    exact slices_partitionCmpFunc_api_Route.K1_ok a0 a1 s95
  · refine SJ.skip ?_
    refine SJ.seq ?_
    refine SJ.draw (id := 18) (kd := [0, 0, 0, 0, 0, 0, 0, 1, 0, 0, 0, 1, 0, 2, 0, 2]) (bef := [0, 0, 0, 0, 0, 0, 48, 112, 0, 0, 768, 1792, 4083, 8179, 16383, 32767]) (ord := [0, 1, 2, 3, 4, 5, 6, 7, 8, 9, 10, 11, 12, 13, 14, 15]) mixed ?_
    refine OJ.go 6 [(150, .int .i64 s95), (149, Sl.v a0), (148, .int .i64 s95), (147, Sl.v a0), (146, .int .i64 s87), (145, Sl.v a0)] ?_
    refine OJ.idxS (d := 151) (T := 39) (y := .tmp 149) (j := .tmp 150) (E := 32) (cap := a0.cap) (k := .i64) (fun p103 => ?_)
    refine OJ.ld (d := 152) (y := .tmp 151) (pend2 := fun x104 => [⟨7, 32, p103, c_api_Route.val x104⟩]) Ty32 (fun _ => rfl) (fun x104 => ?_)
    refine OJ.go 2 [(154, .int .i64 s87), (153, Sl.v a0)] ?_
    refine OJ.idxS (d := 155) (T := 39) (y := .tmp 153) (j := .tmp 154) (E := 32) (cap := a0.cap) (k := .i64) (fun p105 => ?_)
    refine OJ.ld (d := 156) (y := .tmp 155) (pend2 := fun x106 => [⟨11, 32, p105, c_api_Route.val x106⟩, ⟨7, 32, p103, c_api_Route.val x104⟩]) Ty32 (fun _ => rfl) (fun x106 => ?_)
    refine OJ.idxS (d := 157) (T := 39) (y := .tmp 145) (j := .tmp 146) (E := 32) (cap := a0.cap) (k := .i64) (fun p107 => ?_)
    refine OJ.st (y := .tmp 157) (z := .tmp 152) (owed := []) Ty32 ?_
    refine OW.nil ?_
    refine OJ.idxS (d := 158) (T := 39) (y := .tmp 147) (j := .tmp 148) (E := 32) (cap := a0.cap) (k := .i64) (fun p108 => ?_)
    refine OJ.st (y := .tmp 158) (z := .tmp 156) (owed := []) Ty32 ?_
    refine OW.nil ?_
    refine OJ.nil ?_
    refine SJ.sr 3 ?_
    refine OJ.go 3 [(12, .int .i64 (IntKind.wrap .i64 (s87 + 1))), (160, .int .i64 (IntKind.wrap .i64 (s87 + 1))), (159, .int .i64 s87)] ?_
    refine OJ.nil ?_
    refine SJ.rg 3 ?_
    refine OJ.go 3 [(13, .int .i64 (IntKind.wrap .i64 (s95 - 1))), (162, .int .i64 (IntKind.wrap .i64 (s95 - 1))), (161, .int .i64 s95)] ?_
    refine OJ.nil ?_
    refine SJ.inBlock ?_
    exact SJ.at_ [0, 1, 4, 12, 13] rfl
noncomputable def slices_partitionCmpFunc_api_Route.F2 (a0 : Sl) (a1 : Int) (a4v : Any) (s87 : Int) : (LS Int (LS (Int × Int) (Int × Bool))) → Reach := loopF [.inLoop (c1 (c1 (c1 (c2 (c1 (c1 (c1 (c1 (c2 (c2 (c2 (c2 (c2 (c2 (c2 (c2 (c2 slices_partitionCmpFunc_api_Route.B))))))))))))))))), .inBlock 8, .code (c2 (c2 (c1 (c1 (c1 (c1 (c2 (c2 (c2 (c2 (c2 (c2 (c2 (c2 (c2 slices_partitionCmpFunc_api_Route.B))))))))))))))), .inBlock 5, .inLoop (c1 (c1 (c1 (c2 (c2 (c2 (c2 (c2 (c2 (c2 (c2 (c2 slices_partitionCmpFunc_api_Route.B)))))))))))), .inBlock 4, .code (c2 (c2 (c2 (c2 (c2 (c2 (c2 (c2 (c2 (c2 slices_partitionCmpFunc_api_Route.B))))))))))] (fun s_ : Int => [(0, Sl.v a0), (1, .int .i64 a1), (4, a4v.v), (12, .int .i64 s87), (13, .int .i64 s_)]) (fun s_ : Int => []) (slices_partitionCmpFunc_api_Route.F1 a0 a1 a4v)
noncomputable def slices_partitionCmpFunc_api_Route.L2 (a0 : Sl) (a1 : Int) (a4 : api_Route → api_Route → M Int) (s87 : Int) (s95 : Int) : M (LS Int (LS (Int × Int) (Int × Bool))) :=
  draw >>= fun _ =>
  (if s87 ≤ s95 then
      idx a0.a a0.len s95 36 >>= fun p110 =>
      ld c_api_Route p110 >>= fun x111 =>
      idx a0.a a0.len a1 36 >>= fun p112 =>
      ld c_api_Route p112 >>= fun x113 =>
      a4 x111 x113 >>= fun r114 =>
      pure (!(decide (r114 < 0)))
    else
      pure false) >>= fun y115 =>
  if y115 = true then
    pure (LS.next (IntKind.wrap .i64 (s95 - 1)))
  else
    (slices_partitionCmpFunc_api_Route.K2 a0 a1 s87 s95) >>= fun b => pure (LS.done b)
theorem slices_partitionCmpFunc_api_Route.L2_ok (a0 : Sl) (a1 : Int) (a4v : Any) (a4 : api_Route → api_Route → M Int) (h_a4 : ∀ (x0_ : api_Route), ∀ (x1_ : api_Route), RefV Tryd.prog a4v.v [c_api_Route.val x0_, c_api_Route.val x1_] (a4 x0_ x1_) (fun r_ : Int => .int .i64 r_)) (s87 : Int) (s95 : Int) :
    SJ slices_partitionCmpFunc_api_Route.cx [.code (c1 (c1 (c1 (c2 (c1 (c1 (c1 (c1 (c2 (c2 (c2 (c2 (c2 (c2 (c2 (c2 (c2 slices_partitionCmpFunc_api_Route.B))))))))))))))))), .inLoop (c1 (c1 (c1 (c2 (c1 (c1 (c1 (c1 (c2 (c2 (c2 (c2 (c2 (c2 (c2 (c2 (c2 slices_partitionCmpFunc_api_Route.B))))))))))))))))), .inBlock 8, .code (c2 (c2 (c1 (c1 (c1 (c1 (c2 (c2 (c2 (c2 (c2 (c2 (c2 (c2 (c2 slices_partitionCmpFunc_api_Route.B))))))))))))))), .inBlock 5, .inLoop (c1 (c1 (c1 (c2 (c2 (c2 (c2 (c2 (c2 (c2 (c2 (c2 slices_partitionCmpFunc_api_Route.B)))))))))))), .inBlock 4, .code (c2 (c2 (c2 (c2 (c2 (c2 (c2 (c2 (c2 (c2 slices_partitionCmpFunc_api_Route.B))))))))))] [(0, Sl.v a0), (1, .int .i64 a1), (4, a4v.v), (12, .int .i64 s87), (13, .int .i64 s95)] [] (slices_partitionCmpFunc_api_Route.L2 a0 a1 a4 s87 s95) (slices_partitionCmpFunc_api_Route.F2 a0 a1 a4v s87) := by
  unfold slices_partitionCmpFunc_api_Route.L2
  refine SJ.seq ?_
  refine SJ.seq ?_
  refine SJ.draw (id := 15) (kd := [0, 0, 0, 0, 0, 0, 0, 0, 1, 0, 0, 0, 1, 2, 0, 0, 0]) (bef := [0, 0, 3, 7, 15, 15, 15, 111, 239, 15, 15, 1551, 3599, 8191, 16383, 32767, 65535]) (ord := [0, 1, 2, 3, 4, 5, 6, 7, 8, 9, 10, 11, 12, 13, 14, 15, 16]) mixed ?_
  refine OJ.go 4 [(126, .bool (decide (s87 ≤ s95))), (125, .bool (decide (s87 ≤ s95))), (124, .int .i64 s95), (123, .int .i64 s87)] ?_
  refine OJ.join (b := decide (s87 ≤ s95)) [4, 5, 6, 7, 8, 9, 10, 11, 12, 13, 14, 15, 16] [] [0, 1, 4, 12, 13, 139] (fun y115 => [(0, Sl.v a0), (1, .int .i64 a1), (4, a4v.v), (12, .int .i64 s87), (13, .int .i64 s95), (139, .bool y115)]) [] [8, 12] (t := 126) decide_eq_true_iff (fun hp_ => ?_) (fun hp_ => ?_) (fun _ _ _ _ _ _ h_ => h_) (fun y115 => ?_)
  · refine OJ.go 3 [(129, .int .i64 s95), (128, Sl.v a0), (127, a4v.v)] ?_
    refine OJ.idxS (d := 130) (T := 39) (y := .tmp 128) (j := .tmp 129) (E := 32) (cap := a0.cap) (k := .i64) (fun p110 => ?_)
    refine OJ.ld (d := 131) (y := .tmp 130) (pend2 := fun x111 => [⟨8, 32, p110, c_api_Route.val x111⟩]) Ty32 (fun _ => rfl) (fun x111 => ?_)
    refine OJ.go 2 [(133, .int .i64 a1), (132, Sl.v a0)] ?_
    refine OJ.idxS (d := 134) (T := 39) (y := .tmp 132) (j := .tmp 133) (E := 32) (cap := a0.cap) (k := .i64) (fun p112 => ?_)
    refine OJ.ld (d := 135) (y := .tmp 134) (pend2 := fun x113 => [⟨12, 32, p112, c_api_Route.val x113⟩, ⟨8, 32, p110, c_api_Route.val x111⟩]) Ty32 (fun _ => rfl) (fun x113 => ?_)
    refine OJ.callV1 (d := 136) (ats := #[32, 32]) (args := [.tmp 131, .tmp 135]) (fo := .tmp 127) (vals := [c_api_Route.val x111, c_api_Route.val x113]) (owed := []) (h_a4 x111 x113) (fun r114 => ?_)
    refine OW.nil ?_
    refine OJ.go 3 [(139, .bool (!(decide (r114 < 0)))), (138, .bool (!(decide (r114 < 0)))), (137, .bool (decide (r114 < 0)))] ?_
    exact OJ.nil ⟨(Cov.mem (Cov.drop (List.mem_of_getElem? (i := 1) rfl) (Cov.drop (List.mem_of_getElem? (i := 0) rfl) Cov.nil))), rfl, _, rfl, by kernel_rfl⟩
  · refine OJ.go 13 [(139, .bool false), (138, undef), (137, undef), (136, undef), (135, undef), (134, undef), (133, undef), (132, undef), (131, undef), (130, undef), (129, undef), (128, undef), (127, undef)] ?_
    exact OJ.nil ⟨(Cov.mem Cov.nil), rfl, _, rfl, by kernel_rfl⟩
  · refine OJ.nil ?_
    refine SJ.cond (t := (.tmp 139)) (b := y115) Iff.rfl (fun hc116 => ?_) (fun hc116 => ?_)
    · refine SJ.skip ?_
      refine SJ.block (id := 9) ?_
      refine SJ.rg 3 ?_
      refine OJ.go 3 [(13, .int .i64 (IntKind.wrap .i64 (s95 - 1))), (141, .int .i64 (IntKind.wrap .i64 (s95 - 1))), (140, .int .i64 s95)] ?_
      refine OJ.nil ?_
      refine SJ.inBlock ?_
      exact SJ.at_ [0, 1, 4, 12, 13] rfl
    · refine SJ.exit (id := 8) (by rfl) ?_
      refine SJ.less [0, 1, 4, 12, 13] (m' := [(0, Sl.v a0), (1, .int .i64 a1), (4, a4v.v), (12, .int .i64 s87), (13, .int .i64 s95)]) ?_
      refine SJ.done ?_
      exact slices_partitionCmpFunc_api_Route.K2_ok a0 a1 a4v s87 s95
noncomputable def slices_partitionCmpFunc_api_Route.K3 (a0 : Sl) (a1 : Int) (a4 : api_Route → api_Route → M Int) (s42 : Int) (s87 : Int) : M (LS (Int × Int) (Int × Bool)) :=
  loopM (fun s_ : Int => slices_partitionCmpFunc_api_Route.L2 a0 a1 a4 s87 s_) s42
theorem slices_partitionCmpFunc_api_Route.K3_ok (a0 : Sl) (a1 : Int) (a4v : Any) (a4 : api_Route → api_Route → M Int) (h_a4 : ∀ (x0_ : api_Route), ∀ (x1_ : api_Route), RefV Tryd.prog a4v.v [c_api_Route.val x0_, c_api_Route.val x1_] (a4 x0_ x1_) (fun r_ : Int => .int .i64 r_)) (s42 : Int) (s87 : Int) :
    SJ slices_partitionCmpFunc_api_Route.cx [.code (c2 (c1 (c1 (c1 (c1 (c2 (c2 (c2 (c2 (c2 (c2 (c2 (c2 (c2 slices_partitionCmpFunc_api_Route.B)))))))))))))), .inBlock 5, .inLoop (c1 (c1 (c1 (c2 (c2 (c2 (c2 (c2 (c2 (c2 (c2 (c2 slices_partitionCmpFunc_api_Route.B)))))))))))), .inBlock 4, .code (c2 (c2 (c2 (c2 (c2 (c2 (c2 (c2 (c2 (c2 slices_partitionCmpFunc_api_Route.B))))))))))] [(0, Sl.v a0), (1, .int .i64 a1), (4, a4v.v), (12, .int .i64 s87), (13, .int .i64 s42)] [] (slices_partitionCmpFunc_api_Route.K3 a0 a1 a4 s42 s87) (slices_partitionCmpFunc_api_Route.F1 a0 a1 a4v) := by
  unfold slices_partitionCmpFunc_api_Route.K3
  refine SJ.seq ?_
  refine SJ.block (id := 8) ?_
  exact SJ.loop (fun s_ : Int => [(0, Sl.v a0), (1, .int .i64 a1), (4, a4v.v), (12, .int .i64 s87), (13, .int .i64 s_)]) (fun s_ : Int => []) [0, 1, 4, 12, 13] rfl (fun _ _ => rfl) (fun s_ => slices_partitionCmpFunc_api_Route.L2_ok a0 a1 a4v a4 h_a4 s87 s_)
noncomputable def slices_partitionCmpFunc_api_Route.F3 (a0 : Sl) (a1 : Int) (a4v : Any) (s42 : Int) : (LS Int (LS (Int × Int) (Int × Bool))) → Reach := loopF [.inLoop (c1 (c1 (c1 (c1 (c1 (c1 (c1 (c2 (c2 (c2 (c2 (c2 (c2 (c2 (c2 (c2 slices_partitionCmpFunc_api_Route.B)))))))))))))))), .inBlock 6, .code (c2 (c1 (c1 (c1 (c1 (c2 (c2 (c2 (c2 (c2 (c2 (c2 (c2 (c2 slices_partitionCmpFunc_api_Route.B)))))))))))))), .inBlock 5, .inLoop (c1 (c1 (c1 (c2 (c2 (c2 (c2 (c2 (c2 (c2 (c2 (c2 slices_partitionCmpFunc_api_Route.B)))))))))))), .inBlock 4, .code (c2 (c2 (c2 (c2 (c2 (c2 (c2 (c2 (c2 (c2 slices_partitionCmpFunc_api_Route.B))))))))))] (fun s_ : Int => [(0, Sl.v a0), (1, .int .i64 a1), (4, a4v.v), (12, .int .i64 s_), (13, .int .i64 s42)]) (fun s_ : Int => []) (slices_partitionCmpFunc_api_Route.F1 a0 a1 a4v)
noncomputable def slices_partitionCmpFunc_api_Route.L3 (a0 : Sl) (a1 : Int) (a4 : api_Route → api_Route → M Int) (s42 : Int) (s87 : Int) : M (LS Int (LS (Int × Int) (Int × Bool))) :=
  draw >>= fun _ =>
  (if s87 ≤ s42 then
      idx a0.a a0.len s87 36 >>= fun p117 =>
      ld c_api_Route p117 >>= fun x118 =>
      idx a0.a a0.len a1 36 >>= fun p119 =>
      ld c_api_Route p119 >>= fun x120 =>
      a4 x118 x120 >>= fun r121 =>
      pure (decide (r121 < 0))
    else
      pure false) >>= fun y122 =>
  if y122 = true then
    pure (LS.next (IntKind.wrap .i64 (s87 + 1)))
  else
    (slices_partitionCmpFunc_api_Route.K3 a0 a1 a4 s42 s87) >>= fun b => pure (LS.done b)
theorem slices_partitionCmpFunc_api_Route.L3_ok (a0 : Sl) (a1 : Int) (a4v : Any) (a4 : api_Route → api_Route → M Int) (h_a4 : ∀ (x0_ : api_Route), ∀ (x1_ : api_Route), RefV Tryd.prog a4v.v [c_api_Route.val x0_, c_api_Route.val x1_] (a4 x0_ x1_) (fun r_ : Int => .int .i64 r_)) (s42 : Int) (s87 : Int) :
    SJ slices_partitionCmpFunc_api_Route.cx [.code (c1 (c1 (c1 (c1 (c1 (c1 (c1 (c2 (c2 (c2 (c2 (c2 (c2 (c2 (c2 (c2 slices_partitionCmpFunc_api_Route.B)))))))))))))))), .inLoop (c1 (c1 (c1 (c1 (c1 (c1 (c1 (c2 (c2 (c2 (c2 (c2 (c2 (c2 (c2 (c2 slices_partitionCmpFunc_api_Route.B)))))))))))))))), .inBlock 6, .code (c2 (c1 (c1 (c1 (c1 (c2 (c2 (c2 (c2 (c2 (c2 (c2 (c2 (c2 slices_partitionCmpFunc_api_Route.B)))))))))))))), .inBlock 5, .inLoop (c1 (c1 (c1 (c2 (c2 (c2 (c2 (c2 (c2 (c2 (c2 (c2 slices_partitionCmpFunc_api_Route.B)))))))))))), .inBlock 4, .code (c2 (c2 (c2 (c2 (c2 (c2 (c2 (c2 (c2 (c2 slices_partitionCmpFunc_api_Route.B))))))))))] [(0, Sl.v a0), (1, .int .i64 a1), (4, a4v.v), (12, .int .i64 s87), (13, .int .i64 s42)] [] (slices_partitionCmpFunc_api_Route.L3 a0 a1 a4 s42 s87) (slices_partitionCmpFunc_api_Route.F3 a0 a1 a4v s42) := by
  unfold slices_partitionCmpFunc_api_Route.L3
  refine SJ.seq ?_
  refine SJ.seq ?_
  refine SJ.draw (id := 13) (kd := [0, 0, 0, 0, 0, 0, 0, 0, 1, 0, 0, 0, 1, 2, 0, 0]) (bef := [0, 0, 3, 7, 15, 15, 15, 111, 239, 15, 15, 1551, 3599, 8191, 16383, 32767]) (ord := [0, 1, 2, 3, 4, 5, 6, 7, 8, 9, 10, 11, 12, 13, 14, 15]) mixed ?_
  refine OJ.go 4 [(108, .bool (decide (s87 ≤ s42))), (107, .bool (decide (s87 ≤ s42))), (106, .int .i64 s42), (105, .int .i64 s87)] ?_
  refine OJ.join (b := decide (s87 ≤ s42)) [4, 5, 6, 7, 8, 9, 10, 11, 12, 13, 14, 15] [] [0, 1, 4, 12, 13, 120] (fun y122 => [(0, Sl.v a0), (1, .int .i64 a1), (4, a4v.v), (12, .int .i64 s87), (13, .int .i64 s42), (120, .bool y122)]) [] [8, 12] (t := 108) decide_eq_true_iff (fun hp_ => ?_) (fun hp_ => ?_) (fun _ _ _ _ _ _ h_ => h_) (fun y122 => ?_)
  · refine OJ.go 3 [(111, .int .i64 s87), (110, Sl.v a0), (109, a4v.v)] ?_
    refine OJ.idxS (d := 112) (T := 39) (y := .tmp 110) (j := .tmp 111) (E := 32) (cap := a0.cap) (k := .i64) (fun p117 => ?_)
    refine OJ.ld (d := 113) (y := .tmp 112) (pend2 := fun x118 => [⟨8, 32, p117, c_api_Route.val x118⟩]) Ty32 (fun _ => rfl) (fun x118 => ?_)
    refine OJ.go 2 [(115, .int .i64 a1), (114, Sl.v a0)] ?_
    refine OJ.idxS (d := 116) (T := 39) (y := .tmp 114) (j := .tmp 115) (E := 32) (cap := a0.cap) (k := .i64) (fun p119 => ?_)
    refine OJ.ld (d := 117) (y := .tmp 116) (pend2 := fun x120 => [⟨12, 32, p119, c_api_Route.val x120⟩, ⟨8, 32, p117, c_api_Route.val x118⟩]) Ty32 (fun _ => rfl) (fun x120 => ?_)
    refine OJ.callV1 (d := 118) (ats := #[32, 32]) (args := [.tmp 113, .tmp 117]) (fo := .tmp 109) (vals := [c_api_Route.val x118, c_api_Route.val x120]) (owed := []) (h_a4 x118 x120) (fun r121 => ?_)
    refine OW.nil ?_
    refine OJ.go 2 [(120, .bool (decide (r121 < 0))), (119, .bool (decide (r121 < 0)))] ?_
    exact OJ.nil ⟨(Cov.mem (Cov.drop (List.mem_of_getElem? (i := 1) rfl) (Cov.drop (List.mem_of_getElem? (i := 0) rfl) Cov.nil))), rfl, _, rfl, by kernel_rfl⟩
  · refine OJ.go 12 [(120, .bool false), (119, undef), (118, undef), (117, undef), (116, undef), (115, undef), (114, undef), (113, undef), (112, undef), (111, undef), (110, undef), (109, undef)] ?_
    exact OJ.nil ⟨(Cov.mem Cov.nil), rfl, _, rfl, by kernel_rfl⟩
  · refine OJ.nil ?_
    refine SJ.cond (t := (.tmp 120)) (b := y122) Iff.rfl (fun hc123 => ?_) (fun hc123 => ?_)
    · refine SJ.skip ?_
      refine SJ.block (id := 7) ?_
      refine SJ.rg 3 ?_
      refine OJ.go 3 [(12, .int .i64 (IntKind.wrap .i64 (s87 + 1))), (122, .int .i64 (IntKind.wrap .i64 (s87 + 1))), (121, .int .i64 s87)] ?_
      refine OJ.nil ?_
      refine SJ.inBlock ?_
      exact SJ.at_ [0, 1, 4, 12, 13] rfl
    · refine SJ.exit (id := 6) (by rfl) ?_
      refine SJ.less [0, 1, 4, 12, 13] (m' := [(0, Sl.v a0), (1, .int .i64 a1), (4, a4v.v), (12, .int .i64 s87), (13, .int .i64 s42)]) ?_
      refine SJ.done ?_
      exact slices_partitionCmpFunc_api_Route.K3_ok a0 a1 a4v a4 h_a4 s42 s87
noncomputable def slices_partitionCmpFunc_api_Route.L1 (a0 : Sl) (a1 : Int) (a4 : api_Route → api_Route → M Int) (s41 : Int) (s42 : Int) : M (LS (Int × Int) (Int × Bool)) :=
  loopM (fun s_ : Int => slices_partitionCmpFunc_api_Route.L3 a0 a1 a4 s42 s_) s41
theorem slices_partitionCmpFunc_api_Route.L1_ok (a0 : Sl) (a1 : Int) (a4v : Any) (a4 : api_Route → api_Route → M Int) (h_a4 : ∀ (x0_ : api_Route), ∀ (x1_ : api_Route), RefV Tryd.prog a4v.v [c_api_Route.val x0_, c_api_Route.val x1_] (a4 x0_ x1_) (fun r_ : Int => .int .i64 r_)) (s41 : Int) (s42 : Int) :
    SJ slices_partitionCmpFunc_api_Route.cx [.code (c1 (c1 (c1 (c2 (c2 (c2 (c2 (c2 (c2 (c2 (c2 (c2 slices_partitionCmpFunc_api_Route.B)))))))))))), .inLoop (c1 (c1 (c1 (c2 (c2 (c2 (c2 (c2 (c2 (c2 (c2 (c2 slices_partitionCmpFunc_api_Route.B)))))))))))), .inBlock 4, .code (c2 (c2 (c2 (c2 (c2 (c2 (c2 (c2 (c2 (c2 slices_partitionCmpFunc_api_Route.B))))))))))] [(0, Sl.v a0), (1, .int .i64 a1), (4, a4v.v), (12, .int .i64 s41), (13, .int .i64 s42)] [] (slices_partitionCmpFunc_api_Route.L1 a0 a1 a4 s41 s42) (slices_partitionCmpFunc_api_Route.F1 a0 a1 a4v) := by
  unfold slices_partitionCmpFunc_api_Route.L1
  refine SJ.block (id := 5) ?_
  refine SJ.seq ?_
  refine SJ.block (id := 6) ?_
  exact SJ.loop (fun s_ : Int => [(0, Sl.v a0), (1, .int .i64 a1), (4, a4v.v), (12, .int .i64 s_), (13, .int .i64 s42)]) (fun s_ : Int => []) [0, 1, 4, 12, 13] rfl (fun _ _ => rfl) (fun s_ => slices_partitionCmpFunc_api_Route.L3_ok a0 a1 a4v a4 h_a4 s42 s_)
noncomputable def slices_partitionCmpFunc_api_Route.K4 (a0 : Sl) (a1 : Int) (a4 : api_Route → api_Route → M Int) (s7 : Int) (s15 : Int) : M (Int × Bool) :=
  if s7 > s15 then
    draw >>= fun _ =>
    idx a0.a a0.len a1 36 >>= fun p29 =>
    ld c_api_Route p29 >>= fun x30 =>
    idx a0.a a0.len s15 36 >>= fun p31 =>
    ld c_api_Route p31 >>= fun x32 =>
    idx a0.a a0.len s15 36 >>= fun p33 =>
    st c_api_Route p33 x30 >>= fun _ =>
    idx a0.a a0.len a1 36 >>= fun p34 =>
    st c_api_Route p34 x32 >>= fun _ =>
    pure (s15, true)
  else
    draw >>= fun _ =>
    idx a0.a a0.len s15 36 >>= fun p35 =>
    ld c_api_Route p35 >>= fun x36 =>
    idx a0.a a0.len s7 36 >>= fun p37 =>
    ld c_api_Route p37 >>= fun x38 =>
    idx a0.a a0.len s7 36 >>= fun p39 =>
    st c_api_Route p39 x36 >>= fun _ =>
    idx a0.a a0.len s15 36 >>= fun p40 =>
    st c_api_Route p40 x38 >>= fun _ =>
    loopM (fun s_ : (Int × Int) => slices_partitionCmpFunc_api_Route.L1 a0 a1 a4 s_.1 s_.2) (IntKind.wrap .i64 (s7 + 1), IntKind.wrap .i64 (s15 - 1))
theorem slices_partitionCmpFunc_api_Route.K4_ok (a0 : Sl) (a1 : Int) (a4v : Any) (a4 : api_Route → api_Route → M Int) (h_a4 : ∀ (x0_ : api_Route), ∀ (x1_ : api_Route), RefV Tryd.prog a4v.v [c_api_Route.val x0_, c_api_Route.val x1_] (a4 x0_ x1_) (fun r_ : Int => .int .i64 r_)) (s7 : Int) (s15 : Int) :
    SJ slices_partitionCmpFunc_api_Route.cx [.code (c2 (c2 (c2 (c2 (c2 slices_partitionCmpFunc_api_Route.B)))))] [(0, Sl.v a0), (1, .int .i64 a1), (4, a4v.v), (12, .int .i64 s7), (13, .int .i64 s15)] [] (slices_partitionCmpFunc_api_Route.K4 a0 a1 a4 s7 s15) slices_partitionCmpFunc_api_Route.F0 := by
  unfold slices_partitionCmpFunc_api_Route.K4
  refine SJ.seq ?_
  refine SJ.sr 3 ?_
  refine OJ.go 3 [(71, .bool (decide (s7 > s15))), (70, .int .i64 s15), (69, .int .i64 s7)] ?_
  refine OJ.nil ?_
  refine SJ.cond (t := (.tmp 71)) (b := decide (s7 > s15)) decide_eq_true_iff (fun hc124 => ?_) (fun hc124 => ?_)
  · refine SJ.seq ?_
    refine SJ.draw (id := 8) (kd := [0, 0, 0, 0, 0, 0, 0, 1, 0, 0, 0, 1, 0, 2, 0, 2]) (bef := [0, 0, 0, 0, 0, 0, 48, 112, 0, 0, 768, 1792, 4083, 8179, 16383, 32767]) (ord := [0, 1, 2, 3, 4, 5, 6, 7, 8, 9, 10, 11, 12, 13, 14, 15]) mixed ?_
    refine OJ.go 6 [(77, .int .i64 a1), (76, Sl.v a0), (75, .int .i64 a1), (74, Sl.v a0), (73, .int .i64 s15), (72, Sl.v a0)] ?_
    refine OJ.idxS (d := 78) (T := 39) (y := .tmp 76) (j := .tmp 77) (E := 32) (cap := a0.cap) (k := .i64) (fun p29 => ?_)
    refine OJ.ld (d := 79) (y := .tmp 78) (pend2 := fun x30 => [⟨7, 32, p29, c_api_Route.val x30⟩]) Ty32 (fun _ => rfl) (fun x30 => ?_)
    refine OJ.go 2 [(81, .int .i64 s15), (80, Sl.v a0)] ?_
    refine OJ.idxS (d := 82) (T := 39) (y := .tmp 80) (j := .tmp 81) (E := 32) (cap := a0.cap) (k := .i64) (fun p31 => ?_)
    refine OJ.ld (d := 83) (y := .tmp 82) (pend2 := fun x32 => [⟨11, 32, p31, c_api_Route.val x32⟩, ⟨7, 32, p29, c_api_Route.val x30⟩]) Ty32 (fun _ => rfl) (fun x32 => ?_)
    refine OJ.idxS (d := 84) (T := 39) (y := .tmp 72) (j := .tmp 73) (E := 32) (cap := a0.cap) (k := .i64) (fun p33 => ?_)
    refine OJ.st (y := .tmp 84) (z := .tmp 79) (owed := []) Ty32 ?_
    refine OW.nil ?_
    refine OJ.idxS (d := 85) (T := 39) (y := .tmp 74) (j := .tmp 75) (E := 32) (cap := a0.cap) (k := .i64) (fun p34 => ?_)
    refine OJ.st (y := .tmp 85) (z := .tmp 83) (owed := []) Ty32 ?_
    refine OW.nil ?_
    refine OJ.nil ?_
    refine SJ.sr 3 ?_
    refine OJ.go 3 [(11, .bool true), (10, .int .i64 s15), (86, .int .i64 s15)] ?_
    refine OJ.nil ?_
    exact SJ.ret rfl (Res.run (ys := [.int .i64 s15, .bool true]) (.tmp (by kernel_rfl) (.tmp (by kernel_rfl) .nil)) rfl)
  · refine SJ.skip ?_
    refine SJ.seq ?_
    refine SJ.draw (id := 10) (kd := [0, 0, 0, 0, 0, 0, 0, 1, 0, 0, 0, 1, 0, 2, 0, 2]) (bef := [0, 0, 0, 0, 0, 0, 48, 112, 0, 0, 768, 1792, 4083, 8179, 16383, 32767]) (ord := [0, 1, 2, 3, 4, 5, 6, 7, 8, 9, 10, 11, 12, 13, 14, 15]) mixed ?_
    refine OJ.go 6 [(92, .int .i64 s15), (91, Sl.v a0), (90, .int .i64 s15), (89, Sl.v a0), (88, .int .i64 s7), (87, Sl.v a0)] ?_
    refine OJ.idxS (d := 93) (T := 39) (y := .tmp 91) (j := .tmp 92) (E := 32) (cap := a0.cap) (k := .i64) (fun p35 => ?_)
    refine OJ.ld (d := 94) (y := .tmp 93) (pend2 := fun x36 => [⟨7, 32, p35, c_api_Route.val x36⟩]) Ty32 (fun _ => rfl) (fun x36 => ?_)
    refine OJ.go 2 [(96, .int .i64 s7), (95, Sl.v a0)] ?_
    refine OJ.idxS (d := 97) (T := 39) (y := .tmp 95) (j := .tmp 96) (E := 32) (cap := a0.cap) (k := .i64) (fun p37 => ?_)
    refine OJ.ld (d := 98) (y := .tmp 97) (pend2 := fun x38 => [⟨11, 32, p37, c_api_Route.val x38⟩, ⟨7, 32, p35, c_api_Route.val x36⟩]) Ty32 (fun _ => rfl) (fun x38 => ?_)
    refine OJ.idxS (d := 99) (T := 39) (y := .tmp 87) (j := .tmp 88) (E := 32) (cap := a0.cap) (k := .i64) (fun p39 => ?_)
    refine OJ.st (y := .tmp 99) (z := .tmp 94) (owed := []) Ty32 ?_
    refine OW.nil ?_
    refine OJ.idxS (d := 100) (T := 39) (y := .tmp 89) (j := .tmp 90) (E := 32) (cap := a0.cap) (k := .i64) (fun p40 => ?_)
    refine OJ.st (y := .tmp 100) (z := .tmp 98) (owed := []) Ty32 ?_
    refine OW.nil ?_
    refine OJ.nil ?_
    refine SJ.sr 3 ?_
    refine OJ.go 3 [(12, .int .i64 (IntKind.wrap .i64 (s7 + 1))), (102, .int .i64 (IntKind.wrap .i64 (s7 + 1))), (101, .int .i64 s7)] ?_
    refine OJ.nil ?_
    refine SJ.sr 3 ?_
    refine OJ.go 3 [(13, .int .i64 (IntKind.wrap .i64 (s15 - 1))), (104, .int .i64 (IntKind.wrap .i64 (s15 - 1))), (103, .int .i64 s15)] ?_
    refine OJ.nil ?_
    refine SJ.seq ?_
    refine SJ.block (id := 4) ?_
    exact SJ.loop (fun s_ : (Int × Int) => [(0, Sl.v a0), (1, .int .i64 a1), (4, a4v.v), (12, .int .i64 s_.1), (13, .int .i64 s_.2)]) (fun s_ : (Int × Int) => []) [0, 1, 4, 12, 13] rfl (fun _ _ => rfl) (fun s_ => slices_partitionCmpFunc_api_Route.L1_ok a0 a1 a4v a4 h_a4 s_.1 s_.2)
noncomputable def slices_partitionCmpFunc_api_Route.F4 (a0 : Sl) (a1 : Int) (a4v : Any) (s7 : Int) : (LS Int (Int × Bool)) → Reach := loopF [.inLoop (c1 (c1 (c1 (c2 (c2 (c2 (c2 slices_partitionCmpFunc_api_Route.B))))))), .inBlock 2, .code (c2 (c2 (c2 (c2 (c2 slices_partitionCmpFunc_api_Route.B)))))] (fun s_ : Int => [(0, Sl.v a0), (1, .int .i64 a1), (4, a4v.v), (12, .int .i64 s7), (13, .int .i64 s_)]) (fun s_ : Int => []) slices_partitionCmpFunc_api_Route.F0
noncomputable def slices_partitionCmpFunc_api_Route.L4 (a0 : Sl) (a1 : Int) (a4 : api_Route → api_Route → M Int) (s7 : Int) (s15 : Int) : M (LS Int (Int × Bool)) :=
  draw >>= fun _ =>
  (if s7 ≤ s15 then
      idx a0.a a0.len s15 36 >>= fun p125 =>
      ld c_api_Route p125 >>= fun x126 =>
      idx a0.a a0.len a1 36 >>= fun p127 =>
      ld c_api_Route p127 >>= fun x128 =>
      a4 x126 x128 >>= fun r129 =>
      pure (!(decide (r129 < 0)))
    else
      pure false) >>= fun y130 =>
  if y130 = true then
    pure (LS.next (IntKind.wrap .i64 (s15 - 1)))
  else
    (slices_partitionCmpFunc_api_Route.K4 a0 a1 a4 s7 s15) >>= fun b => pure (LS.done b)
theorem slices_partitionCmpFunc_api_Route.L4_ok (a0 : Sl) (a1 : Int) (a4v : Any) (a4 : api_Route → api_Route → M Int) (h_a4 : ∀ (x0_ : api_Route), ∀ (x1_ : api_Route), RefV Tryd.prog a4v.v [c_api_Route.val x0_, c_api_Route.val x1_] (a4 x0_ x1_) (fun r_ : Int => .int .i64 r_)) (s7 : Int) (s15 : Int) :
    SJ slices_partitionCmpFunc_api_Route.cx [.code (c1 (c1 (c1 (c2 (c2 (c2 (c2 slices_partitionCmpFunc_api_Route.B))))))), .inLoop (c1 (c1 (c1 (c2 (c2 (c2 (c2 slices_partitionCmpFunc_api_Route.B))))))), .inBlock 2, .code (c2 (c2 (c2 (c2 (c2 slices_partitionCmpFunc_api_Route.B)))))] [(0, Sl.v a0), (1, .int .i64 a1), (4, a4v.v), (12, .int .i64 s7), (13, .int .i64 s15)] [] (slices_partitionCmpFunc_api_Route.L4 a0 a1 a4 s7 s15) (slices_partitionCmpFunc_api_Route.F4 a0 a1 a4v s7) := by
  unfold slices_partitionCmpFunc_api_Route.L4
  refine SJ.seq ?_
  refine SJ.seq ?_
  refine SJ.draw (id := 5) (kd := [0, 0, 0, 0, 0, 0, 0, 0, 1, 0, 0, 0, 1, 2, 0, 0, 0]) (bef := [0, 0, 3, 7, 15, 15, 15, 111, 239, 15, 15, 1551, 3599, 8191, 16383, 32767, 65535]) (ord := [0, 1, 2, 3, 4, 5, 6, 7, 8, 9, 10, 11, 12, 13, 14, 15, 16]) mixed ?_
  refine OJ.go 4 [(53, .bool (decide (s7 ≤ s15))), (52, .bool (decide (s7 ≤ s15))), (51, .int .i64 s15), (50, .int .i64 s7)] ?_
  refine OJ.join (b := decide (s7 ≤ s15)) [4, 5, 6, 7, 8, 9, 10, 11, 12, 13, 14, 15, 16] [] [0, 1, 4, 12, 13, 66] (fun y130 => [(0, Sl.v a0), (1, .int .i64 a1), (4, a4v.v), (12, .int .i64 s7), (13, .int .i64 s15), (66, .bool y130)]) [] [8, 12] (t := 53) decide_eq_true_iff (fun hp_ => ?_) (fun hp_ => ?_) (fun _ _ _ _ _ _ h_ => h_) (fun y130 => ?_)
  · refine OJ.go 3 [(56, .int .i64 s15), (55, Sl.v a0), (54, a4v.v)] ?_
    refine OJ.idxS (d := 57) (T := 39) (y := .tmp 55) (j := .tmp 56) (E := 32) (cap := a0.cap) (k := .i64) (fun p125 => ?_)
    refine OJ.ld (d := 58) (y := .tmp 57) (pend2 := fun x126 => [⟨8, 32, p125, c_api_Route.val x126⟩]) Ty32 (fun _ => rfl) (fun x126 => ?_)
    refine OJ.go 2 [(60, .int .i64 a1), (59, Sl.v a0)] ?_
    refine OJ.idxS (d := 61) (T := 39) (y := .tmp 59) (j := .tmp 60) (E := 32) (cap := a0.cap) (k := .i64) (fun p127 => ?_)
    refine OJ.ld (d := 62) (y := .tmp 61) (pend2 := fun x128 => [⟨12, 32, p127, c_api_Route.val x128⟩, ⟨8, 32, p125, c_api_Route.val x126⟩]) Ty32 (fun _ => rfl) (fun x128 => ?_)
    refine OJ.callV1 (d := 63) (ats := #[32, 32]) (args := [.tmp 58, .tmp 62]) (fo := .tmp 54) (vals := [c_api_Route.val x126, c_api_Route.val x128]) (owed := []) (h_a4 x126 x128) (fun r129 => ?_)
    refine OW.nil ?_
    refine OJ.go 3 [(66, .bool (!(decide (r129 < 0)))), (65, .bool (!(decide (r129 < 0)))), (64, .bool (decide (r129 < 0)))] ?_
    exact OJ.nil ⟨(Cov.mem (Cov.drop (List.mem_of_getElem? (i := 1) rfl) (Cov.drop (List.mem_of_getElem? (i := 0) rfl) Cov.nil))), rfl, _, rfl, by kernel_rfl⟩
  · refine OJ.go 13 [(66, .bool false), (65, undef), (64, undef), (63, undef), (62, undef), (61, undef), (60, undef), (59, undef), (58, undef), (57, undef), (56, undef), (55, undef), (54, undef)] ?_
    exact OJ.nil ⟨(Cov.mem Cov.nil), rfl, _, rfl, by kernel_rfl⟩
  · refine OJ.nil ?_
    refine SJ.cond (t := (.tmp 66)) (b := y130) Iff.rfl (fun hc131 => ?_) (fun hc131 => ?_)
    · refine SJ.skip ?_
      refine SJ.block (id := 3) ?_
      refine SJ.rg 3 ?_
      refine OJ.go 3 [(13, .int .i64 (IntKind.wrap .i64 (s15 - 1))), (68, .int .i64 (IntKind.wrap .i64 (s15 - 1))), (67, .int .i64 s15)] ?_
      refine OJ.nil ?_
      refine SJ.inBlock ?_
      exact SJ.at_ [0, 1, 4, 12, 13] rfl
    · refine SJ.exit (id := 2) (by rfl) ?_
      refine SJ.less [0, 1, 4, 12, 13] (m' := [(0, Sl.v a0), (1, .int .i64 a1), (4, a4v.v), (12, .int .i64 s7), (13, .int .i64 s15)]) ?_
      refine SJ.done ?_
      exact slices_partitionCmpFunc_api_Route.K4_ok a0 a1 a4v a4 h_a4 s7 s15
noncomputable def slices_partitionCmpFunc_api_Route.K5 (a0 : Sl) (a1 : Int) (a2 : Int) (a4 : api_Route → api_Route → M Int) (s7 : Int) : M (Int × Bool) :=
  loopM (fun s_ : Int => slices_partitionCmpFunc_api_Route.L4 a0 a1 a4 s7 s_) (IntKind.wrap .i64 (a2 - 1))
theorem slices_partitionCmpFunc_api_Route.K5_ok (a0 : Sl) (a1 : Int) (a2 : Int) (a4v : Any) (a4 : api_Route → api_Route → M Int) (h_a4 : ∀ (x0_ : api_Route), ∀ (x1_ : api_Route), RefV Tryd.prog a4v.v [c_api_Route.val x0_, c_api_Route.val x1_] (a4 x0_ x1_) (fun r_ : Int => .int .i64 r_)) (s7 : Int) :
    SJ slices_partitionCmpFunc_api_Route.cx [.code (c2 (c2 (c2 (c2 slices_partitionCmpFunc_api_Route.B))))] [(0, Sl.v a0), (1, .int .i64 a1), (4, a4v.v), (12, .int .i64 s7), (13, .int .i64 (IntKind.wrap .i64 (a2 - 1)))] [] (slices_partitionCmpFunc_api_Route.K5 a0 a1 a2 a4 s7) slices_partitionCmpFunc_api_Route.F0 := by
  unfold slices_partitionCmpFunc_api_Route.K5
  refine SJ.seq ?_
  refine SJ.block (id := 2) ?_
  exact SJ.loop (fun s_ : Int => [(0, Sl.v a0), (1, .int .i64 a1), (4, a4v.v), (12, .int .i64 s7), (13, .int .i64 s_)]) (fun s_ : Int => []) [0, 1, 4, 12, 13] rfl (fun _ _ => rfl) (fun s_ => slices_partitionCmpFunc_api_Route.L4_ok a0 a1 a4v a4 h_a4 s7 s_)
noncomputable def slices_partitionCmpFunc_api_Route.F5 (a0 : Sl) (a1 : Int) (a2 : Int) (a4v : Any) : (LS Int (Int × Bool)) → Reach := loopF [.inLoop (c1 (c1 (c1 (c2 (c2 (c2 slices_partitionCmpFunc_api_Route.B)))))), .inBlock 0, .code (c2 (c2 (c2 (c2 slices_partitionCmpFunc_api_Route.B))))] (fun s_ : Int => [(0, Sl.v a0), (1, .int .i64 a1), (4, a4v.v), (12, .int .i64 s_), (13, .int .i64 (IntKind.wrap .i64 (a2 - 1)))]) (fun s_ : Int => []) slices_partitionCmpFunc_api_Route.F0
noncomputable def slices_partitionCmpFunc_api_Route.L5 (a0 : Sl) (a1 : Int) (a2 : Int) (a4 : api_Route → api_Route → M Int) (s7 : Int) : M (LS Int (Int × Bool)) :=
  draw >>= fun _ =>
  (if s7 ≤ (IntKind.wrap .i64 (a2 - 1)) then
      idx a0.a a0.len s7 36 >>= fun p132 =>
      ld c_api_Route p132 >>= fun x133 =>
      idx a0.a a0.len a1 36 >>= fun p134 =>
      ld c_api_Route p134 >>= fun x135 =>
      a4 x133 x135 >>= fun r136 =>
      pure (decide (r136 < 0))
    else
      pure false) >>= fun y137 =>
  if y137 = true then
    pure (LS.next (IntKind.wrap .i64 (s7 + 1)))
  else
    (slices_partitionCmpFunc_api_Route.K5 a0 a1 a2 a4 s7) >>= fun b => pure (LS.done b)
theorem slices_partitionCmpFunc_api_Route.L5_ok (a0 : Sl) (a1 : Int) (a2 : Int) (a4v : Any) (a4 : api_Route → api_Route → M Int) (h_a4 : ∀ (x0_ : api_Route), ∀ (x1_ : api_Route), RefV Tryd.prog a4v.v [c_api_Route.val x0_, c_api_Route.val x1_] (a4 x0_ x1_) (fun r_ : Int => .int .i64 r_)) (s7 : Int) :
    SJ slices_partitionCmpFunc_api_Route.cx [.code (c1 (c1 (c1 (c2 (c2 (c2 slices_partitionCmpFunc_api_Route.B)))))), .inLoop (c1 (c1 (c1 (c2 (c2 (c2 slices_partitionCmpFunc_api_Route.B)))))), .inBlock 0, .code (c2 (c2 (c2 (c2 slices_partitionCmpFunc_api_Route.B))))] [(0, Sl.v a0), (1, .int .i64 a1), (4, a4v.v), (12, .int .i64 s7), (13, .int .i64 (IntKind.wrap .i64 (a2 - 1)))] [] (slices_partitionCmpFunc_api_Route.L5 a0 a1 a2 a4 s7) (slices_partitionCmpFunc_api_Route.F5 a0 a1 a2 a4v) := by
  unfold slices_partitionCmpFunc_api_Route.L5
  refine SJ.seq ?_
  refine SJ.seq ?_
  refine SJ.draw (id := 3) (kd := [0, 0, 0, 0, 0, 0, 0, 0, 1, 0, 0, 0, 1, 2, 0, 0]) (bef := [0, 0, 3, 7, 15, 15, 15, 111, 239, 15, 15, 1551, 3599, 8191, 16383, 32767]) (ord := [0, 1, 2, 3, 4, 5, 6, 7, 8, 9, 10, 11, 12, 13, 14, 15]) mixed ?_
  refine OJ.go 4 [(35, .bool (decide (s7 ≤ (IntKind.wrap .i64 (a2 - 1))))), (34, .bool (decide (s7 ≤ (IntKind.wrap .i64 (a2 - 1))))), (33, .int .i64 (IntKind.wrap .i64 (a2 - 1))), (32, .int .i64 s7)] ?_
  refine OJ.join (b := decide (s7 ≤ (IntKind.wrap .i64 (a2 - 1)))) [4, 5, 6, 7, 8, 9, 10, 11, 12, 13, 14, 15] [] [0, 1, 4, 12, 13, 47] (fun y137 => [(0, Sl.v a0), (1, .int .i64 a1), (4, a4v.v), (12, .int .i64 s7), (13, .int .i64 (IntKind.wrap .i64 (a2 - 1))), (47, .bool y137)]) [] [8, 12] (t := 35) decide_eq_true_iff (fun hp_ => ?_) (fun hp_ => ?_) (fun _ _ _ _ _ _ h_ => h_) (fun y137 => ?_)
  · refine OJ.go 3 [(38, .int .i64 s7), (37, Sl.v a0), (36, a4v.v)] ?_
    refine OJ.idxS (d := 39) (T := 39) (y := .tmp 37) (j := .tmp 38) (E := 32) (cap := a0.cap) (k := .i64) (fun p132 => ?_)
    refine OJ.ld (d := 40) (y := .tmp 39) (pend2 := fun x133 => [⟨8, 32, p132, c_api_Route.val x133⟩]) Ty32 (fun _ => rfl) (fun x133 => ?_)
    refine OJ.go 2 [(42, .int .i64 a1), (41, Sl.v a0)] ?_
    refine OJ.idxS (d := 43) (T := 39) (y := .tmp 41) (j := .tmp 42) (E := 32) (cap := a0.cap) (k := .i64) (fun p134 => ?_)
    refine OJ.ld (d := 44) (y := .tmp 43) (pend2 := fun x135 => [⟨12, 32, p134, c_api_Route.val x135⟩, ⟨8, 32, p132, c_api_Route.val x133⟩]) Ty32 (fun _ => rfl) (fun x135 => ?_)
    refine OJ.callV1 (d := 45) (ats := #[32, 32]) (args := [.tmp 40, .tmp 44]) (fo := .tmp 36) (vals := [c_api_Route.val x133, c_api_Route.val x135]) (owed := []) (h_a4 x133 x135) (fun r136 => ?_)
    refine OW.nil ?_
    refine OJ.go 2 [(47, .bool (decide (r136 < 0))), (46, .bool (decide (r136 < 0)))] ?_
    exact OJ.nil ⟨(Cov.mem (Cov.drop (List.mem_of_getElem? (i := 1) rfl) (Cov.drop (List.mem_of_getElem? (i := 0) rfl) Cov.nil))), rfl, _, rfl, by kernel_rfl⟩
  · refine OJ.go 12 [(47, .bool false), (46, undef), (45, undef), (44, undef), (43, undef), (42, undef), (41, undef), (40, undef), (39, undef), (38, undef), (37, undef), (36, undef)] ?_
    exact OJ.nil ⟨(Cov.mem Cov.nil), rfl, _, rfl, by kernel_rfl⟩
  · refine OJ.nil ?_
    refine SJ.cond (t := (.tmp 47)) (b := y137) Iff.rfl (fun hc138 => ?_) (fun hc138 => ?_)
    · refine SJ.skip ?_
      refine SJ.block (id := 1) ?_
      refine SJ.rg 3 ?_
      refine OJ.go 3 [(12, .int .i64 (IntKind.wrap .i64 (s7 + 1))), (49, .int .i64 (IntKind.wrap .i64 (s7 + 1))), (48, .int .i64 s7)] ?_
      refine OJ.nil ?_
      refine SJ.inBlock ?_
      exact SJ.at_ [0, 1, 4, 12, 13] rfl
    · refine SJ.exit (id := 0) (by rfl) ?_
      refine SJ.less [0, 1, 4, 12, 13] (m' := [(0, Sl.v a0), (1, .int .i64 a1), (4, a4v.v), (12, .int .i64 s7), (13, .int .i64 (IntKind.wrap .i64 (a2 - 1)))]) ?_
      refine SJ.done ?_
      exact slices_partitionCmpFunc_api_Route.K5_ok a0 a1 a2 a4v a4 h_a4 s7
noncomputable def slices_partitionCmpFunc_api_Route (a0 : Sl) (a1 : Int) (a2 : Int) (a3 : Int) (a4 : api_Route → api_Route → M Int) : M (Int × Bool) :=
  draw >>= fun _ =>
  idx a0.a a0.len a3 36 >>= fun p1 =>
  ld c_api_Route p1 >>= fun x2 =>
  idx a0.a a0.len a1 36 >>= fun p3 =>
  ld c_api_Route p3 >>= fun x4 =>
  idx a0.a a0.len a1 36 >>= fun p5 =>
  st c_api_Route p5 x2 >>= fun _ =>
  idx a0.a a0.len a3 36 >>= fun p6 =>
  st c_api_Route p6 x4 >>= fun _ =>
  loopM (fun s_ : Int => slices_partitionCmpFunc_api_Route.L5 a0 a1 a2 a4 s_) (IntKind.wrap .i64 (a1 + 1))
theorem slices_partitionCmpFunc_api_Route_ok (a0 : Sl) (a1 : Int) (a2 : Int) (a3 : Int) (a4v : Any) (a4 : api_Route → api_Route → M Int) (h_a4 : ∀ (x0_ : api_Route), ∀ (x1_ : api_Route), RefV Tryd.prog a4v.v [c_api_Route.val x0_, c_api_Route.val x1_] (a4 x0_ x1_) (fun r_ : Int => .int .i64 r_)) : Ref Tryd.prog 77 [Sl.v a0, .int .i64 a1, .int .i64 a2, .int .i64 a3, a4v.v] (slices_partitionCmpFunc_api_Route a0 a1 a2 a3 a4) slices_partitionCmpFunc_api_Route.out := by
  refine Ref.of (cd := slices_partitionCmpFunc_api_Route.B) Tryd.func77 ?_
  show SJ slices_partitionCmpFunc_api_Route.cx [.code slices_partitionCmpFunc_api_Route.B] [(0, Sl.v a0), (1, .int .i64 a1), (2, .int .i64 a2), (3, .int .i64 a3), (4, a4v.v)] [] (slices_partitionCmpFunc_api_Route a0 a1 a2 a3 a4) slices_partitionCmpFunc_api_Route.F0
  unfold slices_partitionCmpFunc_api_Route
  refine SJ.sr 2 ?_
  refine OJ.go 2 [(11, .bool false), (10, .int .i64 0)] ?_
  refine OJ.nil ?_
  refine SJ.seq ?_
  refine SJ.draw (id := 1) (kd := [0, 0, 0, 0, 0, 0, 0, 1, 0, 0, 0, 1, 0, 2, 0, 2]) (bef := [0, 0, 0, 0, 0, 0, 48, 112, 0, 0, 768, 1792, 4083, 8179, 16383, 32767]) (ord := [0, 1, 2, 3, 4, 5, 6, 7, 8, 9, 10, 11, 12, 13, 14, 15]) mixed ?_
  refine OJ.go 6 [(19, .int .i64 a3), (18, Sl.v a0), (17, .int .i64 a3), (16, Sl.v a0), (15, .int .i64 a1), (14, Sl.v a0)] ?_
  refine OJ.idxS (d := 20) (T := 39) (y := .tmp 18) (j := .tmp 19) (E := 32) (cap := a0.cap) (k := .i64) (fun p1 => ?_)
  refine OJ.ld (d := 21) (y := .tmp 20) (pend2 := fun x2 => [⟨7, 32, p1, c_api_Route.val x2⟩]) Ty32 (fun _ => rfl) (fun x2 => ?_)
  refine OJ.go 2 [(23, .int .i64 a1), (22, Sl.v a0)] ?_
  refine OJ.idxS (d := 24) (T := 39) (y := .tmp 22) (j := .tmp 23) (E := 32) (cap := a0.cap) (k := .i64) (fun p3 => ?_)
  refine OJ.ld (d := 25) (y := .tmp 24) (pend2 := fun x4 => [⟨11, 32, p3, c_api_Route.val x4⟩, ⟨7, 32, p1, c_api_Route.val x2⟩]) Ty32 (fun _ => rfl) (fun x4 => ?_)
  refine OJ.idxS (d := 26) (T := 39) (y := .tmp 14) (j := .tmp 15) (E := 32) (cap := a0.cap) (k := .i64) (fun p5 => ?_)
  refine OJ.st (y := .tmp 26) (z := .tmp 21) (owed := []) Ty32 ?_
  refine OW.nil ?_
  refine OJ.idxS (d := 27) (T := 39) (y := .tmp 16) (j := .tmp 17) (E := 32) (cap := a0.cap) (k := .i64) (fun p6 => ?_)
  refine OJ.st (y := .tmp 27) (z := .tmp 25) (owed := []) Ty32 ?_
  refine OW.nil ?_
  refine OJ.nil ?_
  refine SJ.sr 6 ?_
  refine OJ.go 6 [(13, .int .i64 (IntKind.wrap .i64 (a2 - 1))), (12, .int .i64 (IntKind.wrap .i64 (a1 + 1))), (31, .int .i64 (IntKind.wrap .i64 (a2 - 1))), (30, .int .i64 a2), (29, .int .i64 (IntKind.wrap .i64 (a1 + 1))), (28, .int .i64 a1)] ?_
  refine OJ.nil ?_
  refine SJ.seq ?_
  refine SJ.block (id := 0) ?_
  exact SJ.loop (fun s_ : Int => [(0, Sl.v a0), (1, .int .i64 a1), (4, a4v.v), (12, .int .i64 s_), (13, .int .i64 (IntKind.wrap .i64 (a2 - 1)))]) (fun s_ : Int => []) [0, 1, 4, 12, 13] rfl (fun _ _ => rfl) (fun s_ => slices_partitionCmpFunc_api_Route.L5_ok a0 a1 a2 a4v a4 h_a4 s_)

/-! ### slices.pdqsortCmpFunc[weir/api.Route]: function 65 -/
noncomputable def slices_pdqsortCmpFunc_api_Route.B : Code := (Tryd.f65.body).getD .skip
noncomputable def slices_pdqsortCmpFunc_api_Route.cx : Fx := ⟨Tryd.prog, 65, Tryd.f65, none⟩
noncomputable def slices_pdqsortCmpFunc_api_Route.out (r_ : Unit) : Value := .tuple #[]
noncomputable def slices_pdqsortCmpFunc_api_Route.F0 (r_ : Unit) : Reach := .ret (slices_pdqsortCmpFunc_api_Route.out r_)
noncomputable def slices_pdqsortCmpFunc_api_Route.F1 (a0 : Sl) (a4v : Any) : (LS (Int × Int × Int × Bool × Bool) Unit) → Reach := loopF [.inLoop (c1 (c1 (c2 (c2 slices_pdqsortCmpFunc_api_Route.B)))), .inBlock 0] (fun s_ : (Int × Int × Int × Bool × Bool) => [(0, Sl.v a0), (1, .int .i64 s_.1), (2, .int .i64 s_.2.1), (3, .int .i64 s_.2.2.1), (4, a4v.v), (10, .bool s_.2.2.2.1), (11, .bool s_.2.2.2.2)]) (fun s_ : (Int × Int × Int × Bool × Bool) => []) slices_pdqsortCmpFunc_api_Route.F0
noncomputable def slices_pdqsortCmpFunc_api_Route.K1 (a0 : Sl) (a4 : api_Route → api_Route → M Int) (rec_ : Sl → Int → Int → Int → M Unit) (s1 : Int) (s2 : Int) (s4 : Bool) (s5 : Bool) (j11 : Int) (j14 : Int) : M (LS (Int × Int × Int × Bool × Bool) Unit) :=
  draw >>= fun _ =>
  (if s1 > 0 then
      idx a0.a a0.len (IntKind.wrap .i64 (s1 - 1)) 36 >>= fun p20 =>
      ld c_api_Route p20 >>= fun x21 =>
      idx a0.a a0.len j14 36 >>= fun p22 =>
      ld c_api_Route p22 >>= fun x23 =>
      a4 x21 x23 >>= fun r24 =>
      pure (!(decide (r24 < 0)))
    else
      pure false) >>= fun y25 =>
  if y25 = true then
    slices_partitionEqualCmpFunc_api_Route a0 s1 s2 j14 a4 >>= fun r27 =>
    pure (LS.next (r27, s2, j11, s4, s5))
  else
    slices_partitionCmpFunc_api_Route a0 s1 s2 j14 a4 >>= fun r28 =>
    if (IntKind.wrap .i64 (r28.1 - s1)) < (IntKind.wrap .i64 (s2 - r28.1)) then
      rec_ a0 s1 r28.1 j11 >>= fun r31 =>
      pure (LS.next (IntKind.wrap .i64 (r28.1 + 1), s2, j11, decide ((IntKind.wrap .i64 (r28.1 - s1)) ≥ (IntKind.wrap .i64 (Int.tdiv (IntKind.wrap .i64 (s2 - s1)) 8))), r28.2))
    else
      rec_ a0 (IntKind.wrap .i64 (r28.1 + 1)) s2 j11 >>= fun r32 =>
      pure (LS.next (s1, r28.1, j11, decide ((IntKind.wrap .i64 (s2 - r28.1)) ≥ (IntKind.wrap .i64 (Int.tdiv (IntKind.wrap .i64 (s2 - s1)) 8))), r28.2))
theorem slices_pdqsortCmpFunc_api_Route.K1_ok (a0 : Sl) (a4v : Any) (a4 : api_Route → api_Route → M Int) (h_a4 : ∀ (x0_ : api_Route), ∀ (x1_ : api_Route), RefV Tryd.prog a4v.v [c_api_Route.val x0_, c_api_Route.val x1_] (a4 x0_ x1_) (fun r_ : Int => .int .i64 r_)) (rec_ : Sl → Int → Int → Int → M Unit) (h_rec_ : ∀ (x0_ : Sl) (x1_ : Int) (x2_ : Int) (x3_ : Int), Ref Tryd.prog 65 [Sl.v x0_, .int .i64 x1_, .int .i64 x2_, .int .i64 x3_, a4v.v] (rec_ x0_ x1_ x2_ x3_) slices_pdqsortCmpFunc_api_Route.out) (s1 : Int) (s2 : Int) (s4 : Bool) (s5 : Bool) (j11 : Int) (j14 : Int) :
    SJ slices_pdqsortCmpFunc_api_Route.cx [.code (c2 (c2 (c2 (c2 (c2 (c2 (c2 (c1 (c1 (c1 (c2 (c2 slices_pdqsortCmpFunc_api_Route.B)))))))))))), .inBlock 1, .inLoop (c1 (c1 (c2 (c2 slices_pdqsortCmpFunc_api_Route.B)))), .inBlock 0] [(0, Sl.v a0), (1, .int .i64 s1), (2, .int .i64 s2), (3, .int .i64 j11), (4, a4v.v), (10, .bool s4), (11, .bool s5), (12, .int .i64 (IntKind.wrap .i64 (s2 - s1))), (13, .int .i64 j14)] [] (slices_pdqsortCmpFunc_api_Route.K1 a0 a4 rec_ s1 s2 s4 s5 j11 j14) (slices_pdqsortCmpFunc_api_Route.F1 a0 a4v) := by
  unfold slices_pdqsortCmpFunc_api_Route.K1
  refine SJ.seq ?_
  refine SJ.seq ?_
  refine SJ.draw (id := 17) (kd := [0, 0, 0, 0, 0, 0, 0, 0, 1, 0, 0, 0, 1, 2, 0, 0, 0]) (bef := [0, 1, 3, 7, 7, 7, 39, 119, 247, 7, 7, 1543, 3591, 8191, 16383, 32767, 65535]) (ord := [0, 1, 2, 3, 4, 5, 6, 7, 8, 9, 10, 11, 12, 13, 14, 15, 16]) mixed ?_
  refine OJ.go 3 [(83, .bool (decide (s1 > 0))), (82, .bool (decide (s1 > 0))), (81, .int .i64 s1)] ?_
  refine OJ.join (b := decide (s1 > 0)) [3, 4, 5, 6, 7, 8, 9, 10, 11, 12, 13, 14, 15, 16] [] [0, 1, 2, 3, 4, 10, 11, 12, 13, 97] (fun y25 => [(0, Sl.v a0), (1, .int .i64 s1), (2, .int .i64 s2), (3, .int .i64 j11), (4, a4v.v), (10, .bool s4), (11, .bool s5), (12, .int .i64 (IntKind.wrap .i64 (s2 - s1))), (13, .int .i64 j14), (97, .bool y25)]) [] [8, 12] (t := 83) decide_eq_true_iff (fun hp_ => ?_) (fun hp_ => ?_) (fun _ _ _ _ _ _ h_ => h_) (fun y25 => ?_)
  · refine OJ.go 4 [(87, .int .i64 (IntKind.wrap .i64 (s1 - 1))), (86, .int .i64 s1), (85, Sl.v a0), (84, a4v.v)] ?_
    refine OJ.idxS (d := 88) (T := 39) (y := .tmp 85) (j := .tmp 87) (E := 32) (cap := a0.cap) (k := .i64) (fun p20 => ?_)
    refine OJ.ld (d := 89) (y := .tmp 88) (pend2 := fun x21 => [⟨8, 32, p20, c_api_Route.val x21⟩]) Ty32 (fun _ => rfl) (fun x21 => ?_)
    refine OJ.go 2 [(91, .int .i64 j14), (90, Sl.v a0)] ?_
    refine OJ.idxS (d := 92) (T := 39) (y := .tmp 90) (j := .tmp 91) (E := 32) (cap := a0.cap) (k := .i64) (fun p22 => ?_)
    refine OJ.ld (d := 93) (y := .tmp 92) (pend2 := fun x23 => [⟨12, 32, p22, c_api_Route.val x23⟩, ⟨8, 32, p20, c_api_Route.val x21⟩]) Ty32 (fun _ => rfl) (fun x23 => ?_)
    refine OJ.callV1 (d := 94) (ats := #[32, 32]) (args := [.tmp 89, .tmp 93]) (fo := .tmp 84) (vals := [c_api_Route.val x21, c_api_Route.val x23]) (owed := []) (h_a4 x21 x23) (fun r24 => ?_)
    refine OW.nil ?_
    refine OJ.go 3 [(97, .bool (!(decide (r24 < 0)))), (96, .bool (!(decide (r24 < 0)))), (95, .bool (decide (r24 < 0)))] ?_
    exact OJ.nil ⟨(Cov.mem (Cov.drop (List.mem_of_getElem? (i := 1) rfl) (Cov.drop (List.mem_of_getElem? (i := 0) rfl) Cov.nil))), rfl, _, rfl, by kernel_rfl⟩
  · refine OJ.go 14 [(97, .bool false), (96, undef), (95, undef), (94, undef), (93, undef), (92, undef), (91, undef), (90, undef), (89, undef), (88, undef), (87, undef), (86, undef), (85, undef), (84, undef)] ?_
    exact OJ.nil ⟨(Cov.mem Cov.nil), rfl, _, rfl, by kernel_rfl⟩
  · refine OJ.nil ?_
    refine SJ.cond (t := (.tmp 97)) (b := y25) Iff.rfl (fun hc34 => ?_) (fun hc34 => ?_)
    · refine SJ.sr 7 ?_
      refine OJ.go 5 [(102, a4v.v), (101, .int .i64 j14), (100, .int .i64 s2), (99, .int .i64 s1), (98, Sl.v a0)] ?_
      refine OJ.call (d := 103) (g := 76) (ats := #[39, 3, 3, 3, 97]) (args := [.tmp 98, .tmp 99, .tmp 100, .tmp 101, .tmp 102]) (owed := []) F76 (slices_partitionEqualCmpFunc_api_Route_ok a0 s1 s2 j14 a4v a4 h_a4) (fun r27 => ?_)
      refine OW.nil ?_
      refine OJ.go 1 [(15, .int .i64 r27)] ?_
      refine OJ.nil ?_
      refine SJ.sr 2 ?_
      refine OJ.go 2 [(1, .int .i64 r27), (104, .int .i64 r27)] ?_
      refine OJ.nil ?_
      refine SJ.exit (id := 1) (by rfl) ?_
      exact SJ.at_ [0, 1, 2, 3, 4, 10, 11] rfl
    · refine SJ.skip ?_
      refine SJ.sr 11 ?_
      refine OJ.go 5 [(110, a4v.v), (109, .int .i64 j14), (108, .int .i64 s2), (107, .int .i64 s1), (106, Sl.v a0)] ?_
      refine OJ.call (d := 111) (g := 77) (ats := #[39, 3, 3, 3, 97]) (args := [.tmp 106, .tmp 107, .tmp 108, .tmp 109, .tmp 110]) (owed := []) F77 (slices_partitionCmpFunc_api_Route_ok a0 s1 s2 j14 a4v a4 h_a4) (fun r28 => ?_)
      refine OW.nil ?_
      refine OJ.go 5 [(17, .bool r28.2), (16, .int .i64 r28.1), (113, .bool r28.2), (112, .int .i64 r28.1), (105, .tuple #[.int .i64 r28.1, .bool r28.2])] ?_
      refine OJ.nil ?_
      refine SJ.sr 2 ?_
      refine OJ.go 2 [(11, .bool r28.2), (114, .bool r28.2)] ?_
      refine OJ.nil ?_
      refine SJ.sr 8 ?_
      refine OJ.go 8 [(19, .int .i64 (IntKind.wrap .i64 (s2 - r28.1))), (18, .int .i64 (IntKind.wrap .i64 (r28.1 - s1))), (120, .int .i64 (IntKind.wrap .i64 (s2 - r28.1))), (119, .int .i64 r28.1), (118, .int .i64 s2), (117, .int .i64 (IntKind.wrap .i64 (r28.1 - s1))), (116, .int .i64 s1), (115, .int .i64 r28.1)] ?_
      refine OJ.nil ?_
      refine SJ.sr 3 ?_
      refine OJ.go 3 [(20, .int .i64 (IntKind.wrap .i64 (Int.tdiv (IntKind.wrap .i64 (s2 - s1)) 8))), (122, .int .i64 (IntKind.wrap .i64 (Int.tdiv (IntKind.wrap .i64 (s2 - s1)) 8))), (121, .int .i64 (IntKind.wrap .i64 (s2 - s1)))] ?_
      refine OJ.nil ?_
      refine SJ.sr 3 ?_
      refine OJ.go 3 [(125, .bool (decide ((IntKind.wrap .i64 (r28.1 - s1)) < (IntKind.wrap .i64 (s2 - r28.1))))), (124, .int .i64 (IntKind.wrap .i64 (s2 - r28.1))), (123, .int .i64 (IntKind.wrap .i64 (r28.1 - s1)))] ?_
      refine OJ.nil ?_
      refine SJ.cond (t := (.tmp 125)) (b := decide ((IntKind.wrap .i64 (r28.1 - s1)) < (IntKind.wrap .i64 (s2 - r28.1)))) decide_eq_true_iff (fun hc33 => ?_) (fun hc33 => ?_)
      · refine SJ.sr 4 ?_
        refine OJ.go 4 [(10, .bool (decide ((IntKind.wrap .i64 (r28.1 - s1)) ≥ (IntKind.wrap .i64 (Int.tdiv (IntKind.wrap .i64 (s2 - s1)) 8))))), (128, .bool (decide ((IntKind.wrap .i64 (r28.1 - s1)) ≥ (IntKind.wrap .i64 (Int.tdiv (IntKind.wrap .i64 (s2 - s1)) 8))))), (127, .int .i64 (IntKind.wrap .i64 (Int.tdiv (IntKind.wrap .i64 (s2 - s1)) 8))), (126, .int .i64 (IntKind.wrap .i64 (r28.1 - s1)))] ?_
        refine OJ.nil ?_
        refine SJ.sr 6 ?_
        refine OJ.go 5 [(133, a4v.v), (132, .int .i64 j11), (131, .int .i64 r28.1), (130, .int .i64 s1), (129, Sl.v a0)] ?_
        refine OJ.call (d := 134) (g := 65) (ats := #[39, 3, 3, 3, 97]) (args := [.tmp 129, .tmp 130, .tmp 131, .tmp 132, .tmp 133]) (owed := []) F65 (h_rec_ a0 s1 r28.1 j11) (fun r31 => ?_)
        refine OW.nil ?_
        refine OJ.nil ?_
        refine SJ.rg 3 ?_
        refine OJ.go 3 [(1, .int .i64 (IntKind.wrap .i64 (r28.1 + 1))), (136, .int .i64 (IntKind.wrap .i64 (r28.1 + 1))), (135, .int .i64 r28.1)] ?_
        refine OJ.nil ?_
        refine SJ.inBlock ?_
        exact SJ.at_ [0, 1, 2, 3, 4, 10, 11] rfl
      · refine SJ.sr 4 ?_
        refine OJ.go 4 [(10, .bool (decide ((IntKind.wrap .i64 (s2 - r28.1)) ≥ (IntKind.wrap .i64 (Int.tdiv (IntKind.wrap .i64 (s2 - s1)) 8))))), (139, .bool (decide ((IntKind.wrap .i64 (s2 - r28.1)) ≥ (IntKind.wrap .i64 (Int.tdiv (IntKind.wrap .i64 (s2 - s1)) 8))))), (138, .int .i64 (IntKind.wrap .i64 (Int.tdiv (IntKind.wrap .i64 (s2 - s1)) 8))), (137, .int .i64 (IntKind.wrap .i64 (s2 - r28.1)))] ?_
        refine OJ.nil ?_
        refine SJ.sr 7 ?_
        refine OJ.go 6 [(145, a4v.v), (144, .int .i64 j11), (143, .int .i64 s2), (142, .int .i64 (IntKind.wrap .i64 (r28.1 + 1))), (141, .int .i64 r28.1), (140, Sl.v a0)] ?_
        refine OJ.call (d := 146) (g := 65) (ats := #[39, 3, 3, 3, 97]) (args := [.tmp 140, .tmp 142, .tmp 143, .tmp 144, .tmp 145]) (owed := []) F65 (h_rec_ a0 (IntKind.wrap .i64 (r28.1 + 1)) s2 j11) (fun r32 => ?_)
        refine OW.nil ?_
        refine OJ.nil ?_
        refine SJ.rg 2 ?_
        refine OJ.go 2 [(2, .int .i64 r28.1), (147, .int .i64 r28.1)] ?_
        refine OJ.nil ?_
        refine SJ.inBlock ?_
        exact SJ.at_ [0, 1, 2, 3, 4, 10, 11] rfl
noncomputable def slices_pdqsortCmpFunc_api_Route.K2 (a0 : Sl) (a4 : api_Route → api_Route → M Int) (rec_ : Sl → Int → Int → Int → M Unit) (s1 : Int) (s2 : Int) (s4 : Bool) (s5 : Bool) (j11 : Int) (j14 : Int) (j15 : Int) : M (LS (Int × Int × Int × Bool × Bool) Unit) :=
  (if s4 = true then
      pure s5
    else
      pure false) >>= fun y16 =>
  (if y16 = true then
      pure (j15 == 1)
    else
      pure false) >>= fun y17 =>
  if y17 = true then
    slices_partialInsertionSortCmpFunc_api_Route a0 s1 s2 a4 >>= fun r35 =>
    if r35 = true then
      pure (LS.done ())
    else
      slices_pdqsortCmpFunc_api_Route.K1 a0 a4 rec_ s1 s2 s4 s5 j11 j14
  else
    slices_pdqsortCmpFunc_api_Route.K1 a0 a4 rec_ s1 s2 s4 s5 j11 j14
theorem slices_pdqsortCmpFunc_api_Route.K2_ok (a0 : Sl) (a4v : Any) (a4 : api_Route → api_Route → M Int) (h_a4 : ∀ (x0_ : api_Route), ∀ (x1_ : api_Route), RefV Tryd.prog a4v.v [c_api_Route.val x0_, c_api_Route.val x1_] (a4 x0_ x1_) (fun r_ : Int => .int .i64 r_)) (rec_ : Sl → Int → Int → Int → M Unit) (h_rec_ : ∀ (x0_ : Sl) (x1_ : Int) (x2_ : Int) (x3_ : Int), Ref Tryd.prog 65 [Sl.v x0_, .int .i64 x1_, .int .i64 x2_, .int .i64 x3_, a4v.v] (rec_ x0_ x1_ x2_ x3_) slices_pdqsortCmpFunc_api_Route.out) (s1 : Int) (s2 : Int) (s4 : Bool) (s5 : Bool) (j11 : Int) (j14 : Int) (j15 : Int) :
    SJ slices_pdqsortCmpFunc_api_Route.cx [.code (c2 (c2 (c2 (c2 (c2 (c2 (c1 (c1 (c1 (c2 (c2 slices_pdqsortCmpFunc_api_Route.B))))))))))), .inBlock 1, .inLoop (c1 (c1 (c2 (c2 slices_pdqsortCmpFunc_api_Route.B)))), .inBlock 0] [(0, Sl.v a0), (1, .int .i64 s1), (2, .int .i64 s2), (3, .int .i64 j11), (4, a4v.v), (10, .bool s4), (11, .bool s5), (12, .int .i64 (IntKind.wrap .i64 (s2 - s1))), (13, .int .i64 j14), (14, .int .i64 j15)] [] (slices_pdqsortCmpFunc_api_Route.K2 a0 a4 rec_ s1 s2 s4 s5 j11 j14 j15) (slices_pdqsortCmpFunc_api_Route.F1 a0 a4v) := by
  unfold slices_pdqsortCmpFunc_api_Route.K2
  refine SJ.seq ?_
  refine SJ.sr 8 ?_
  refine OJ.go 2 [(69, .bool s4), (68, .bool s4)] ?_
  refine OJ.join (b := s4) [2, 3] [4, 5, 6, 7] [0, 1, 2, 3, 4, 10, 11, 12, 13, 14, 71] (fun y16 => [(0, Sl.v a0), (1, .int .i64 s1), (2, .int .i64 s2), (3, .int .i64 j11), (4, a4v.v), (10, .bool s4), (11, .bool s5), (12, .int .i64 (IntKind.wrap .i64 (s2 - s1))), (13, .int .i64 j14), (14, .int .i64 j15), (71, .bool y16)]) [] [] (t := 69) Iff.rfl (fun hp_ => ?_) (fun hp_ => ?_) (fun _ _ _ _ _ _ h_ => h_) (fun y16 => ?_)
  · refine OJ.go 2 [(71, .bool s5), (70, .bool s5)] ?_
    exact OJ.nil ⟨(Cov.mem Cov.nil), rfl, _, rfl, by kernel_rfl⟩
  · refine OJ.go 2 [(71, .bool false), (70, undef)] ?_
    exact OJ.nil ⟨(Cov.mem Cov.nil), rfl, _, rfl, by kernel_rfl⟩
  · refine OJ.go 1 [(72, .bool y16)] ?_
    refine OJ.join (b := y16) [5, 6, 7] [] [0, 1, 2, 3, 4, 10, 11, 12, 13, 75] (fun y17 => [(0, Sl.v a0), (1, .int .i64 s1), (2, .int .i64 s2), (3, .int .i64 j11), (4, a4v.v), (10, .bool s4), (11, .bool s5), (12, .int .i64 (IntKind.wrap .i64 (s2 - s1))), (13, .int .i64 j14), (75, .bool y17)]) [] [] (t := 72) Iff.rfl (fun hp_ => ?_) (fun hp_ => ?_) (fun _ _ _ _ _ _ h_ => h_) (fun y17 => ?_)
    · refine OJ.go 3 [(75, .bool (j15 == 1)), (74, .bool (j15 == 1)), (73, .int .i64 j15)] ?_
      exact OJ.nil ⟨(Cov.mem Cov.nil), rfl, _, rfl, by kernel_rfl⟩
    · refine OJ.go 3 [(75, .bool false), (74, undef), (73, undef)] ?_
      exact OJ.nil ⟨(Cov.mem Cov.nil), rfl, _, rfl, by kernel_rfl⟩
    · refine OJ.nil ?_
      refine SJ.cond (t := (.tmp 75)) (b := y17) Iff.rfl (fun hc37 => ?_) (fun hc37 => ?_)
      · refine SJ.sr 5 ?_
        refine OJ.go 4 [(79, a4v.v), (78, .int .i64 s2), (77, .int .i64 s1), (76, Sl.v a0)] ?_
        refine OJ.call (d := 80) (g := 75) (ats := #[39, 3, 3, 97]) (args := [.tmp 76, .tmp 77, .tmp 78, .tmp 79]) (owed := []) F75 (slices_partialInsertionSortCmpFunc_api_Route_ok a0 s1 s2 a4v a4 h_a4) (fun r35 => ?_)
        refine OW.nil ?_
        refine OJ.nil ?_
        refine SJ.cond (t := (.tmp 80)) (b := r35) Iff.rfl (fun hc36 => ?_) (fun hc36 => ?_)
        · exact SJ.ret rfl (Res.run (ys := []) .nil rfl)
        · refine SJ.skip ?_
          refine SJ.less [0, 1, 2, 3, 4, 10, 11, 12, 13] (m' := [(0, Sl.v a0), (1, .int .i64 s1), (2, .int .i64 s2), (3, .int .i64 j11), (4, a4v.v), (10, .bool s4), (11, .bool s5), (12, .int .i64 (IntKind.wrap .i64 (s2 - s1))), (13, .int .i64 j14)]) ?_
          exact slices_pdqsortCmpFunc_api_Route.K1_ok a0 a4v a4 h_a4 rec_ h_rec_ s1 s2 s4 s5 j11 j14
      · refine SJ.skip ?_
        refine SJ.less [0, 1, 2, 3, 4, 10, 11, 12, 13] (m' := [(0, Sl.v a0), (1, .int .i64 s1), (2, .int .i64 s2), (3, .int .i64 j11), (4, a4v.v), (10, .bool s4), (11, .bool s5), (12, .int .i64 (IntKind.wrap .i64 (s2 - s1))), (13, .int .i64 j14)]) ?_
        exact slices_pdqsortCmpFunc_api_Route.K1_ok a0 a4v a4 h_a4 rec_ h_rec_ s1 s2 s4 s5 j11 j14
noncomputable def slices_pdqsortCmpFunc_api_Route.K3 (a0 : Sl) (a4 : api_Route → api_Route → M Int) (rec_ : Sl → Int → Int → Int → M Unit) (s1 : Int) (s2 : Int) (s4 : Bool) (s5 : Bool) (j11 : Int) : M (LS (Int × Int × Int × Bool × Bool) Unit) :=
  slices_choosePivotCmpFunc_api_Route a0 s1 s2 a4 >>= fun r12 =>
  if r12.2 = 2 then
    slices_reverseRangeCmpFunc_api_Route a0 s1 s2 a4 >>= fun r38 =>
    slices_pdqsortCmpFunc_api_Route.K2 a0 a4 rec_ s1 s2 s4 s5 j11 (IntKind.wrap .i64 ((IntKind.wrap .i64 (s2 - 1)) - (IntKind.wrap .i64 (r12.1 - s1)))) 1
  else
    slices_pdqsortCmpFunc_api_Route.K2 a0 a4 rec_ s1 s2 s4 s5 j11 r12.1 r12.2
theorem slices_pdqsortCmpFunc_api_Route.K3_ok (a0 : Sl) (a4v : Any) (a4 : api_Route → api_Route → M Int) (h_a4 : ∀ (x0_ : api_Route), ∀ (x1_ : api_Route), RefV Tryd.prog a4v.v [c_api_Route.val x0_, c_api_Route.val x1_] (a4 x0_ x1_) (fun r_ : Int => .int .i64 r_)) (rec_ : Sl → Int → Int → Int → M Unit) (h_rec_ : ∀ (x0_ : Sl) (x1_ : Int) (x2_ : Int) (x3_ : Int), Ref Tryd.prog 65 [Sl.v x0_, .int .i64 x1_, .int .i64 x2_, .int .i64 x3_, a4v.v] (rec_ x0_ x1_ x2_ x3_) slices_pdqsortCmpFunc_api_Route.out) (s1 : Int) (s2 : Int) (s4 : Bool) (s5 : Bool) (j11 : Int) :
    SJ slices_pdqsortCmpFunc_api_Route.cx [.code (c2 (c2 (c2 (c2 (c1 (c1 (c1 (c2 (c2 slices_pdqsortCmpFunc_api_Route.B))))))))), .inBlock 1, .inLoop (c1 (c1 (c2 (c2 slices_pdqsortCmpFunc_api_Route.B)))), .inBlock 0] [(0, Sl.v a0), (1, .int .i64 s1), (2, .int .i64 s2), (3, .int .i64 j11), (4, a4v.v), (10, .bool s4), (11, .bool s5), (12, .int .i64 (IntKind.wrap .i64 (s2 - s1)))] [] (slices_pdqsortCmpFunc_api_Route.K3 a0 a4 rec_ s1 s2 s4 s5 j11) (slices_pdqsortCmpFunc_api_Route.F1 a0 a4v) := by
  unfold slices_pdqsortCmpFunc_api_Route.K3
  refine SJ.sr 10 ?_
  refine OJ.go 4 [(51, a4v.v), (50, .int .i64 s2), (49, .int .i64 s1), (48, Sl.v a0)] ?_
  refine OJ.call (d := 52) (g := 73) (ats := #[39, 3, 3, 97]) (args := [.tmp 48, .tmp 49, .tmp 50, .tmp 51]) (owed := []) F73 (slices_choosePivotCmpFunc_api_Route_ok a0 s1 s2 a4v a4 h_a4) (fun r12 => ?_)
  refine OW.nil ?_
  refine OJ.go 5 [(14, .int .i64 r12.2), (13, .int .i64 r12.1), (54, .int .i64 r12.2), (53, .int .i64 r12.1), (47, .tuple #[.int .i64 r12.1, .int .i64 r12.2])] ?_
  refine OJ.nil ?_
  refine SJ.seq ?_
  refine SJ.sr 2 ?_
  refine OJ.go 2 [(56, .bool (r12.2 == 2)), (55, .int .i64 r12.2)] ?_
  refine OJ.nil ?_
  refine SJ.cond (t := (.tmp 56)) (b := (r12.2 == 2)) beq_iff_eq (fun hc39 => ?_) (fun hc39 => ?_)
  · refine SJ.sr 5 ?_
    refine OJ.go 4 [(60, a4v.v), (59, .int .i64 s2), (58, .int .i64 s1), (57, Sl.v a0)] ?_
    refine OJ.call (d := 61) (g := 74) (ats := #[39, 3, 3, 97]) (args := [.tmp 57, .tmp 58, .tmp 59, .tmp 60]) (owed := []) F74 (slices_reverseRangeCmpFunc_api_Route_ok a0 s1 s2 a4v a4 h_a4) (fun r38 => ?_)
    refine OW.nil ?_
    refine OJ.nil ?_
    refine SJ.sr 7 ?_
    refine OJ.go 7 [(13, .int .i64 (IntKind.wrap .i64 ((IntKind.wrap .i64 (s2 - 1)) - (IntKind.wrap .i64 (r12.1 - s1))))), (67, .int .i64 (IntKind.wrap .i64 ((IntKind.wrap .i64 (s2 - 1)) - (IntKind.wrap .i64 (r12.1 - s1))))), (66, .int .i64 (IntKind.wrap .i64 (r12.1 - s1))), (65, .int .i64 s1), (64, .int .i64 r12.1), (63, .int .i64 (IntKind.wrap .i64 (s2 - 1))), (62, .int .i64 s2)] ?_
    refine OJ.nil ?_
    refine SJ.rg 1 ?_
    refine OJ.go 1 [(14, .int .i64 1)] ?_
    refine OJ.nil ?_
    refine SJ.less [0, 1, 2, 3, 4, 10, 11, 12, 13, 14] (m' := [(0, Sl.v a0), (1, .int .i64 s1), (2, .int .i64 s2), (3, .int .i64 j11), (4, a4v.v), (10, .bool s4), (11, .bool s5), (12, .int .i64 (IntKind.wrap .i64 (s2 - s1))), (13, .int .i64 (IntKind.wrap .i64 ((IntKind.wrap .i64 (s2 - 1)) - (IntKind.wrap .i64 (r12.1 - s1))))), (14, .int .i64 1)]) ?_
    exact slices_pdqsortCmpFunc_api_Route.K2_ok a0 a4v a4 h_a4 rec_ h_rec_ s1 s2 s4 s5 j11 (IntKind.wrap .i64 ((IntKind.wrap .i64 (s2 - 1)) - (IntKind.wrap .i64 (r12.1 - s1)))) 1
  · refine SJ.skip ?_
    refine SJ.less [0, 1, 2, 3, 4, 10, 11, 12, 13, 14] (m' := [(0, Sl.v a0), (1, .int .i64 s1), (2, .int .i64 s2), (3, .int .i64 j11), (4, a4v.v), (10, .bool s4), (11, .bool s5), (12, .int .i64 (IntKind.wrap .i64 (s2 - s1))), (13, .int .i64 r12.1), (14, .int .i64 r12.2)]) ?_
    exact slices_pdqsortCmpFunc_api_Route.K2_ok a0 a4v a4 h_a4 rec_ h_rec_ s1 s2 s4 s5 j11 r12.1 r12.2
noncomputable def slices_pdqsortCmpFunc_api_Route.L1 (a0 : Sl) (a4 : api_Route → api_Route → M Int) (rec_ : Sl → Int → Int → Int → M Unit) (s1 : Int) (s2 : Int) (s3 : Int) (s4 : Bool) (s5 : Bool) : M (LS (Int × Int × Int × Bool × Bool) Unit) :=
  if (IntKind.wrap .i64 (s2 - s1)) ≤ 12 then
    slices_insertionSortCmpFunc_api_Route a0 s1 s2 a4 >>= fun r7 =>
    pure (LS.done ())
  else
    if s3 = 0 then
      slices_heapSortCmpFunc_api_Route a0 s1 s2 a4 >>= fun r9 =>
      pure (LS.done ())
    else
      if ¬ (s4 = true) then
        slices_breakPatternsCmpFunc_api_Route a0 s1 s2 a4 >>= fun r40 =>
        slices_pdqsortCmpFunc_api_Route.K3 a0 a4 rec_ s1 s2 s4 s5 (IntKind.wrap .i64 (s3 - 1))
      else
        slices_pdqsortCmpFunc_api_Route.K3 a0 a4 rec_ s1 s2 s4 s5 s3
theorem slices_pdqsortCmpFunc_api_Route.L1_ok (a0 : Sl) (a4v : Any) (a4 : api_Route → api_Route → M Int) (h_a4 : ∀ (x0_ : api_Route), ∀ (x1_ : api_Route), RefV Tryd.prog a4v.v [c_api_Route.val x0_, c_api_Route.val x1_] (a4 x0_ x1_) (fun r_ : Int => .int .i64 r_)) (rec_ : Sl → Int → Int → Int → M Unit) (h_rec_ : ∀ (x0_ : Sl) (x1_ : Int) (x2_ : Int) (x3_ : Int), Ref Tryd.prog 65 [Sl.v x0_, .int .i64 x1_, .int .i64 x2_, .int .i64 x3_, a4v.v] (rec_ x0_ x1_ x2_ x3_) slices_pdqsortCmpFunc_api_Route.out) (s1 : Int) (s2 : Int) (s3 : Int) (s4 : Bool) (s5 : Bool) :
    SJ slices_pdqsortCmpFunc_api_Route.cx [.code (c1 (c1 (c2 (c2 slices_pdqsortCmpFunc_api_Route.B)))), .inLoop (c1 (c1 (c2 (c2 slices_pdqsortCmpFunc_api_Route.B)))), .inBlock 0] [(0, Sl.v a0), (1, .int .i64 s1), (2, .int .i64 s2), (3, .int .i64 s3), (4, a4v.v), (10, .bool s4), (11, .bool s5)] [] (slices_pdqsortCmpFunc_api_Route.L1 a0 a4 rec_ s1 s2 s3 s4 s5) (slices_pdqsortCmpFunc_api_Route.F1 a0 a4v) := by
  unfold slices_pdqsortCmpFunc_api_Route.L1
  refine SJ.block (id := 1) ?_
  refine SJ.sr 4 ?_
  refine OJ.go 4 [(12, .int .i64 (IntKind.wrap .i64 (s2 - s1))), (23, .int .i64 (IntKind.wrap .i64 (s2 - s1))), (22, .int .i64 s1), (21, .int .i64 s2)] ?_
  refine OJ.nil ?_
  refine SJ.seq ?_
  refine SJ.sr 2 ?_
  refine OJ.go 2 [(25, .bool (decide ((IntKind.wrap .i64 (s2 - s1)) ≤ 12))), (24, .int .i64 (IntKind.wrap .i64 (s2 - s1)))] ?_
  refine OJ.nil ?_
  refine SJ.cond (t := (.tmp 25)) (b := decide ((IntKind.wrap .i64 (s2 - s1)) ≤ 12)) decide_eq_true_iff (fun hc43 => ?_) (fun hc43 => ?_)
  · refine SJ.sr 5 ?_
    refine OJ.go 4 [(29, a4v.v), (28, .int .i64 s2), (27, .int .i64 s1), (26, Sl.v a0)] ?_
    refine OJ.call (d := 30) (g := 70) (ats := #[39, 3, 3, 97]) (args := [.tmp 26, .tmp 27, .tmp 28, .tmp 29]) (owed := []) F70 (slices_insertionSortCmpFunc_api_Route_ok a0 s1 s2 a4v a4 h_a4) (fun r7 => ?_)
    refine OW.nil ?_
    refine OJ.nil ?_
    exact SJ.ret rfl (Res.run (ys := []) .nil rfl)
  · refine SJ.skip ?_
    refine SJ.seq ?_
    refine SJ.sr 2 ?_
    refine OJ.go 2 [(32, .bool (s3 == 0)), (31, .int .i64 s3)] ?_
    refine OJ.nil ?_
    refine SJ.cond (t := (.tmp 32)) (b := (s3 == 0)) beq_iff_eq (fun hc42 => ?_) (fun hc42 => ?_)
    · refine SJ.sr 5 ?_
      refine OJ.go 4 [(36, a4v.v), (35, .int .i64 s2), (34, .int .i64 s1), (33, Sl.v a0)] ?_
      refine OJ.call (d := 37) (g := 71) (ats := #[39, 3, 3, 97]) (args := [.tmp 33, .tmp 34, .tmp 35, .tmp 36]) (owed := []) F71 (slices_heapSortCmpFunc_api_Route_ok a0 s1 s2 a4v a4 h_a4) (fun r9 => ?_)
      refine OW.nil ?_
      refine OJ.nil ?_
      exact SJ.ret rfl (Res.run (ys := []) .nil rfl)
    · refine SJ.skip ?_
      refine SJ.seq ?_
      refine SJ.sr 2 ?_
      refine OJ.go 2 [(39, .bool (!s4)), (38, .bool s4)] ?_
      refine OJ.nil ?_
      refine SJ.cond (t := (.tmp 39)) (b := (!s4)) (bnot_iff Iff.rfl) (fun hc41 => ?_) (fun hc41 => ?_)
      · refine SJ.sr 5 ?_
        refine OJ.go 4 [(43, a4v.v), (42, .int .i64 s2), (41, .int .i64 s1), (40, Sl.v a0)] ?_
        refine OJ.call (d := 44) (g := 72) (ats := #[39, 3, 3, 97]) (args := [.tmp 40, .tmp 41, .tmp 42, .tmp 43]) (owed := []) F72 (slices_breakPatternsCmpFunc_api_Route_ok a0 s1 s2 a4v a4 h_a4) (fun r40 => ?_)
        refine OW.nil ?_
        refine OJ.nil ?_
        refine SJ.rg 3 ?_
        refine OJ.go 3 [(3, .int .i64 (IntKind.wrap .i64 (s3 - 1))), (46, .int .i64 (IntKind.wrap .i64 (s3 - 1))), (45, .int .i64 s3)] ?_
        refine OJ.nil ?_
        refine SJ.less [0, 1, 2, 3, 4, 10, 11, 12] (m' := [(0, Sl.v a0), (1, .int .i64 s1), (2, .int .i64 s2), (3, .int .i64 (IntKind.wrap .i64 (s3 - 1))), (4, a4v.v), (10, .bool s4), (11, .bool s5), (12, .int .i64 (IntKind.wrap .i64 (s2 - s1)))]) ?_
        exact slices_pdqsortCmpFunc_api_Route.K3_ok a0 a4v a4 h_a4 rec_ h_rec_ s1 s2 s4 s5 (IntKind.wrap .i64 (s3 - 1))
      · refine SJ.skip ?_
        refine SJ.less [0, 1, 2, 3, 4, 10, 11, 12] (m' := [(0, Sl.v a0), (1, .int .i64 s1), (2, .int .i64 s2), (3, .int .i64 s3), (4, a4v.v), (10, .bool s4), (11, .bool s5), (12, .int .i64 (IntKind.wrap .i64 (s2 - s1)))]) ?_
        exact slices_pdqsortCmpFunc_api_Route.K3_ok a0 a4v a4 h_a4 rec_ h_rec_ s1 s2 s4 s5 s3
noncomputable def slices_pdqsortCmpFunc_api_Route.body (rec_ : Sl → Int → Int → Int → M Unit) (a0 : Sl) (a1 : Int) (a2 : Int) (a3 : Int) (a4 : api_Route → api_Route → M Int) : M Unit :=
  loopM (fun s_ : (Int × Int × Int × Bool × Bool) => slices_pdqsortCmpFunc_api_Route.L1 a0 a4 rec_ s_.1 s_.2.1 s_.2.2.1 s_.2.2.2.1 s_.2.2.2.2) (a1, a2, a3, true, true)
theorem slices_pdqsortCmpFunc_api_Route.body_ok (a4v : Any) (a4 : api_Route → api_Route → M Int) (h_a4 : ∀ (x0_ : api_Route), ∀ (x1_ : api_Route), RefV Tryd.prog a4v.v [c_api_Route.val x0_, c_api_Route.val x1_] (a4 x0_ x1_) (fun r_ : Int => .int .i64 r_)) (rec_ : Sl → Int → Int → Int → M Unit) (h_rec_ : ∀ (x0_ : Sl) (x1_ : Int) (x2_ : Int) (x3_ : Int), Ref Tryd.prog 65 [Sl.v x0_, .int .i64 x1_, .int .i64 x2_, .int .i64 x3_, a4v.v] (rec_ x0_ x1_ x2_ x3_) slices_pdqsortCmpFunc_api_Route.out) (a0 : Sl) (a1 : Int) (a2 : Int) (a3 : Int) : Ref Tryd.prog 65 [Sl.v a0, .int .i64 a1, .int .i64 a2, .int .i64 a3, a4v.v] (slices_pdqsortCmpFunc_api_Route.body rec_ a0 a1 a2 a3 a4) slices_pdqsortCmpFunc_api_Route.out := by
  refine Ref.of (cd := slices_pdqsortCmpFunc_api_Route.B) Tryd.func65 ?_
  show SJ slices_pdqsortCmpFunc_api_Route.cx [.code slices_pdqsortCmpFunc_api_Route.B] [(0, Sl.v a0), (1, .int .i64 a1), (2, .int .i64 a2), (3, .int .i64 a3), (4, a4v.v)] [] (slices_pdqsortCmpFunc_api_Route.body rec_ a0 a1 a2 a3 a4) slices_pdqsortCmpFunc_api_Route.F0
  unfold slices_pdqsortCmpFunc_api_Route.body
  refine SJ.sr 1 ?_
  refine OJ.go 1 [(10, .bool true)] ?_
  refine OJ.nil ?_
  refine SJ.sr 1 ?_
  refine OJ.go 1 [(11, .bool true)] ?_
  refine OJ.nil ?_
  refine SJ.block (id := 0) ?_
  exact SJ.loop (fun s_ : (Int × Int × Int × Bool × Bool) => [(0, Sl.v a0), (1, .int .i64 s_.1), (2, .int .i64 s_.2.1), (3, .int .i64 s_.2.2.1), (4, a4v.v), (10, .bool s_.2.2.2.1), (11, .bool s_.2.2.2.2)]) (fun s_ : (Int × Int × Int × Bool × Bool) => []) [0, 1, 2, 3, 4, 10, 11] rfl (fun _ _ => rfl) (fun s_ => slices_pdqsortCmpFunc_api_Route.L1_ok a0 a4v a4 h_a4 rec_ h_rec_ s_.1 s_.2.1 s_.2.2.1 s_.2.2.2.1 s_.2.2.2.2)
noncomputable def slices_pdqsortCmpFunc_api_Route.go (a4 : api_Route → api_Route → M Int) : Nat → Sl → Int → Int → Int → M Unit
  | 0 => fun a0 a1 a2 a3 => fun _ => none
  | n + 1 => fun a0 a1 a2 a3 => slices_pdqsortCmpFunc_api_Route.body (slices_pdqsortCmpFunc_api_Route.go a4 n) a0 a1 a2 a3 a4
theorem slices_pdqsortCmpFunc_api_Route.go_ok (a4v : Any) (a4 : api_Route → api_Route → M Int) (h_a4 : ∀ (x0_ : api_Route), ∀ (x1_ : api_Route), RefV Tryd.prog a4v.v [c_api_Route.val x0_, c_api_Route.val x1_] (a4 x0_ x1_) (fun r_ : Int => .int .i64 r_)) : ∀ (n : Nat) (a0 : Sl) (a1 : Int) (a2 : Int) (a3 : Int), Ref Tryd.prog 65 [Sl.v a0, .int .i64 a1, .int .i64 a2, .int .i64 a3, a4v.v] (slices_pdqsortCmpFunc_api_Route.go a4 n a0 a1 a2 a3) slices_pdqsortCmpFunc_api_Route.out
  | 0, a0, a1, a2, a3 => fun v r v' e => by cases e
  | n + 1, a0, a1, a2, a3 => slices_pdqsortCmpFunc_api_Route.body_ok a4v a4 h_a4 (slices_pdqsortCmpFunc_api_Route.go a4 n) (slices_pdqsortCmpFunc_api_Route.go_ok a4v a4 h_a4 n) a0 a1 a2 a3
noncomputable def slices_pdqsortCmpFunc_api_Route (a0 : Sl) (a1 : Int) (a2 : Int) (a3 : Int) (a4 : api_Route → api_Route → M Int) : M Unit := slices_pdqsortCmpFunc_api_Route.go a4 1000000000000 a0 a1 a2 a3
theorem slices_pdqsortCmpFunc_api_Route_ok (a0 : Sl) (a1 : Int) (a2 : Int) (a3 : Int) (a4v : Any) (a4 : api_Route → api_Route → M Int) (h_a4 : ∀ (x0_ : api_Route), ∀ (x1_ : api_Route), RefV Tryd.prog a4v.v [c_api_Route.val x0_, c_api_Route.val x1_] (a4 x0_ x1_) (fun r_ : Int => .int .i64 r_)) : Ref Tryd.prog 65 [Sl.v a0, .int .i64 a1, .int .i64 a2, .int .i64 a3, a4v.v] (slices_pdqsortCmpFunc_api_Route a0 a1 a2 a3 a4) slices_pdqsortCmpFunc_api_Route.out := slices_pdqsortCmpFunc_api_Route.go_ok a4v a4 h_a4 1000000000000 a0 a1 a2 a3

/-! ### slices.SortFunc[[]weir/api.Route,weir/api.Route]: function 58 -/
noncomputable def slices_SortFunc_api_Route_api_Route.B : Code := (Tryd.f58.body).getD .skip
noncomputable def slices_SortFunc_api_Route_api_Route.cx : Fx := ⟨Tryd.prog, 58, Tryd.f58, none⟩
noncomputable def slices_SortFunc_api_Route_api_Route.out (r_ : Unit) : Value := .tuple #[]
noncomputable def slices_SortFunc_api_Route_api_Route.F0 (r_ : Unit) : Reach := .ret (slices_SortFunc_api_Route_api_Route.out r_)
noncomputable def slices_SortFunc_api_Route_api_Route (a0 : Sl) (a1 : api_Route → api_Route → M Int) : M Unit :=
  bits_Len (IntKind.wrap .u64 (a0.len : Int)) >>= fun r1 =>
  slices_pdqsortCmpFunc_api_Route a0 0 (a0.len : Int) r1 a1 >>= fun r2 =>
  pure ()
theorem slices_SortFunc_api_Route_api_Route_ok (a0 : Sl) (a1v : Any) (a1 : api_Route → api_Route → M Int) (h_a1 : ∀ (x0_ : api_Route), ∀ (x1_ : api_Route), RefV Tryd.prog a1v.v [c_api_Route.val x0_, c_api_Route.val x1_] (a1 x0_ x1_) (fun r_ : Int => .int .i64 r_)) : Ref Tryd.prog 58 [Sl.v a0, a1v.v] (slices_SortFunc_api_Route_api_Route a0 a1) slices_SortFunc_api_Route_api_Route.out := by
  refine Ref.of (cd := slices_SortFunc_api_Route_api_Route.B) Tryd.func58 ?_
  show SJ slices_SortFunc_api_Route_api_Route.cx [.code slices_SortFunc_api_Route_api_Route.B] [(0, Sl.v a0), (1, a1v.v)] [] (slices_SortFunc_api_Route_api_Route a0 a1) slices_SortFunc_api_Route_api_Route.F0
  unfold slices_SortFunc_api_Route_api_Route
  refine SJ.sr 3 ?_
  refine OJ.go 3 [(4, .int .i64 (a0.len : Int)), (6, .int .i64 (a0.len : Int)), (5, Sl.v a0)] ?_
  refine OJ.nil ?_
  refine SJ.rg 7 ?_
  refine OJ.go 4 [(10, .int .u64 (IntKind.wrap .u64 (a0.len : Int))), (9, .int .i64 (a0.len : Int)), (8, .int .i64 (a0.len : Int)), (7, Sl.v a0)] ?_
  refine OJ.call (d := 11) (g := 66) (ats := #[108]) (args := [.tmp 10]) (owed := []) F66 (bits_Len_ok (IntKind.wrap .u64 (a0.len : Int))) (fun r1 => ?_)
  refine OW.nil ?_
  refine OJ.go 1 [(12, a1v.v)] ?_
  refine OJ.call (d := 13) (g := 65) (ats := #[39, 3, 3, 3, 97]) (args := [.tmp 7, .const (.int .i64 0), .tmp 8, .tmp 11, .tmp 12]) (owed := []) F65 (slices_pdqsortCmpFunc_api_Route_ok a0 0 (a0.len : Int) r1 a1v a1 h_a1) (fun r2 => ?_)
  refine OW.nil ?_
  refine OJ.nil ?_
  exact SJ.end_ rfl (Res.run (ys := []) .nil rfl)

/-! ### slices.SortedFunc[weir/api.Route]: function 43 -/
noncomputable def slices_SortedFunc_api_Route.B : Code := (Tryd.f43.body).getD .skip
noncomputable def slices_SortedFunc_api_Route.cx : Fx := ⟨Tryd.prog, 43, Tryd.f43, none⟩
noncomputable def slices_SortedFunc_api_Route.out (r_ : Sl) : Value := Sl.v r_
noncomputable def slices_SortedFunc_api_Route.F0 (r_ : Sl) : Reach := .ret (slices_SortedFunc_api_Route.out r_)
noncomputable def slices_SortedFunc_api_Route (a0 : Any) (a1 : api_Route → api_Route → M Int) : M Sl :=
  slices_Collect_api_Route a0 >>= fun r1 =>
  slices_SortFunc_api_Route_api_Route r1 a1 >>= fun r2 =>
  pure r1
theorem slices_SortedFunc_api_Route_ok (a0 : Any) (a1v : Any) (a1 : api_Route → api_Route → M Int) (h_a1 : ∀ (x0_ : api_Route), ∀ (x1_ : api_Route), RefV Tryd.prog a1v.v [c_api_Route.val x0_, c_api_Route.val x1_] (a1 x0_ x1_) (fun r_ : Int => .int .i64 r_)) : Ref Tryd.prog 43 [a0.v, a1v.v] (slices_SortedFunc_api_Route a0 a1) slices_SortedFunc_api_Route.out := by
  refine Ref.of (cd := slices_SortedFunc_api_Route.B) Tryd.func43 ?_
  show SJ slices_SortedFunc_api_Route.cx [.code slices_SortedFunc_api_Route.B] [(0, a0.v), (1, a1v.v)] [] (slices_SortedFunc_api_Route a0 a1) slices_SortedFunc_api_Route.F0
  unfold slices_SortedFunc_api_Route
  refine SJ.sr 1 ?_
  refine OJ.go 1 [(4, Sl.v Sl.nil)] ?_
  refine OJ.nil ?_
  refine SJ.sr 3 ?_
  refine OJ.go 1 [(6, a0.v)] ?_
  refine OJ.call (d := 7) (g := 57) (ats := #[62]) (args := [.tmp 6]) (owed := []) F57 (slices_Collect_api_Route_ok a0) (fun r1 => ?_)
  refine OW.nil ?_
  refine OJ.go 1 [(5, Sl.v r1)] ?_
  refine OJ.nil ?_
  refine SJ.sr 3 ?_
  refine OJ.go 2 [(9, a1v.v), (8, Sl.v r1)] ?_
  refine OJ.call (d := 10) (g := 58) (ats := #[39, 97]) (args := [.tmp 8, .tmp 9]) (owed := []) F58 (slices_SortFunc_api_Route_api_Route_ok r1 a1v a1 h_a1) (fun r2 => ?_)
  refine OW.nil ?_
  refine OJ.nil ?_
  refine SJ.sr 2 ?_
  refine OJ.go 2 [(4, Sl.v r1), (11, Sl.v r1)] ?_
  refine OJ.nil ?_
  exact SJ.ret rfl (Res.run (ys := [Sl.v r1]) (.tmp (by kernel_rfl) .nil) rfl)

/-! ### cmp.isNaN[int]: function 67 -/
noncomputable def cmp_isNaN_int.B : Code := (Tryd.f67.body).getD .skip
noncomputable def cmp_isNaN_int.cx : Fx := ⟨Tryd.prog, 67, Tryd.f67, none⟩
noncomputable def cmp_isNaN_int.out (r_ : Bool) : Value := .bool r_
noncomputable def cmp_isNaN_int.F0 (r_ : Bool) : Reach := .ret (cmp_isNaN_int.out r_)
noncomputable def cmp_isNaN_int (a0 : Int) : M Bool :=
  pure (a0 != a0)
theorem cmp_isNaN_int_ok (a0 : Int) : Ref Tryd.prog 67 [.int .i64 a0] (cmp_isNaN_int a0) cmp_isNaN_int.out := by
  refine Ref.of (cd := cmp_isNaN_int.B) Tryd.func67 ?_
  show SJ cmp_isNaN_int.cx [.code cmp_isNaN_int.B] [(0, .int .i64 a0)] [] (cmp_isNaN_int a0) cmp_isNaN_int.F0
  unfold cmp_isNaN_int
  refine SJ.sr 1 ?_
  refine OJ.go 1 [(2, .bool false)] ?_
  refine OJ.nil ?_
  refine SJ.sr 4 ?_
  refine OJ.go 4 [(2, .bool (a0 != a0)), (5, .bool (a0 != a0)), (4, .int .i64 a0), (3, .int .i64 a0)] ?_
  refine OJ.nil ?_
  exact SJ.ret rfl (Res.run (ys := [.bool (a0 != a0)]) (.tmp (by kernel_rfl) .nil) rfl)

/-! ### cmp.Compare[int]: function 61 -/
noncomputable def cmp_Compare_int.B : Code := (Tryd.f61.body).getD .skip
noncomputable def cmp_Compare_int.cx : Fx := ⟨Tryd.prog, 61, Tryd.f61, none⟩
noncomputable def cmp_Compare_int.out (r_ : Int) : Value := .int .i64 r_
noncomputable def cmp_Compare_int.F0 (r_ : Int) : Reach := .ret (cmp_Compare_int.out r_)
noncomputable def cmp_Compare_int (a0 : Int) (a1 : Int) : M Int :=
  cmp_isNaN_int a0 >>= fun r1 =>
  cmp_isNaN_int a1 >>= fun r2 =>
  if r1 = true then
    if r2 = true then
      pure 0
    else
      pure (-1)
  else
    if r2 = true then
      pure 1
    else
      if a0 < a1 then
        pure (-1)
      else
        if a0 > a1 then
          pure 1
        else
          pure 0
theorem cmp_Compare_int_ok (a0 : Int) (a1 : Int) : Ref Tryd.prog 61 [.int .i64 a0, .int .i64 a1] (cmp_Compare_int a0 a1) cmp_Compare_int.out := by
  refine Ref.of (cd := cmp_Compare_int.B) Tryd.func61 ?_
  show SJ cmp_Compare_int.cx [.code cmp_Compare_int.B] [(0, .int .i64 a0), (1, .int .i64 a1)] [] (cmp_Compare_int a0 a1) cmp_Compare_int.F0
  unfold cmp_Compare_int
  refine SJ.sr 1 ?_
  refine OJ.go 1 [(4, .int .i64 0)] ?_
  refine OJ.nil ?_
  refine SJ.sr 3 ?_
  refine OJ.go 1 [(7, .int .i64 a0)] ?_
  refine OJ.call (d := 8) (g := 67) (ats := #[3]) (args := [.tmp 7]) (owed := []) F67 (cmp_isNaN_int_ok a0) (fun r1 => ?_)
  refine OW.nil ?_
  refine OJ.go 1 [(5, .bool r1)] ?_
  refine OJ.nil ?_
  refine SJ.sr 3 ?_
  refine OJ.go 1 [(9, .int .i64 a1)] ?_
  refine OJ.call (d := 10) (g := 67) (ats := #[3]) (args := [.tmp 9]) (owed := []) F67 (cmp_isNaN_int_ok a1) (fun r2 => ?_)
  refine OW.nil ?_
  refine OJ.go 1 [(6, .bool r2)] ?_
  refine OJ.nil ?_
  refine SJ.seq ?_
  refine SJ.sr 1 ?_
  refine OJ.go 1 [(11, .bool r1)] ?_
  refine OJ.nil ?_
  refine SJ.cond (t := (.tmp 11)) (b := r1) Iff.rfl (fun hc8 => ?_) (fun hc8 => ?_)
  · refine SJ.seq ?_
    refine SJ.sr 1 ?_
    refine OJ.go 1 [(12, .bool r2)] ?_
    refine OJ.nil ?_
    refine SJ.cond (t := (.tmp 12)) (b := r2) Iff.rfl (fun hc4 => ?_) (fun hc4 => ?_)
    · refine SJ.sr 1 ?_
      refine OJ.go 1 [(4, .int .i64 0)] ?_
      refine OJ.nil ?_
      exact SJ.ret rfl (Res.run (ys := [.int .i64 0]) (.tmp (by kernel_rfl) .nil) rfl)
    · refine SJ.skip ?_
      refine SJ.sr 1 ?_
      refine OJ.go 1 [(4, .int .i64 (-1))] ?_
      refine OJ.nil ?_
      exact SJ.ret rfl (Res.run (ys := [.int .i64 (-1)]) (.tmp (by kernel_rfl) .nil) rfl)
  · refine SJ.skip ?_
    refine SJ.seq ?_
    refine SJ.sr 1 ?_
    refine OJ.go 1 [(13, .bool r2)] ?_
    refine OJ.nil ?_
    refine SJ.cond (t := (.tmp 13)) (b := r2) Iff.rfl (fun hc7 => ?_) (fun hc7 => ?_)
    · refine SJ.sr 1 ?_
      refine OJ.go 1 [(4, .int .i64 1)] ?_
      refine OJ.nil ?_
      exact SJ.ret rfl (Res.run (ys := [.int .i64 1]) (.tmp (by kernel_rfl) .nil) rfl)
    · refine SJ.skip ?_
      refine SJ.seq ?_
      refine SJ.sr 3 ?_
      refine OJ.go 3 [(16, .bool (decide (a0 < a1))), (15, .int .i64 a1), (14, .int .i64 a0)] ?_
      refine OJ.nil ?_
      refine SJ.cond (t := (.tmp 16)) (b := decide (a0 < a1)) decide_eq_true_iff (fun hc6 => ?_) (fun hc6 => ?_)
      · refine SJ.sr 1 ?_
        refine OJ.go 1 [(4, .int .i64 (-1))] ?_
        refine OJ.nil ?_
        exact SJ.ret rfl (Res.run (ys := [.int .i64 (-1)]) (.tmp (by kernel_rfl) .nil) rfl)
      · refine SJ.skip ?_
        refine SJ.seq ?_
        refine SJ.sr 3 ?_
        refine OJ.go 3 [(19, .bool (decide (a0 > a1))), (18, .int .i64 a1), (17, .int .i64 a0)] ?_
        refine OJ.nil ?_
        refine SJ.cond (t := (.tmp 19)) (b := decide (a0 > a1)) decide_eq_true_iff (fun hc5 => ?_) (fun hc5 => ?_)
        · refine SJ.sr 1 ?_
          refine OJ.go 1 [(4, .int .i64 1)] ?_
          refine OJ.nil ?_
          exact SJ.ret rfl (Res.run (ys := [.int .i64 1]) (.tmp (by kernel_rfl) .nil) rfl)
        · refine SJ.skip ?_
          refine SJ.sr 1 ?_
          refine OJ.go 1 [(4, .int .i64 0)] ?_
          refine OJ.nil ?_
          exact SJ.ret rfl (Res.run (ys := [.int .i64 0]) (.tmp (by kernel_rfl) .nil) rfl)

/-! ### cmp.isNaN[byte]: function 80 -/
noncomputable def cmp_isNaN_byte.B : Code := (Tryd.f80.body).getD .skip
noncomputable def cmp_isNaN_byte.cx : Fx := ⟨Tryd.prog, 80, Tryd.f80, none⟩
noncomputable def cmp_isNaN_byte.out (r_ : Bool) : Value := .bool r_
noncomputable def cmp_isNaN_byte.F0 (r_ : Bool) : Reach := .ret (cmp_isNaN_byte.out r_)
noncomputable def cmp_isNaN_byte (a0 : Int) : M Bool :=
  pure (a0 != a0)
theorem cmp_isNaN_byte_ok (a0 : Int) : Ref Tryd.prog 80 [.int .u8 a0] (cmp_isNaN_byte a0) cmp_isNaN_byte.out := by
  refine Ref.of (cd := cmp_isNaN_byte.B) Tryd.func80 ?_
  show SJ cmp_isNaN_byte.cx [.code cmp_isNaN_byte.B] [(0, .int .u8 a0)] [] (cmp_isNaN_byte a0) cmp_isNaN_byte.F0
  unfold cmp_isNaN_byte
  refine SJ.sr 1 ?_
  refine OJ.go 1 [(2, .bool false)] ?_
  refine OJ.nil ?_
  refine SJ.sr 4 ?_
  refine OJ.go 4 [(2, .bool (a0 != a0)), (5, .bool (a0 != a0)), (4, .int .u8 a0), (3, .int .u8 a0)] ?_
  refine OJ.nil ?_
  exact SJ.ret rfl (Res.run (ys := [.bool (a0 != a0)]) (.tmp (by kernel_rfl) .nil) rfl)

/-! ### cmp.Compare[byte]: function 68 -/
noncomputable def cmp_Compare_byte.B : Code := (Tryd.f68.body).getD .skip
noncomputable def cmp_Compare_byte.cx : Fx := ⟨Tryd.prog, 68, Tryd.f68, none⟩
noncomputable def cmp_Compare_byte.out (r_ : Int) : Value := .int .i64 r_
noncomputable def cmp_Compare_byte.F0 (r_ : Int) : Reach := .ret (cmp_Compare_byte.out r_)
noncomputable def cmp_Compare_byte (a0 : Int) (a1 : Int) : M Int :=
  cmp_isNaN_byte a0 >>= fun r1 =>
  cmp_isNaN_byte a1 >>= fun r2 =>
  if r1 = true then
    if r2 = true then
      pure 0
    else
      pure (-1)
  else
    if r2 = true then
      pure 1
    else
      if a0 < a1 then
        pure (-1)
      else
        if a0 > a1 then
          pure 1
        else
          pure 0
theorem cmp_Compare_byte_ok (a0 : Int) (a1 : Int) : Ref Tryd.prog 68 [.int .u8 a0, .int .u8 a1] (cmp_Compare_byte a0 a1) cmp_Compare_byte.out := by
  refine Ref.of (cd := cmp_Compare_byte.B) Tryd.func68 ?_
  show SJ cmp_Compare_byte.cx [.code cmp_Compare_byte.B] [(0, .int .u8 a0), (1, .int .u8 a1)] [] (cmp_Compare_byte a0 a1) cmp_Compare_byte.F0
  unfold cmp_Compare_byte
  refine SJ.sr 1 ?_
  refine OJ.go 1 [(4, .int .i64 0)] ?_
  refine OJ.nil ?_
  refine SJ.sr 3 ?_
  refine OJ.go 1 [(7, .int .u8 a0)] ?_
  refine OJ.call (d := 8) (g := 80) (ats := #[5]) (args := [.tmp 7]) (owed := []) F80 (cmp_isNaN_byte_ok a0) (fun r1 => ?_)
  refine OW.nil ?_
  refine OJ.go 1 [(5, .bool r1)] ?_
  refine OJ.nil ?_
  refine SJ.sr 3 ?_
  refine OJ.go 1 [(9, .int .u8 a1)] ?_
  refine OJ.call (d := 10) (g := 80) (ats := #[5]) (args := [.tmp 9]) (owed := []) F80 (cmp_isNaN_byte_ok a1) (fun r2 => ?_)
  refine OW.nil ?_
  refine OJ.go 1 [(6, .bool r2)] ?_
  refine OJ.nil ?_
  refine SJ.seq ?_
  refine SJ.sr 1 ?_
  refine OJ.go 1 [(11, .bool r1)] ?_
  refine OJ.nil ?_
  refine SJ.cond (t := (.tmp 11)) (b := r1) Iff.rfl (fun hc8 => ?_) (fun hc8 => ?_)
  · refine SJ.seq ?_
    refine SJ.sr 1 ?_
    refine OJ.go 1 [(12, .bool r2)] ?_
    refine OJ.nil ?_
    refine SJ.cond (t := (.tmp 12)) (b := r2) Iff.rfl (fun hc4 => ?_) (fun hc4 => ?_)
    · refine SJ.sr 1 ?_
      refine OJ.go 1 [(4, .int .i64 0)] ?_
      refine OJ.nil ?_
      exact SJ.ret rfl (Res.run (ys := [.int .i64 0]) (.tmp (by kernel_rfl) .nil) rfl)
    · refine SJ.skip ?_
      refine SJ.sr 1 ?_
      refine OJ.go 1 [(4, .int .i64 (-1))] ?_
      refine OJ.nil ?_
      exact SJ.ret rfl (Res.run (ys := [.int .i64 (-1)]) (.tmp (by kernel_rfl) .nil) rfl)
  · refine SJ.skip ?_
    refine SJ.seq ?_
    refine SJ.sr 1 ?_
    refine OJ.go 1 [(13, .bool r2)] ?_
    refine OJ.nil ?_
    refine SJ.cond (t := (.tmp 13)) (b := r2) Iff.rfl (fun hc7 => ?_) (fun hc7 => ?_)
    · refine SJ.sr 1 ?_
      refine OJ.go 1 [(4, .int .i64 1)] ?_
      refine OJ.nil ?_
      exact SJ.ret rfl (Res.run (ys := [.int .i64 1]) (.tmp (by kernel_rfl) .nil) rfl)
    · refine SJ.skip ?_
      refine SJ.seq ?_
      refine SJ.sr 3 ?_
      refine OJ.go 3 [(16, .bool (decide (a0 < a1))), (15, .int .u8 a1), (14, .int .u8 a0)] ?_
      refine OJ.nil ?_
      refine SJ.cond (t := (.tmp 16)) (b := decide (a0 < a1)) decide_eq_true_iff (fun hc6 => ?_) (fun hc6 => ?_)
      · refine SJ.sr 1 ?_
        refine OJ.go 1 [(4, .int .i64 (-1))] ?_
        refine OJ.nil ?_
        exact SJ.ret rfl (Res.run (ys := [.int .i64 (-1)]) (.tmp (by kernel_rfl) .nil) rfl)
      · refine SJ.skip ?_
        refine SJ.seq ?_
        refine SJ.sr 3 ?_
        refine OJ.go 3 [(19, .bool (decide (a0 > a1))), (18, .int .u8 a1), (17, .int .u8 a0)] ?_
        refine OJ.nil ?_
        refine SJ.cond (t := (.tmp 19)) (b := decide (a0 > a1)) decide_eq_true_iff (fun hc5 => ?_) (fun hc5 => ?_)
        · refine SJ.sr 1 ?_
          refine OJ.go 1 [(4, .int .i64 1)] ?_
          refine OJ.nil ?_
          exact SJ.ret rfl (Res.run (ys := [.int .i64 1]) (.tmp (by kernel_rfl) .nil) rfl)
        · refine SJ.skip ?_
          refine SJ.sr 1 ?_
          refine OJ.go 1 [(4, .int .i64 0)] ?_
          refine OJ.nil ?_
          exact SJ.ret rfl (Res.run (ys := [.int .i64 0]) (.tmp (by kernel_rfl) .nil) rfl)

/-! ### slices.Compare[[]byte,byte]: function 62 -/
noncomputable def slices_Compare_byte_byte.B : Code := (Tryd.f62.body).getD .skip
noncomputable def slices_Compare_byte_byte.cx : Fx := ⟨Tryd.prog, 62, Tryd.f62, none⟩
noncomputable def slices_Compare_byte_byte.out (r_ : Int) : Value := .int .i64 r_
noncomputable def slices_Compare_byte_byte.F0 (r_ : Int) : Reach := .ret (slices_Compare_byte_byte.out r_)
noncomputable def slices_Compare_byte_byte.F1 (a0 : Sl) (a1 : Sl) : (LS Int Int) → Reach := loopF [.inLoop (c1 (c1 (c2 (c1 (c2 slices_Compare_byte_byte.B))))), .inBlock 0, .code (c2 (c2 slices_Compare_byte_byte.B))] (fun s_ : Int => [(0, Sl.v a0), (1, Sl.v a1), (9, Sl.v a0), (10, .int .i64 (a0.len : Int)), (11, .int .i64 s_)]) (fun s_ : Int => []) slices_Compare_byte_byte.F0
noncomputable def slices_Compare_byte_byte.L1 (a0 : Sl) (a1 : Sl) (s1 : Int) : M (LS Int Int) :=
  if s1 < (a0.len : Int) then
    idx a0.a a0.len s1 1 >>= fun p11 =>
    ld (cI .u8) p11 >>= fun x12 =>
    if s1 ≥ (a1.len : Int) then
      pure (LS.done 1)
    else
      idx a1.a a1.len s1 1 >>= fun p13 =>
      ld (cI .u8) p13 >>= fun x14 =>
      cmp_Compare_byte x12 x14 >>= fun r15 =>
      if r15 ≠ 0 then
        pure (LS.done r15)
      else
        pure (LS.next (IntKind.wrap .i64 (s1 + 1)))
  else
    if (a0.len : Int) < (a1.len : Int) then
      pure (LS.done (-1))
    else
      pure (LS.done 0)
theorem slices_Compare_byte_byte.L1_ok (a0 : Sl) (a1 : Sl) (s1 : Int) :
    SJ slices_Compare_byte_byte.cx [.code (c1 (c1 (c2 (c1 (c2 slices_Compare_byte_byte.B))))), .inLoop (c1 (c1 (c2 (c1 (c2 slices_Compare_byte_byte.B))))), .inBlock 0, .code (c2 (c2 slices_Compare_byte_byte.B))] [(0, Sl.v a0), (1, Sl.v a1), (9, Sl.v a0), (10, .int .i64 (a0.len : Int)), (11, .int .i64 s1)] [] (slices_Compare_byte_byte.L1 a0 a1 s1) (slices_Compare_byte_byte.F1 a0 a1) := by
  unfold slices_Compare_byte_byte.L1
  refine SJ.sr 1 ?_
  refine OJ.go 1 [(12, .bool (decide (s1 < (a0.len : Int))))] ?_
  refine OJ.nil ?_
  refine SJ.seq ?_
  refine SJ.cond (t := (.tmp 12)) (b := decide (s1 < (a0.len : Int))) decide_eq_true_iff (fun hc19 => ?_) (fun hc19 => ?_)
  · refine SJ.skip ?_
    refine SJ.seq ?_
    refine SJ.block (id := 1) ?_
    refine SJ.sr 5 ?_
    refine OJ.go 1 [(13, .int .i64 s1)] ?_
    refine OJ.idxS (d := 14) (T := 114) (y := .tmp 9) (j := .tmp 11) (E := 5) (cap := a0.cap) (k := .i64) (fun p11 => ?_)
    refine OJ.ld (d := 15) (y := .tmp 14) (pend2 := fun x12 => []) Ty5 (fun _ => rfl) (fun x12 => ?_)
    refine OJ.go 2 [(6, .int .u8 x12), (5, .int .i64 s1)] ?_
    refine OJ.nil ?_
    refine SJ.seq ?_
    refine SJ.sr 4 ?_
    refine OJ.go 4 [(19, .bool (decide (s1 ≥ (a1.len : Int)))), (18, .int .i64 (a1.len : Int)), (17, Sl.v a1), (16, .int .i64 s1)] ?_
    refine OJ.nil ?_
    refine SJ.cond (t := (.tmp 19)) (b := decide (s1 ≥ (a1.len : Int))) decide_eq_true_iff (fun hc17 => ?_) (fun hc17 => ?_)
    · refine SJ.sr 1 ?_
      refine OJ.go 1 [(4, .int .i64 1)] ?_
      refine OJ.nil ?_
      exact SJ.ret rfl (Res.run (ys := [.int .i64 1]) (.tmp (by kernel_rfl) .nil) rfl)
    · refine SJ.skip ?_
      refine SJ.sr 5 ?_
      refine OJ.go 2 [(21, .int .i64 s1), (20, Sl.v a1)] ?_
      refine OJ.idxS (d := 22) (T := 114) (y := .tmp 20) (j := .tmp 21) (E := 5) (cap := a1.cap) (k := .i64) (fun p13 => ?_)
      refine OJ.ld (d := 23) (y := .tmp 22) (pend2 := fun x14 => []) Ty5 (fun _ => rfl) (fun x14 => ?_)
      refine OJ.go 1 [(7, .int .u8 x14)] ?_
      refine OJ.nil ?_
      refine SJ.sr 4 ?_
      refine OJ.go 2 [(25, .int .u8 x14), (24, .int .u8 x12)] ?_
      refine OJ.call (d := 26) (g := 68) (ats := #[5, 5]) (args := [.tmp 24, .tmp 25]) (owed := []) F68 (cmp_Compare_byte_ok x12 x14) (fun r15 => ?_)
      refine OW.nil ?_
      refine OJ.go 1 [(8, .int .i64 r15)] ?_
      refine OJ.nil ?_
      refine SJ.sr 2 ?_
      refine OJ.go 2 [(28, .bool (r15 != 0)), (27, .int .i64 r15)] ?_
      refine OJ.nil ?_
      refine SJ.cond (t := (.tmp 28)) (b := (r15 != 0)) bne_iff_ne (fun hc16 => ?_) (fun hc16 => ?_)
      · refine SJ.sr 2 ?_
        refine OJ.go 2 [(4, .int .i64 r15), (29, .int .i64 r15)] ?_
        refine OJ.nil ?_
        exact SJ.ret rfl (Res.run (ys := [.int .i64 r15]) (.tmp (by kernel_rfl) .nil) rfl)
      · refine SJ.skip ?_
        refine SJ.inBlock ?_
        refine SJ.rg 2 ?_
        refine OJ.go 2 [(11, .int .i64 (IntKind.wrap .i64 (s1 + 1))), (30, .int .i64 (IntKind.wrap .i64 (s1 + 1)))] ?_
        refine OJ.nil ?_
        exact SJ.at_ [0, 1, 9, 10, 11] rfl
  · refine SJ.exit (id := 0) (by rfl) ?_
    refine SJ.seq ?_
    refine SJ.sr 5 ?_
    refine OJ.go 5 [(35, .bool (decide ((a0.len : Int) < (a1.len : Int)))), (34, .int .i64 (a1.len : Int)), (33, Sl.v a1), (32, .int .i64 (a0.len : Int)), (31, Sl.v a0)] ?_
    refine OJ.nil ?_
    refine SJ.cond (t := (.tmp 35)) (b := decide ((a0.len : Int) < (a1.len : Int))) decide_eq_true_iff (fun hc18 => ?_) (fun hc18 => ?_)
    · refine SJ.sr 1 ?_
      refine OJ.go 1 [(4, .int .i64 (-1))] ?_
      refine OJ.nil ?_
      exact SJ.ret rfl (Res.run (ys := [.int .i64 (-1)]) (.tmp (by kernel_rfl) .nil) rfl)
    · refine SJ.skip ?_
      refine SJ.sr 1 ?_
      refine OJ.go 1 [(4, .int .i64 0)] ?_
      refine OJ.nil ?_
      exact SJ.ret rfl (Res.run (ys := [.int .i64 0]) (.tmp (by kernel_rfl) .nil) rfl)
noncomputable def slices_Compare_byte_byte (a0 : Sl) (a1 : Sl) : M Int :=
  loopM (fun s_ : Int => slices_Compare_byte_byte.L1 a0 a1 s_) 0
theorem slices_Compare_byte_byte_ok (a0 : Sl) (a1 : Sl) : Ref Tryd.prog 62 [Sl.v a0, Sl.v a1] (slices_Compare_byte_byte a0 a1) slices_Compare_byte_byte.out := by
  refine Ref.of (cd := slices_Compare_byte_byte.B) Tryd.func62 ?_
  show SJ slices_Compare_byte_byte.cx [.code slices_Compare_byte_byte.B] [(0, Sl.v a0), (1, Sl.v a1)] [] (slices_Compare_byte_byte a0 a1) slices_Compare_byte_byte.F0
  unfold slices_Compare_byte_byte
  refine SJ.sr 1 ?_
  refine OJ.go 1 [(4, .int .i64 0)] ?_
  refine OJ.nil ?_
  refine SJ.seq ?_
  refine SJ.sr 3 ?_
  refine OJ.go 3 [(11, .int .i64 0), (10, .int .i64 (a0.len : Int)), (9, Sl.v a0)] ?_
  refine OJ.nil ?_
  refine SJ.block (id := 0) ?_
  exact SJ.loop (fun s_ : Int => [(0, Sl.v a0), (1, Sl.v a1), (9, Sl.v a0), (10, .int .i64 (a0.len : Int)), (11, .int .i64 s_)]) (fun s_ : Int => []) [0, 1, 9, 10, 11] rfl (fun _ _ => rfl) (fun s_ => slices_Compare_byte_byte.L1_ok a0 a1 s_)

/-! ### cmp.Or[int]: function 60 -/
noncomputable def cmp_Or_int.B : Code := (Tryd.f60.body).getD .skip
noncomputable def cmp_Or_int.cx : Fx := ⟨Tryd.prog, 60, Tryd.f60, none⟩
noncomputable def cmp_Or_int.out (r_ : Int) : Value := .int .i64 r_
noncomputable def cmp_Or_int.F0 (r_ : Int) : Reach := .ret (cmp_Or_int.out r_)
noncomputable def cmp_Or_int.F1 (a0 : Sl) : (LS Int Int) → Reach := loopF [.inLoop (c1 (c1 (c2 (c1 (c2 (c2 cmp_Or_int.B)))))), .inBlock 0, .code (c2 (c2 (c2 cmp_Or_int.B)))] (fun s_ : Int => [(3, .int .i64 0), (6, Sl.v a0), (7, .int .i64 (a0.len : Int)), (8, .int .i64 s_)]) (fun s_ : Int => []) cmp_Or_int.F0
noncomputable def cmp_Or_int.L1 (a0 : Sl) (s1 : Int) : M (LS Int Int) :=
  if s1 < (a0.len : Int) then
    idx a0.a a0.len s1 1 >>= fun p6 =>
    ld (cI .i64) p6 >>= fun x7 =>
    if x7 ≠ 0 then
      pure (LS.done x7)
    else
      pure (LS.next (IntKind.wrap .i64 (s1 + 1)))
  else
    pure (LS.done 0)
theorem cmp_Or_int.L1_ok (a0 : Sl) (s1 : Int) :
    SJ cmp_Or_int.cx [.code (c1 (c1 (c2 (c1 (c2 (c2 cmp_Or_int.B)))))), .inLoop (c1 (c1 (c2 (c1 (c2 (c2 cmp_Or_int.B)))))), .inBlock 0, .code (c2 (c2 (c2 cmp_Or_int.B)))] [(3, .int .i64 0), (6, Sl.v a0), (7, .int .i64 (a0.len : Int)), (8, .int .i64 s1)] [] (cmp_Or_int.L1 a0 s1) (cmp_Or_int.F1 a0) := by
  unfold cmp_Or_int.L1
  refine SJ.sr 1 ?_
  refine OJ.go 1 [(9, .bool (decide (s1 < (a0.len : Int))))] ?_
  refine OJ.nil ?_
  refine SJ.seq ?_
  refine SJ.cond (t := (.tmp 9)) (b := decide (s1 < (a0.len : Int))) decide_eq_true_iff (fun hc9 => ?_) (fun hc9 => ?_)
  · refine SJ.skip ?_
    refine SJ.seq ?_
    refine SJ.block (id := 1) ?_
    refine SJ.sr 3 ?_
    refine OJ.idxS (d := 10) (T := 73) (y := .tmp 6) (j := .tmp 8) (E := 3) (cap := a0.cap) (k := .i64) (fun p6 => ?_)
    refine OJ.ld (d := 11) (y := .tmp 10) (pend2 := fun x7 => []) Ty3 (fun _ => rfl) (fun x7 => ?_)
    refine OJ.go 1 [(5, .int .i64 x7)] ?_
    refine OJ.nil ?_
    refine SJ.sr 3 ?_
    refine OJ.go 3 [(14, .bool (x7 != 0)), (13, .int .i64 0), (12, .int .i64 x7)] ?_
    refine OJ.nil ?_
    refine SJ.cond (t := (.tmp 14)) (b := (x7 != 0)) bne_iff_ne (fun hc8 => ?_) (fun hc8 => ?_)
    · refine SJ.sr 2 ?_
      refine OJ.go 2 [(2, .int .i64 x7), (15, .int .i64 x7)] ?_
      refine OJ.nil ?_
      exact SJ.ret rfl (Res.run (ys := [.int .i64 x7]) (.tmp (by kernel_rfl) .nil) rfl)
    · refine SJ.skip ?_
      refine SJ.inBlock ?_
      refine SJ.rg 2 ?_
      refine OJ.go 2 [(8, .int .i64 (IntKind.wrap .i64 (s1 + 1))), (16, .int .i64 (IntKind.wrap .i64 (s1 + 1)))] ?_
      refine OJ.nil ?_
      exact SJ.at_ [3, 6, 7, 8] rfl
  · refine SJ.exit (id := 0) (by rfl) ?_
    refine SJ.sr 2 ?_
    refine OJ.go 2 [(2, .int .i64 0), (17, .int .i64 0)] ?_
    refine OJ.nil ?_
    exact SJ.ret rfl (Res.run (ys := [.int .i64 0]) (.tmp (by kernel_rfl) .nil) rfl)
noncomputable def cmp_Or_int (a0 : Sl) : M Int :=
  loopM (fun s_ : Int => cmp_Or_int.L1 a0 s_) 0
theorem cmp_Or_int_ok (a0 : Sl) : Ref Tryd.prog 60 [Sl.v a0] (cmp_Or_int a0) cmp_Or_int.out := by
  refine Ref.of (cd := cmp_Or_int.B) Tryd.func60 ?_
  show SJ cmp_Or_int.cx [.code cmp_Or_int.B] [(0, Sl.v a0)] [] (cmp_Or_int a0) cmp_Or_int.F0
  unfold cmp_Or_int
  refine SJ.sr 1 ?_
  refine OJ.go 1 [(2, .int .i64 0)] ?_
  refine OJ.nil ?_
  refine SJ.sr 1 ?_
  refine OJ.go 1 [(3, .int .i64 0)] ?_
  refine OJ.nil ?_
  refine SJ.seq ?_
  refine SJ.sr 3 ?_
  refine OJ.go 3 [(8, .int .i64 0), (7, .int .i64 (a0.len : Int)), (6, Sl.v a0)] ?_
  refine OJ.nil ?_
  refine SJ.block (id := 0) ?_
  exact SJ.loop (fun s_ : Int => [(3, .int .i64 0), (6, Sl.v a0), (7, .int .i64 (a0.len : Int)), (8, .int .i64 s_)]) (fun s_ : Int => []) [3, 6, 7, 8] rfl (fun _ _ => rfl) (fun s_ => cmp_Or_int.L1_ok a0 s_)

/-! ### weir/route.order: function 45 -/
noncomputable def route_order.B : Code := (Tryd.f45.body).getD .skip
noncomputable def route_order.cx : Fx := ⟨Tryd.prog, 45, Tryd.f45, none⟩
noncomputable def route_order.out (r_ : Int) : Value := .int .i64 r_
noncomputable def route_order.F0 (r_ : Int) : Reach := .ret (route_order.out r_)
noncomputable def route_order (a0 : api_Route) (a1 : api_Route) : M Int :=
  newv 32 c_api_Route a0 >>= fun b1 =>
  newv 32 c_api_Route a1 >>= fun b2 =>
  draw >>= fun _ =>
  ld (cI .i64) (pt b1 0) >>= fun x3 =>
  ld (cI .i64) (pt b2 0) >>= fun x4 =>
  ld (cI .i64) (Addr.add (pt b1 0) 17) >>= fun x5 =>
  ld (cI .i64) (Addr.add (pt b2 0) 17) >>= fun x6 =>
  cmp_Compare_int x3 x4 >>= fun r7 =>
  same (cI .i64) (Addr.add (pt b2 0) 17) x6 >>= fun _ =>
  same (cI .i64) (Addr.add (pt b1 0) 17) x5 >>= fun _ =>
  cut 1 ⟨some (Addr.add (pt b1 0) 1), 16, 16⟩ none none none >>= fun r8 =>
  cut 1 ⟨some (Addr.add (pt b2 0) 1), 16, 16⟩ none none none >>= fun r9 =>
  slices_Compare_byte_byte r8 r9 >>= fun r10 =>
  same (cI .i64) (Addr.add (pt b2 0) 17) x6 >>= fun _ =>
  same (cI .i64) (Addr.add (pt b1 0) 17) x5 >>= fun _ =>
  cmp_Compare_int x5 x6 >>= fun r11 =>
  newv 3 ((cI .i64).arr 3) (⟨[r7, r10, r11], rfl⟩ : Vec Int 3) >>= fun b12 =>
  cmp_Or_int (⟨some (pt b12 0), 3, 3⟩ : Sl) >>= fun r13 =>
  pure r13
theorem route_order_ok (a0 : api_Route) (a1 : api_Route) : Ref Tryd.prog 45 [c_api_Route.val a0, c_api_Route.val a1] (route_order a0 a1) route_order.out := by
  refine Ref.of (cd := route_order.B) Tryd.func45 ?_
  show SJ route_order.cx [.code route_order.B] [(0, c_api_Route.val a0), (1, c_api_Route.val a1)] [] (route_order a0 a1) route_order.F0
  unfold route_order
  refine SJ.sr 3 ?_
  refine OJ.newOf (d := 2) (op := (.box 32 (.tmp 0))) (cd := c_api_Route) (u := a0) (owed := []) (box_run (by kernel_rfl)) (fun b1 => ?_)
  refine OW.nil ?_
  refine OJ.newOf (d := 3) (op := (.box 32 (.tmp 1))) (cd := c_api_Route) (u := a1) (owed := []) (box_run (by kernel_rfl)) (fun b2 => ?_)
  refine OW.nil ?_
  refine OJ.go 1 [(4, .int .i64 0)] ?_
  refine OJ.nil ?_
  refine SJ.seq ?_
  refine SJ.draw (id := 1) (kd := [0, 0, 0, 1, 0, 0, 0, 1, 2, 0, 0, 0, 0, 0, 0, 0, 0, 2, 0, 0, 1, 0, 0, 1, 2, 2, 2, 0]) (bef := [0, 1, 3, 7, 0, 16, 48, 112, 255, 0, 512, 1536, 3584, 0, 8192, 24576, 57344, 131071, 0, 262144, 786432, 0, 2097152, 6291456, 16777215, 33554431, 67108863, 134217727]) (ord := [0, 1, 2, 3, 4, 5, 6, 7, 18, 19, 20, 21, 22, 23, 8, 9, 10, 11, 12, 13, 14, 15, 16, 17, 24, 25, 26, 27]) mixed ?_
  refine OJ.go 3 [(7, .pointer (some (pt b1 0))), (6, .pointer (some (pt b1 0))), (5, .pointer (some (pt b1 0)))] ?_
  refine OJ.ld (d := 8) (y := .tmp 7) (pend2 := fun x3 => [⟨3, 3, (pt b1 0), (cI .i64).val x3⟩]) Ty3 (fun _ => rfl) (fun x3 => ?_)
  refine OJ.go 3 [(11, .pointer (some (pt b2 0))), (10, .pointer (some (pt b2 0))), (9, .pointer (some (pt b2 0)))] ?_
  refine OJ.ld (d := 12) (y := .tmp 11) (pend2 := fun x4 => [⟨7, 3, (pt b2 0), (cI .i64).val x4⟩, ⟨3, 3, (pt b1 0), (cI .i64).val x3⟩]) Ty3 (fun _ => rfl) (fun x4 => ?_)
  refine OJ.go 2 [(24, .pointer (some (Addr.add (pt b1 0) 17))), (23, .pointer (some (pt b1 0)))] ?_
  refine OJ.ld (d := 25) (y := .tmp 24) (pend2 := fun x5 => [⟨20, 3, (Addr.add (pt b1 0) 17), (cI .i64).val x5⟩, ⟨7, 3, (pt b2 0), (cI .i64).val x4⟩, ⟨3, 3, (pt b1 0), (cI .i64).val x3⟩]) Ty3 (fun _ => rfl) (fun x5 => ?_)
  refine OJ.go 2 [(27, .pointer (some (Addr.add (pt b2 0) 17))), (26, .pointer (some (pt b2 0)))] ?_
  refine OJ.ld (d := 28) (y := .tmp 27) (pend2 := fun x6 => [⟨23, 3, (Addr.add (pt b2 0) 17), (cI .i64).val x6⟩, ⟨20, 3, (Addr.add (pt b1 0) 17), (cI .i64).val x5⟩, ⟨7, 3, (pt b2 0), (cI .i64).val x4⟩, ⟨3, 3, (pt b1 0), (cI .i64).val x3⟩]) Ty3 (fun _ => rfl) (fun x6 => ?_)
  refine OJ.call (d := 13) (g := 61) (ats := #[3, 3]) (args := [.tmp 8, .tmp 12]) (owed := [⟨23, 3, (Addr.add (pt b2 0) 17), (cI .i64).val x6⟩, ⟨20, 3, (Addr.add (pt b1 0) 17), (cI .i64).val x5⟩]) F61 (cmp_Compare_int_ok x3 x4) (fun r7 => ?_)
  refine OW.same Ty3 ?_
  refine OW.same Ty3 ?_
  refine OW.nil ?_
  refine OJ.go 3 [(16, .pointer (some (Addr.add (pt b1 0) 1))), (15, .pointer (some (pt b1 0))), (14, .pointer (some (pt b1 0)))] ?_
  refine OJ.cutA (d := 17) (t := 26) (E := 5) (y := .tmp 16) (lo := none) (hi := none) (mx := none) (lo' := none) (hi' := none) (mx' := none) (fun h => by cases h) (fun r8 => ?_)
  refine OJ.go 3 [(20, .pointer (some (Addr.add (pt b2 0) 1))), (19, .pointer (some (pt b2 0))), (18, .pointer (some (pt b2 0)))] ?_
  refine OJ.cutA (d := 21) (t := 26) (E := 5) (y := .tmp 20) (lo := none) (hi := none) (mx := none) (lo' := none) (hi' := none) (mx' := none) (fun h => by cases h) (fun r9 => ?_)
  refine OJ.call (d := 22) (g := 62) (ats := #[114, 114]) (args := [.tmp 17, .tmp 21]) (owed := [⟨23, 3, (Addr.add (pt b2 0) 17), (cI .i64).val x6⟩, ⟨20, 3, (Addr.add (pt b1 0) 17), (cI .i64).val x5⟩]) F62 (slices_Compare_byte_byte_ok r8 r9) (fun r10 => ?_)
  refine OW.same Ty3 ?_
  refine OW.same Ty3 ?_
  refine OW.nil ?_
  refine OJ.call (d := 29) (g := 61) (ats := #[3, 3]) (args := [.tmp 25, .tmp 28]) (owed := []) F61 (cmp_Compare_int_ok x5 x6) (fun r11 => ?_)
  refine OW.nil ?_
  refine OJ.rowNew (d := 30) (t := 73) (parts := [(0, .tmp 13), (1, .tmp 22), (2, .tmp 29)]) (ps := [(0, (cI .i64).val r7), (1, (cI .i64).val r10), (2, (cI .i64).val r11)]) (cd := (cI .i64)) (owed := []) Ty3 (Filled.cons (cd := (cI .i64)) (q := r7) (o := 0) rfl (Upd.arr (i := 0) (by decide) (by decide)) (Filled.cons (cd := (cI .i64)) (q := r10) (o := 1) rfl (Upd.arr (i := 1) (by decide) (by decide)) (Filled.cons (cd := (cI .i64)) (q := r11) (o := 2) rfl (Upd.arr (i := 2) (by decide) (by decide)) Filled.nil))) (fun b12 => ?_)
  refine OW.nil ?_
  refine OJ.call (d := 31) (g := 60) (ats := #[73]) (args := [.tmp 30]) (owed := []) F60 (cmp_Or_int_ok (⟨some (pt b12 0), 3, 3⟩ : Sl)) (fun r13 => ?_)
  refine OW.nil ?_
  refine OJ.go 1 [(4, .int .i64 r13)] ?_
  refine OJ.nil ?_
  exact SJ.ret rfl (Res.run (ys := [.int .i64 r13]) (.tmp (by kernel_rfl) .nil) rfl)

/-! ### (*weir/route.Table).All$1: function 42 -/
noncomputable def route_Table_All_1.B : Code := (Tryd.f42.body).getD .skip
noncomputable def route_Table_All_1.cx : Fx := ⟨Tryd.prog, 42, Tryd.f42, none⟩
noncomputable def route_Table_All_1.out (r_ : Unit) : Value := .tuple #[]
noncomputable def route_Table_All_1.F0 (r_ : Unit) : Reach := .ret (route_Table_All_1.out r_)
noncomputable def route_Table_All_1.F1 (a0v : Any) (r7 : Sl) : (LS Int Unit) → Reach := loopF [.inLoop (c1 (c1 (c2 route_Table_All_1.B))), .inBlock 0] (fun s_ : Int => [(0, a0v.v), (10, Sl.v r7), (11, .int .i64 (r7.len : Int)), (12, .int .i64 s_)]) (fun s_ : Int => []) route_Table_All_1.F0
noncomputable def route_Table_All_1.L1 (a0 : api_Route → M Bool) (r7 : Sl) (s8 : Int) : M (LS Int Unit) :=
  if s8 < (r7.len : Int) then
    idx r7.a r7.len s8 36 >>= fun p9 =>
    ld c_api_Route p9 >>= fun x10 =>
    slot 32 >>= fun b11 =>
    a0 x10 >>= fun r12 =>
    if ¬ (r12 = true) then
      pure (LS.done ())
    else
      pure (LS.next (IntKind.wrap .i64 (s8 + 1)))
  else
    pure (LS.done ())
theorem route_Table_All_1.L1_ok (a0v : Any) (a0 : api_Route → M Bool) (h_a0 : ∀ (x0_ : api_Route), RefV Tryd.prog a0v.v [c_api_Route.val x0_] (a0 x0_) (fun r_ : Bool => .bool r_)) (r7 : Sl) (s8 : Int) :
    SJ route_Table_All_1.cx [.code (c1 (c1 (c2 route_Table_All_1.B))), .inLoop (c1 (c1 (c2 route_Table_All_1.B))), .inBlock 0] [(0, a0v.v), (10, Sl.v r7), (11, .int .i64 (r7.len : Int)), (12, .int .i64 s8)] [] (route_Table_All_1.L1 a0 r7 s8) (route_Table_All_1.F1 a0v r7) := by
  unfold route_Table_All_1.L1
  refine SJ.sr 1 ?_
  refine OJ.go 1 [(13, .bool (decide (s8 < (r7.len : Int))))] ?_
  refine OJ.nil ?_
  refine SJ.seq ?_
  refine SJ.cond (t := (.tmp 13)) (b := decide (s8 < (r7.len : Int))) decide_eq_true_iff (fun hc14 => ?_) (fun hc14 => ?_)
  · refine SJ.skip ?_
    refine SJ.seq ?_
    refine SJ.block (id := 1) ?_
    refine SJ.sr 4 ?_
    refine OJ.idxS (d := 14) (T := 39) (y := .tmp 10) (j := .tmp 12) (E := 32) (cap := r7.cap) (k := .i64) (fun p9 => ?_)
    refine OJ.ld (d := 15) (y := .tmp 14) (pend2 := fun x10 => []) Ty32 (fun _ => rfl) (fun x10 => ?_)
    refine OJ.slotOf (d := 4) (op := (.alloc 32)) (cd := c_api_Route) (u := z_api_Route) (owed := []) (alloc_run Ty32) (fun b11 => ?_)
    refine OW.nil ?_
    refine OJ.kst (y := .tmp 4) (z := .tmp 15) (cd := c_api_Route) (u := x10) (j := 0) (b := b11) (o := 0) (c_api_Route.enc x10) (owed := []) Ty32 rfl (Upd.whole ((Cod.len _ _).trans (Cod.len _ _).symm)) rfl ?_
    refine OW.nil ?_
    refine OJ.nil ?_
    refine SJ.sr 4 ?_
    refine OJ.go 1 [(16, a0v.v)] ?_
    refine OJ.kld (d := 17) (y := .tmp 4) (cd := c_api_Route) (j := 0) (b := b11) (o := 0) x10 (pend2 := []) Ty32 rfl (At.whole _) rfl ?_
    refine OJ.callV1 (d := 18) (ats := #[32]) (args := [.tmp 17]) (fo := .tmp 16) (vals := [c_api_Route.val x10]) (owed := []) (h_a0 x10) (fun r12 => ?_)
    refine OW.nil ?_
    refine OJ.go 1 [(19, .bool (!r12))] ?_
    refine OJ.nil ?_
    refine SJ.cond (t := (.tmp 19)) (b := (!r12)) (bnot_iff Iff.rfl) (fun hc13 => ?_) (fun hc13 => ?_)
    · exact SJ.ret rfl (Res.run (ys := []) .nil rfl)
    · refine SJ.skip ?_
      refine SJ.inBlock ?_
      refine SJ.rg 2 ?_
      refine OJ.go 2 [(12, .int .i64 (IntKind.wrap .i64 (s8 + 1))), (20, .int .i64 (IntKind.wrap .i64 (s8 + 1)))] ?_
      refine OJ.nil ?_
      refine SJ.forget (List.Sublist.cons _ List.Sublist.slnil) ?_
      exact SJ.at_ [0, 10, 11, 12] rfl
  · refine SJ.exit (id := 0) (by rfl) ?_
    exact SJ.end_ rfl (Res.run (ys := []) .nil rfl)
noncomputable def route_Table_All_1 (a0 : api_Route → M Bool) (a1 : Addr) : M Unit :=
  ld cP a1 >>= fun x1 =>
  nilck x1 >>= fun p2 =>
  ld cM p2 >>= fun x3 =>
  maps_Values_map_api_Prefix_api_Route_api_Prefix_api_Route x3 >>= fun r4 =>
  slices_SortedFunc_api_Route r4 (fun (q5 : api_Route) (q6 : api_Route) => route_order q5 q6) >>= fun r7 =>
  loopM (fun s_ : Int => route_Table_All_1.L1 a0 r7 s_) 0
theorem route_Table_All_1_ok (a0v : Any) (a0 : api_Route → M Bool) (h_a0 : ∀ (x0_ : api_Route), RefV Tryd.prog a0v.v [c_api_Route.val x0_] (a0 x0_) (fun r_ : Bool => .bool r_)) (a1 : Addr) : Ref Tryd.prog 42 [a0v.v, .pointer (some a1)] (route_Table_All_1 a0 a1) route_Table_All_1.out := by
  refine Ref.of (cd := route_Table_All_1.B) Tryd.func42 ?_
  show SJ route_Table_All_1.cx [.code route_Table_All_1.B] [(0, a0v.v), (1, .pointer (some a1))] [] (route_Table_All_1 a0 a1) route_Table_All_1.F0
  unfold route_Table_All_1
  refine SJ.sr 8 ?_
  refine OJ.ld (d := 5) (y := .tmp 1) (pend2 := fun x1 => []) Ty22 (fun _ => rfl) (fun x1 => ?_)
  refine OJ.nilck (d := 6) (y := .tmp 5) (fun p2 => ?_)
  refine OJ.go 1 [(7, .pointer (some p2))] ?_
  refine OJ.ld (d := 8) (y := .tmp 7) (pend2 := fun x3 => []) Ty79 (fun _ => rfl) (fun x3 => ?_)
  refine OJ.call (d := 9) (g := 44) (ats := #[79]) (args := [.tmp 8]) (owed := []) F44 (maps_Values_map_api_Prefix_api_Route_api_Prefix_api_Route_ok x3) (fun r4 => ?_)
  refine OW.nil ?_
  refine OJ.call (d := 10) (g := 43) (ats := #[62, 97]) (args := [.tmp 9, .func 45]) (owed := []) F43 (slices_SortedFunc_api_Route_ok r4 ⟨.func (.func 45) #[] #[], rfl⟩ (fun (q5 : api_Route) (q6 : api_Route) => route_order q5 q6) (fun q5 q6 => RefV.of (first := []) (cap := []) F45 (route_order_ok q5 q6))) (fun r7 => ?_)
  refine OW.nil ?_
  refine OJ.go 2 [(12, .int .i64 0), (11, .int .i64 (r7.len : Int))] ?_
  refine OJ.nil ?_
  refine SJ.block (id := 0) ?_
  exact SJ.loop (fun s_ : Int => [(0, a0v.v), (10, Sl.v r7), (11, .int .i64 (r7.len : Int)), (12, .int .i64 s_)]) (fun s_ : Int => []) [0, 10, 11, 12] rfl (fun _ _ => rfl) (fun s_ => route_Table_All_1.L1_ok a0v a0 h_a0 r7 s_)

/-! ### (*weir/route.Table).All: function 24 -/
noncomputable def route_Table_All.B : Code := (Tryd.f24.body).getD .skip
noncomputable def route_Table_All.cx : Fx := ⟨Tryd.prog, 24, Tryd.f24, none⟩
noncomputable def route_Table_All.out (r_ : Any) : Value := r_.v
noncomputable def route_Table_All.F0 (r_ : Any) : Reach := .ret (route_Table_All.out r_)
noncomputable def route_Table_All (a0 : (Option Addr)) : M Any :=
  newv 22 cP a0 >>= fun b1 =>
  pure ⟨.func (.func 42) #[] #[.pointer (some (pt b1 0))], rfl⟩
theorem route_Table_All_ok (a0 : (Option Addr)) : Ref Tryd.prog 24 [.pointer a0] (route_Table_All a0) route_Table_All.out := by
  refine Ref.of (cd := route_Table_All.B) Tryd.func24 ?_
  show SJ route_Table_All.cx [.code route_Table_All.B] [(0, .pointer a0)] [] (route_Table_All a0) route_Table_All.F0
  unfold route_Table_All
  refine SJ.sr 2 ?_
  refine OJ.newOf (d := 1) (op := (.box 22 (.tmp 0))) (cd := cP) (u := a0) (owed := []) (box_run (by kernel_rfl)) (fun b1 => ?_)
  refine OW.nil ?_
  refine OJ.go 1 [(2, (⟨.nilFunc, rfl⟩ : Any).v)] ?_
  refine OJ.nil ?_
  refine SJ.sr 2 ?_
  refine OJ.go 2 [(2, .func (.func 42) #[] #[.pointer (some (pt b1 0))]), (3, .func (.func 42) #[] #[.pointer (some (pt b1 0))])] ?_
  refine OJ.nil ?_
  exact SJ.ret rfl (Res.run (ys := [.func (.func 42) #[] #[.pointer (some (pt b1 0))]]) (.tmp (by kernel_rfl) .nil) rfl)

/-! ### weir/weirlaw14.same: function 20 -/
noncomputable def weirlaw14_same.B : Code := (Tryd.f20.body).getD .skip
noncomputable def weirlaw14_same.cx : Fx := ⟨Tryd.prog, 20, Tryd.f20, none⟩
noncomputable def weirlaw14_same.out (r_ : Bool) : Value := .bool r_
noncomputable def weirlaw14_same.F0 (r_ : Bool) : Reach := .ret (weirlaw14_same.out r_)
noncomputable def weirlaw14_same.F1 (a0 : Sl) (a1 : Sl) : (LS Int Bool) → Reach := loopF [.inLoop (c1 (c1 (c2 (c1 (c2 (c2 weirlaw14_same.B)))))), .inBlock 0, .code (c2 (c2 (c2 weirlaw14_same.B)))] (fun s_ : Int => [(0, Sl.v a0), (1, Sl.v a1), (5, .int .i64 s_)]) (fun s_ : Int => []) weirlaw14_same.F0
noncomputable def weirlaw14_same.L1 (a0 : Sl) (a1 : Sl) (s1 : Int) : M (LS Int Bool) :=
  if s1 < (a0.len : Int) then
    draw >>= fun _ =>
    idx a0.a a0.len s1 36 >>= fun p8 =>
    ld c_api_Route p8 >>= fun x9 =>
    idx a1.a a1.len s1 36 >>= fun p10 =>
    ld c_api_Route p10 >>= fun x11 =>
    if ¬ (x9 = x11) then
      pure (LS.done false)
    else
      pure (LS.next (IntKind.wrap .i64 (s1 + 1)))
  else
    pure (LS.done true)
theorem weirlaw14_same.L1_ok (a0 : Sl) (a1 : Sl) (s1 : Int) :
    SJ weirlaw14_same.cx [.code (c1 (c1 (c2 (c1 (c2 (c2 weirlaw14_same.B)))))), .inLoop (c1 (c1 (c2 (c1 (c2 (c2 weirlaw14_same.B)))))), .inBlock 0, .code (c2 (c2 (c2 weirlaw14_same.B)))] [(0, Sl.v a0), (1, Sl.v a1), (5, .int .i64 s1)] [] (weirlaw14_same.L1 a0 a1 s1) (weirlaw14_same.F1 a0 a1) := by
  unfold weirlaw14_same.L1
  refine SJ.seq ?_
  refine SJ.sr 4 ?_
  refine OJ.go 4 [(14, .bool (decide (s1 < (a0.len : Int)))), (13, .int .i64 (a0.len : Int)), (12, Sl.v a0), (11, .int .i64 s1)] ?_
  refine OJ.nil ?_
  refine SJ.cond (t := (.tmp 14)) (b := decide (s1 < (a0.len : Int))) decide_eq_true_iff (fun hc13 => ?_) (fun hc13 => ?_)
  · refine SJ.skip ?_
    refine SJ.seq ?_
    refine SJ.block (id := 1) ?_
    refine SJ.seq ?_
    refine SJ.draw (id := 6) (kd := [0, 0, 0, 1, 0, 0, 0, 1, 0]) (bef := [0, 0, 3, 7, 0, 0, 48, 112, 255]) (ord := [0, 1, 2, 3, 4, 5, 6, 7, 8]) mixed ?_
    refine OJ.go 2 [(18, .int .i64 s1), (17, Sl.v a0)] ?_
    refine OJ.idxS (d := 19) (T := 39) (y := .tmp 17) (j := .tmp 18) (E := 32) (cap := a0.cap) (k := .i64) (fun p8 => ?_)
    refine OJ.ld (d := 20) (y := .tmp 19) (pend2 := fun x9 => [⟨3, 32, p8, c_api_Route.val x9⟩]) Ty32 (fun _ => rfl) (fun x9 => ?_)
    refine OJ.go 2 [(22, .int .i64 s1), (21, Sl.v a1)] ?_
    refine OJ.idxS (d := 23) (T := 39) (y := .tmp 21) (j := .tmp 22) (E := 32) (cap := a1.cap) (k := .i64) (fun p10 => ?_)
    refine OJ.ld (d := 24) (y := .tmp 23) (pend2 := fun x11 => [⟨7, 32, p10, c_api_Route.val x11⟩, ⟨3, 32, p8, c_api_Route.val x9⟩]) Ty32 (fun _ => rfl) (fun x11 => ?_)
    refine OJ.neq (d := 25) (T := 32) (yT := 32) (y := .tmp 20) (z := .tmp 24) (cd := c_api_Route) (p := x9) (q := x11) rfl Eq32 ?_
    refine OJ.nil ?_
    refine SJ.cond (t := (.tmp 25)) (b := (!eqv x9 x11)) (bnot_iff eqv_iff) (fun hc12 => ?_) (fun hc12 => ?_)
    · refine SJ.sr 1 ?_
      refine OJ.go 1 [(4, .bool false)] ?_
      refine OJ.nil ?_
      exact SJ.ret rfl (Res.run (ys := [.bool false]) (.tmp (by kernel_rfl) .nil) rfl)
    · refine SJ.skip ?_
      refine SJ.inBlock ?_
      refine SJ.rg 3 ?_
      refine OJ.go 3 [(5, .int .i64 (IntKind.wrap .i64 (s1 + 1))), (16, .int .i64 (IntKind.wrap .i64 (s1 + 1))), (15, .int .i64 s1)] ?_
      refine OJ.nil ?_
      exact SJ.at_ [0, 1, 5] rfl
  · refine SJ.exit (id := 0) (by rfl) ?_
    refine SJ.sr 1 ?_
    refine OJ.go 1 [(4, .bool true)] ?_
    refine OJ.nil ?_
    exact SJ.ret rfl (Res.run (ys := [.bool true]) (.tmp (by kernel_rfl) .nil) rfl)
noncomputable def weirlaw14_same (a0 : Sl) (a1 : Sl) : M Bool :=
  if (a0.len : Int) ≠ (a1.len : Int) then
    pure false
  else
    loopM (fun s_ : Int => weirlaw14_same.L1 a0 a1 s_) 0
theorem weirlaw14_same_ok (a0 : Sl) (a1 : Sl) : Ref Tryd.prog 20 [Sl.v a0, Sl.v a1] (weirlaw14_same a0 a1) weirlaw14_same.out := by
  refine Ref.of (cd := weirlaw14_same.B) Tryd.func20 ?_
  show SJ weirlaw14_same.cx [.code weirlaw14_same.B] [(0, Sl.v a0), (1, Sl.v a1)] [] (weirlaw14_same a0 a1) weirlaw14_same.F0
  unfold weirlaw14_same
  refine SJ.sr 1 ?_
  refine OJ.go 1 [(4, .bool false)] ?_
  refine OJ.nil ?_
  refine SJ.seq ?_
  refine SJ.sr 5 ?_
  refine OJ.go 5 [(10, .bool ((a0.len : Int) != (a1.len : Int))), (9, .int .i64 (a1.len : Int)), (8, Sl.v a1), (7, .int .i64 (a0.len : Int)), (6, Sl.v a0)] ?_
  refine OJ.nil ?_
  refine SJ.cond (t := (.tmp 10)) (b := ((a0.len : Int) != (a1.len : Int))) bne_iff_ne (fun hc14 => ?_) (fun hc14 => ?_)
  · refine SJ.sr 1 ?_
    refine OJ.go 1 [(4, .bool false)] ?_
    refine OJ.nil ?_
    exact SJ.ret rfl (Res.run (ys := [.bool false]) (.tmp (by kernel_rfl) .nil) rfl)
  · refine SJ.skip ?_
    refine SJ.seq ?_
    refine SJ.sr 1 ?_
    refine OJ.go 1 [(5, .int .i64 0)] ?_
    refine OJ.nil ?_
    refine SJ.block (id := 0) ?_
    exact SJ.loop (fun s_ : Int => [(0, Sl.v a0), (1, Sl.v a1), (5, .int .i64 s_)]) (fun s_ : Int => []) [0, 1, 5] rfl (fun _ _ => rfl) (fun s_ => weirlaw14_same.L1_ok a0 a1 s_)
end Go.Proofs.YtfgcobigollfjaaDoor.Lx
