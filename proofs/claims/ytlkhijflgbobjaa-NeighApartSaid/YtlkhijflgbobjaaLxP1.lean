/- Programs of the M-world for Go functions, each with the proof that the Go text does what it says. Printed by lxgen.py. -/
import Derived.Test.YtlkhijflgbobjaaLxT
import Derived.Test.YtlkhijflgbobjaaLxP0
set_option linter.unusedVariables false
set_option linter.unusedSimpArgs false
namespace Go.Proofs.Ytlkhijflgbobjaa.Lx
open Go Go.Proofs
/-! ### slices.partialInsertionSortCmpFunc[*weir/neigh.entry]: function 83 -/
noncomputable def slices_partialInsertionSortCmpFunc_neigh_entry.B : Code := (Try.f83.body).getD .skip
noncomputable def slices_partialInsertionSortCmpFunc_neigh_entry.cx : Fx := ⟨Try.prog, 83, Try.f83⟩
noncomputable def slices_partialInsertionSortCmpFunc_neigh_entry.out (r_ : Bool) : Value := .bool r_
noncomputable def slices_partialInsertionSortCmpFunc_neigh_entry.F0 (r_ : Bool) : Reach := .ret (slices_partialInsertionSortCmpFunc_neigh_entry.out r_)
noncomputable def slices_partialInsertionSortCmpFunc_neigh_entry.F1 (a0 : Sl) (a1 : Int) (a2 : Int) (a3v : Any) : (LS (Int × Int) Bool) → Reach := loopF [.inLoop (c1 (c1 (c2 (c1 (c2 (c2 slices_partialInsertionSortCmpFunc_neigh_entry.B)))))), .inBlock 0, .code (c2 (c2 (c2 slices_partialInsertionSortCmpFunc_neigh_entry.B)))] (fun s_ : (Int × Int) => [(0, Sl.v a0), (1, .int .i64 a1), (2, .int .i64 a2), (3, a3v.v), (9, .int .i64 s_.1), (10, .int .i64 s_.2)]) (fun s_ : (Int × Int) => []) slices_partialInsertionSortCmpFunc_neigh_entry.F0
noncomputable def slices_partialInsertionSortCmpFunc_neigh_entry.K1 (s2 : Int) (s137 : Int) : M (LS (Int × Int) Bool) :=
  pure (LS.next (s137, IntKind.wrap .i64 (s2 + 1)))
theorem slices_partialInsertionSortCmpFunc_neigh_entry.K1_ok (a0 : Sl) (a1 : Int) (a2 : Int) (a3v : Any) (s2 : Int) (s137 : Int) :
    SJ slices_partialInsertionSortCmpFunc_neigh_entry.cx [.inBlock 1, .code (c2 (c2 (c1 (c1 (c2 (c1 (c2 (c2 slices_partialInsertionSortCmpFunc_neigh_entry.B)))))))), .inLoop (c1 (c1 (c2 (c1 (c2 (c2 slices_partialInsertionSortCmpFunc_neigh_entry.B)))))), .inBlock 0, .code (c2 (c2 (c2 slices_partialInsertionSortCmpFunc_neigh_entry.B)))] [(0, Sl.v a0), (1, .int .i64 a1), (2, .int .i64 a2), (3, a3v.v), (9, .int .i64 s137), (10, .int .i64 s2)] [] (slices_partialInsertionSortCmpFunc_neigh_entry.K1 s2 s137) (slices_partialInsertionSortCmpFunc_neigh_entry.F1 a0 a1 a2 a3v) := by
  unfold slices_partialInsertionSortCmpFunc_neigh_entry.K1
  refine SJ.inBlock ?_
  refine SJ.rg 3 ?_
  refine OJ.go 3 [(10, .int .i64 (IntKind.wrap .i64 (s2 + 1))), (18, .int .i64 (IntKind.wrap .i64 (s2 + 1))), (17, .int .i64 s2)] ?_
  refine OJ.nil ?_
  exact SJ.at_ [0, 1, 2, 3, 9, 10] rfl
noncomputable def slices_partialInsertionSortCmpFunc_neigh_entry.F2 (a0 : Sl) (a1 : Int) (a2 : Int) (a3v : Any) (s2 : Int) (s137 : Int) : (LS Int (LS (Int × Int) Bool)) → Reach := loopF [.inLoop (c1 (c1 (c2 (c1 (c2 (c2 (c2 (c2 (c2 (c2 (c1 (c1 (c2 (c1 (c1 (c2 (c1 (c2 (c2 slices_partialInsertionSortCmpFunc_neigh_entry.B))))))))))))))))))), .inBlock 6, .inBlock 1, .code (c2 (c2 (c1 (c1 (c2 (c1 (c2 (c2 slices_partialInsertionSortCmpFunc_neigh_entry.B)))))))), .inLoop (c1 (c1 (c2 (c1 (c2 (c2 slices_partialInsertionSortCmpFunc_neigh_entry.B)))))), .inBlock 0, .code (c2 (c2 (c2 slices_partialInsertionSortCmpFunc_neigh_entry.B)))] (fun s_ : Int => [(0, Sl.v a0), (1, .int .i64 a1), (2, .int .i64 a2), (3, a3v.v), (9, .int .i64 s137), (10, .int .i64 s2), (12, .int .i64 s_)]) (fun s_ : Int => []) (slices_partialInsertionSortCmpFunc_neigh_entry.F1 a0 a1 a2 a3v)
noncomputable def slices_partialInsertionSortCmpFunc_neigh_entry.L2 (a0 : Sl) (a2 : Int) (a3 : (Option Addr) → (Option Addr) → M Int) (s2 : Int) (s137 : Int) (s205 : Int) : M (LS Int (LS (Int × Int) Bool)) :=
  if s205 < a2 then
    draw >>= fun _ =>
    idx a0.a a0.len s205 1 >>= fun p219 =>
    ld cP p219 >>= fun x220 =>
    idx a0.a a0.len (IntKind.wrap .i64 (s205 - 1)) 1 >>= fun p221 =>
    ld cP p221 >>= fun x222 =>
    a3 x220 x222 >>= fun r223 =>
    if ¬ (r223 < 0) then
      (slices_partialInsertionSortCmpFunc_neigh_entry.K1 s2 s137) >>= fun b => pure (LS.done b)
    else
      draw >>= fun _ =>
      idx a0.a a0.len (IntKind.wrap .i64 (s205 - 1)) 1 >>= fun p224 =>
      ld cP p224 >>= fun x225 =>
      idx a0.a a0.len s205 1 >>= fun p226 =>
      ld cP p226 >>= fun x227 =>
      idx a0.a a0.len s205 1 >>= fun p228 =>
      st cP p228 x225 >>= fun _ =>
      idx a0.a a0.len (IntKind.wrap .i64 (s205 - 1)) 1 >>= fun p229 =>
      st cP p229 x227 >>= fun _ =>
      pure (LS.next (IntKind.wrap .i64 (s205 + 1)))
  else
    (slices_partialInsertionSortCmpFunc_neigh_entry.K1 s2 s137) >>= fun b => pure (LS.done b)
theorem slices_partialInsertionSortCmpFunc_neigh_entry.L2_ok (a0 : Sl) (a1 : Int) (a2 : Int) (a3v : Any) (a3 : (Option Addr) → (Option Addr) → M Int) (h_a3 : ∀ (x0_ : (Option Addr)), ∀ (x1_ : (Option Addr)), RefV Try.prog a3v.v [.pointer x0_, .pointer x1_] (a3 x0_ x1_) (fun r_ : Int => .int .i64 r_)) (s2 : Int) (s137 : Int) (s205 : Int) :
    SJ slices_partialInsertionSortCmpFunc_neigh_entry.cx [.code (c1 (c1 (c2 (c1 (c2 (c2 (c2 (c2 (c2 (c2 (c1 (c1 (c2 (c1 (c1 (c2 (c1 (c2 (c2 slices_partialInsertionSortCmpFunc_neigh_entry.B))))))))))))))))))), .inLoop (c1 (c1 (c2 (c1 (c2 (c2 (c2 (c2 (c2 (c2 (c1 (c1 (c2 (c1 (c1 (c2 (c1 (c2 (c2 slices_partialInsertionSortCmpFunc_neigh_entry.B))))))))))))))))))), .inBlock 6, .inBlock 1, .code (c2 (c2 (c1 (c1 (c2 (c1 (c2 (c2 slices_partialInsertionSortCmpFunc_neigh_entry.B)))))))), .inLoop (c1 (c1 (c2 (c1 (c2 (c2 slices_partialInsertionSortCmpFunc_neigh_entry.B)))))), .inBlock 0, .code (c2 (c2 (c2 slices_partialInsertionSortCmpFunc_neigh_entry.B)))] [(0, Sl.v a0), (1, .int .i64 a1), (2, .int .i64 a2), (3, a3v.v), (9, .int .i64 s137), (10, .int .i64 s2), (12, .int .i64 s205)] [] (slices_partialInsertionSortCmpFunc_neigh_entry.L2 a0 a2 a3 s2 s137 s205) (slices_partialInsertionSortCmpFunc_neigh_entry.F2 a0 a1 a2 a3v s2 s137) := by
  unfold slices_partialInsertionSortCmpFunc_neigh_entry.L2
  refine SJ.seq ?_
  refine SJ.sr 3 ?_
  refine OJ.go 3 [(109, .bool (decide (s205 < a2))), (108, .int .i64 a2), (107, .int .i64 s205)] ?_
  refine OJ.nil ?_
  refine SJ.cond (t := (.tmp 109)) (b := decide (s205 < a2)) decide_eq_true_iff (fun hc231 => ?_) (fun hc231 => ?_)
  · refine SJ.skip ?_
    refine SJ.seq ?_
    refine SJ.block (id := 7) ?_
    refine SJ.seq ?_
    refine SJ.seq ?_
    refine SJ.draw (id := 22) (kd := [0, 0, 0, 0, 1, 0, 0, 0, 0, 1, 2, 0, 0]) (bef := [0, 0, 0, 6, 14, 0, 0, 64, 224, 480, 1023, 2047, 4095]) (ord := [0, 1, 2, 3, 4, 5, 6, 7, 8, 9, 10, 11, 12]) mixed ?_
    refine OJ.go 3 [(114, .int .i64 s205), (113, Sl.v a0), (112, a3v.v)] ?_
    refine OJ.idxS (d := 115) (T := 108) (y := .tmp 113) (j := .tmp 114) (E := 100) (cap := a0.cap) (k := .i64) (fun p219 => ?_)
    refine OJ.ld (d := 116) (y := .tmp 115) (pend2 := fun x220 => [⟨4, 100, p219, cP.val x220⟩]) Ty100 (fun _ => rfl) (fun x220 => ?_)
    refine OJ.go 3 [(119, .int .i64 (IntKind.wrap .i64 (s205 - 1))), (118, .int .i64 s205), (117, Sl.v a0)] ?_
    refine OJ.idxS (d := 120) (T := 108) (y := .tmp 117) (j := .tmp 119) (E := 100) (cap := a0.cap) (k := .i64) (fun p221 => ?_)
    refine OJ.ld (d := 121) (y := .tmp 120) (pend2 := fun x222 => [⟨9, 100, p221, cP.val x222⟩, ⟨4, 100, p219, cP.val x220⟩]) Ty100 (fun _ => rfl) (fun x222 => ?_)
    refine OJ.callV1 (d := 122) (ats := #[100, 100]) (args := [.tmp 116, .tmp 121]) (fo := .tmp 112) (vals := [.pointer x220, .pointer x222]) (owed := []) (h_a3 x220 x222) (fun r223 => ?_)
    refine OW.nil ?_
    refine OJ.go 2 [(124, .bool (!(decide (r223 < 0)))), (123, .bool (decide (r223 < 0)))] ?_
    refine OJ.nil ?_
    refine SJ.cond (t := (.tmp 124)) (b := (!(decide (r223 < 0)))) (bnot_iff decide_eq_true_iff) (fun hc230 => ?_) (fun hc230 => ?_)
    · refine SJ.exit (id := 6) (by rfl) ?_
      refine SJ.less [0, 1, 2, 3, 9, 10] (m' := [(0, Sl.v a0), (1, .int .i64 a1), (2, .int .i64 a2), (3, a3v.v), (9, .int .i64 s137), (10, .int .i64 s2)]) ?_
      refine SJ.done ?_
      exact slices_partialInsertionSortCmpFunc_neigh_entry.K1_ok a0 a1 a2 a3v s2 s137
    · refine SJ.skip ?_
      refine SJ.draw (id := 23) (kd := [0, 0, 0, 0, 0, 0, 0, 0, 0, 1, 0, 0, 0, 1, 0, 2, 0, 2]) (bef := [0, 0, 0, 0, 8, 0, 0, 64, 224, 480, 0, 0, 3072, 7168, 16355, 32739, 65535, 131071]) (ord := [0, 1, 2, 3, 4, 5, 6, 7, 8, 9, 10, 11, 12, 13, 14, 15, 16, 17]) mixed ?_
      refine OJ.go 8 [(132, .int .i64 (IntKind.wrap .i64 (s205 - 1))), (131, .int .i64 s205), (130, Sl.v a0), (129, .int .i64 (IntKind.wrap .i64 (s205 - 1))), (128, .int .i64 s205), (127, Sl.v a0), (126, .int .i64 s205), (125, Sl.v a0)] ?_
      refine OJ.idxS (d := 133) (T := 108) (y := .tmp 130) (j := .tmp 132) (E := 100) (cap := a0.cap) (k := .i64) (fun p224 => ?_)
      refine OJ.ld (d := 134) (y := .tmp 133) (pend2 := fun x225 => [⟨9, 100, p224, cP.val x225⟩]) Ty100 (fun _ => rfl) (fun x225 => ?_)
      refine OJ.go 2 [(136, .int .i64 s205), (135, Sl.v a0)] ?_
      refine OJ.idxS (d := 137) (T := 108) (y := .tmp 135) (j := .tmp 136) (E := 100) (cap := a0.cap) (k := .i64) (fun p226 => ?_)
      refine OJ.ld (d := 138) (y := .tmp 137) (pend2 := fun x227 => [⟨13, 100, p226, cP.val x227⟩, ⟨9, 100, p224, cP.val x225⟩]) Ty100 (fun _ => rfl) (fun x227 => ?_)
      refine OJ.idxS (d := 139) (T := 108) (y := .tmp 125) (j := .tmp 126) (E := 100) (cap := a0.cap) (k := .i64) (fun p228 => ?_)
      refine OJ.st (y := .tmp 139) (z := .tmp 134) (owed := []) Ty100 ?_
      refine OW.nil ?_
      refine OJ.idxS (d := 140) (T := 108) (y := .tmp 127) (j := .tmp 129) (E := 100) (cap := a0.cap) (k := .i64) (fun p229 => ?_)
      refine OJ.st (y := .tmp 140) (z := .tmp 138) (owed := []) Ty100 ?_
      refine OW.nil ?_
      refine OJ.nil ?_
      refine SJ.inBlock ?_
      refine SJ.rg 3 ?_
      refine OJ.go 3 [(12, .int .i64 (IntKind.wrap .i64 (s205 + 1))), (111, .int .i64 (IntKind.wrap .i64 (s205 + 1))), (110, .int .i64 s205)] ?_
      refine OJ.nil ?_
      exact SJ.at_ [0, 1, 2, 3, 9, 10, 12] rfl
  · refine SJ.exit (id := 6) (by rfl) ?_
    refine SJ.less [0, 1, 2, 3, 9, 10] (m' := [(0, Sl.v a0), (1, .int .i64 a1), (2, .int .i64 a2), (3, a3v.v), (9, .int .i64 s137), (10, .int .i64 s2)]) ?_
    refine SJ.done ?_
    exact slices_partialInsertionSortCmpFunc_neigh_entry.K1_ok a0 a1 a2 a3v s2 s137
noncomputable def slices_partialInsertionSortCmpFunc_neigh_entry.K2 (a0 : Sl) (a2 : Int) (a3 : (Option Addr) → (Option Addr) → M Int) (s2 : Int) (s137 : Int) : M (LS (Int × Int) Bool) :=
  if (IntKind.wrap .i64 (a2 - s137)) ≥ 2 then
    loopM (fun s_ : Int => slices_partialInsertionSortCmpFunc_neigh_entry.L2 a0 a2 a3 s2 s137 s_) (IntKind.wrap .i64 (s137 + 1))
  else
    slices_partialInsertionSortCmpFunc_neigh_entry.K1 s2 s137
theorem slices_partialInsertionSortCmpFunc_neigh_entry.K2_ok (a0 : Sl) (a1 : Int) (a2 : Int) (a3v : Any) (a3 : (Option Addr) → (Option Addr) → M Int) (h_a3 : ∀ (x0_ : (Option Addr)), ∀ (x1_ : (Option Addr)), RefV Try.prog a3v.v [.pointer x0_, .pointer x1_] (a3 x0_ x1_) (fun r_ : Int => .int .i64 r_)) (s2 : Int) (s137 : Int) :
    SJ slices_partialInsertionSortCmpFunc_neigh_entry.cx [.code (c2 (c2 (c2 (c2 (c2 (c1 (c1 (c2 (c1 (c1 (c2 (c1 (c2 (c2 slices_partialInsertionSortCmpFunc_neigh_entry.B)))))))))))))), .inBlock 1, .code (c2 (c2 (c1 (c1 (c2 (c1 (c2 (c2 slices_partialInsertionSortCmpFunc_neigh_entry.B)))))))), .inLoop (c1 (c1 (c2 (c1 (c2 (c2 slices_partialInsertionSortCmpFunc_neigh_entry.B)))))), .inBlock 0, .code (c2 (c2 (c2 slices_partialInsertionSortCmpFunc_neigh_entry.B)))] [(0, Sl.v a0), (1, .int .i64 a1), (2, .int .i64 a2), (3, a3v.v), (9, .int .i64 s137), (10, .int .i64 s2)] [] (slices_partialInsertionSortCmpFunc_neigh_entry.K2 a0 a2 a3 s2 s137) (slices_partialInsertionSortCmpFunc_neigh_entry.F1 a0 a1 a2 a3v) := by
  unfold slices_partialInsertionSortCmpFunc_neigh_entry.K2
  refine SJ.sr 4 ?_
  refine OJ.go 4 [(104, .bool (decide ((IntKind.wrap .i64 (a2 - s137)) ≥ 2))), (103, .int .i64 (IntKind.wrap .i64 (a2 - s137))), (102, .int .i64 s137), (101, .int .i64 a2)] ?_
  refine OJ.nil ?_
  refine SJ.cond (t := (.tmp 104)) (b := decide ((IntKind.wrap .i64 (a2 - s137)) ≥ 2)) decide_eq_true_iff (fun hc232 => ?_) (fun hc232 => ?_)
  · refine SJ.sr 3 ?_
    refine OJ.go 3 [(12, .int .i64 (IntKind.wrap .i64 (s137 + 1))), (106, .int .i64 (IntKind.wrap .i64 (s137 + 1))), (105, .int .i64 s137)] ?_
    refine OJ.nil ?_
    refine SJ.block (id := 6) ?_
    exact SJ.loop (fun s_ : Int => [(0, Sl.v a0), (1, .int .i64 a1), (2, .int .i64 a2), (3, a3v.v), (9, .int .i64 s137), (10, .int .i64 s2), (12, .int .i64 s_)]) (fun s_ : Int => []) [0, 1, 2, 3, 9, 10, 12] rfl (fun _ _ => rfl) (fun s_ => slices_partialInsertionSortCmpFunc_neigh_entry.L2_ok a0 a1 a2 a3v a3 h_a3 s2 s137 s_)
  · refine SJ.skip ?_
    refine SJ.less [0, 1, 2, 3, 9, 10] (m' := [(0, Sl.v a0), (1, .int .i64 a1), (2, .int .i64 a2), (3, a3v.v), (9, .int .i64 s137), (10, .int .i64 s2)]) ?_
    exact slices_partialInsertionSortCmpFunc_neigh_entry.K1_ok a0 a1 a2 a3v s2 s137
noncomputable def slices_partialInsertionSortCmpFunc_neigh_entry.K3 (a0 : Sl) (a2 : Int) (a3 : (Option Addr) → (Option Addr) → M Int) (s2 : Int) (s137 : Int) : M (LS (Int × Int) Bool) :=
  slices_partialInsertionSortCmpFunc_neigh_entry.K2 a0 a2 a3 s2 s137
theorem slices_partialInsertionSortCmpFunc_neigh_entry.K3_ok (a0 : Sl) (a1 : Int) (a2 : Int) (a3v : Any) (a3 : (Option Addr) → (Option Addr) → M Int) (h_a3 : ∀ (x0_ : (Option Addr)), ∀ (x1_ : (Option Addr)), RefV Try.prog a3v.v [.pointer x0_, .pointer x1_] (a3 x0_ x1_) (fun r_ : Int => .int .i64 r_)) (s2 : Int) (s137 : Int) :
    SJ slices_partialInsertionSortCmpFunc_neigh_entry.cx [.code (c2 (c2 (c2 (c2 (c2 (c1 (c1 (c2 (c1 (c1 (c2 (c1 (c2 (c2 slices_partialInsertionSortCmpFunc_neigh_entry.B)))))))))))))), .inBlock 1, .code (c2 (c2 (c1 (c1 (c2 (c1 (c2 (c2 slices_partialInsertionSortCmpFunc_neigh_entry.B)))))))), .inLoop (c1 (c1 (c2 (c1 (c2 (c2 slices_partialInsertionSortCmpFunc_neigh_entry.B)))))), .inBlock 0, .code (c2 (c2 (c2 slices_partialInsertionSortCmpFunc_neigh_entry.B)))] [(0, Sl.v a0), (1, .int .i64 a1), (2, .int .i64 a2), (3, a3v.v), (9, .int .i64 s137), (10, .int .i64 s2)] [] (slices_partialInsertionSortCmpFunc_neigh_entry.K3 a0 a2 a3 s2 s137) (slices_partialInsertionSortCmpFunc_neigh_entry.F1 a0 a1 a2 a3v) := by
  unfold slices_partialInsertionSortCmpFunc_neigh_entry.K3
  refine SJ.less [0, 1, 2, 3, 9, 10] (m' := [(0, Sl.v a0), (1, .int .i64 a1), (2, .int .i64 a2), (3, a3v.v), (9, .int .i64 s137), (10, .int .i64 s2)]) ?_
  exact slices_partialInsertionSortCmpFunc_neigh_entry.K2_ok a0 a1 a2 a3v a3 h_a3 s2 s137
noncomputable def slices_partialInsertionSortCmpFunc_neigh_entry.F3 (a0 : Sl) (a1 : Int) (a2 : Int) (a3v : Any) (s2 : Int) (s137 : Int) : (LS Int (LS (Int × Int) Bool)) → Reach := loopF [.inLoop (c1 (c1 (c2 (c1 (c2 (c1 (c2 (c2 (c2 (c2 (c1 (c1 (c2 (c1 (c1 (c2 (c1 (c2 (c2 slices_partialInsertionSortCmpFunc_neigh_entry.B))))))))))))))))))), .inBlock 4, .code (c2 (c2 (c2 (c2 (c2 (c1 (c1 (c2 (c1 (c1 (c2 (c1 (c2 (c2 slices_partialInsertionSortCmpFunc_neigh_entry.B)))))))))))))), .inBlock 1, .code (c2 (c2 (c1 (c1 (c2 (c1 (c2 (c2 slices_partialInsertionSortCmpFunc_neigh_entry.B)))))))), .inLoop (c1 (c1 (c2 (c1 (c2 (c2 slices_partialInsertionSortCmpFunc_neigh_entry.B)))))), .inBlock 0, .code (c2 (c2 (c2 slices_partialInsertionSortCmpFunc_neigh_entry.B)))] (fun s_ : Int => [(0, Sl.v a0), (1, .int .i64 a1), (2, .int .i64 a2), (3, a3v.v), (9, .int .i64 s137), (10, .int .i64 s2), (11, .int .i64 s_)]) (fun s_ : Int => []) (slices_partialInsertionSortCmpFunc_neigh_entry.F1 a0 a1 a2 a3v)
noncomputable def slices_partialInsertionSortCmpFunc_neigh_entry.L3 (a0 : Sl) (a2 : Int) (a3 : (Option Addr) → (Option Addr) → M Int) (s2 : Int) (s137 : Int) (s233 : Int) : M (LS Int (LS (Int × Int) Bool)) :=
  if s233 ≥ 1 then
    draw >>= fun _ =>
    idx a0.a a0.len s233 1 >>= fun p247 =>
    ld cP p247 >>= fun x248 =>
    idx a0.a a0.len (IntKind.wrap .i64 (s233 - 1)) 1 >>= fun p249 =>
    ld cP p249 >>= fun x250 =>
    a3 x248 x250 >>= fun r251 =>
    if ¬ (r251 < 0) then
      (slices_partialInsertionSortCmpFunc_neigh_entry.K3 a0 a2 a3 s2 s137) >>= fun b => pure (LS.done b)
    else
      draw >>= fun _ =>
      idx a0.a a0.len (IntKind.wrap .i64 (s233 - 1)) 1 >>= fun p252 =>
      ld cP p252 >>= fun x253 =>
      idx a0.a a0.len s233 1 >>= fun p254 =>
      ld cP p254 >>= fun x255 =>
      idx a0.a a0.len s233 1 >>= fun p256 =>
      st cP p256 x253 >>= fun _ =>
      idx a0.a a0.len (IntKind.wrap .i64 (s233 - 1)) 1 >>= fun p257 =>
      st cP p257 x255 >>= fun _ =>
      pure (LS.next (IntKind.wrap .i64 (s233 - 1)))
  else
    (slices_partialInsertionSortCmpFunc_neigh_entry.K3 a0 a2 a3 s2 s137) >>= fun b => pure (LS.done b)
theorem slices_partialInsertionSortCmpFunc_neigh_entry.L3_ok (a0 : Sl) (a1 : Int) (a2 : Int) (a3v : Any) (a3 : (Option Addr) → (Option Addr) → M Int) (h_a3 : ∀ (x0_ : (Option Addr)), ∀ (x1_ : (Option Addr)), RefV Try.prog a3v.v [.pointer x0_, .pointer x1_] (a3 x0_ x1_) (fun r_ : Int => .int .i64 r_)) (s2 : Int) (s137 : Int) (s233 : Int) :
    SJ slices_partialInsertionSortCmpFunc_neigh_entry.cx [.code (c1 (c1 (c2 (c1 (c2 (c1 (c2 (c2 (c2 (c2 (c1 (c1 (c2 (c1 (c1 (c2 (c1 (c2 (c2 slices_partialInsertionSortCmpFunc_neigh_entry.B))))))))))))))))))), .inLoop (c1 (c1 (c2 (c1 (c2 (c1 (c2 (c2 (c2 (c2 (c1 (c1 (c2 (c1 (c1 (c2 (c1 (c2 (c2 slices_partialInsertionSortCmpFunc_neigh_entry.B))))))))))))))))))), .inBlock 4, .code (c2 (c2 (c2 (c2 (c2 (c1 (c1 (c2 (c1 (c1 (c2 (c1 (c2 (c2 slices_partialInsertionSortCmpFunc_neigh_entry.B)))))))))))))), .inBlock 1, .code (c2 (c2 (c1 (c1 (c2 (c1 (c2 (c2 slices_partialInsertionSortCmpFunc_neigh_entry.B)))))))), .inLoop (c1 (c1 (c2 (c1 (c2 (c2 slices_partialInsertionSortCmpFunc_neigh_entry.B)))))), .inBlock 0, .code (c2 (c2 (c2 slices_partialInsertionSortCmpFunc_neigh_entry.B)))] [(0, Sl.v a0), (1, .int .i64 a1), (2, .int .i64 a2), (3, a3v.v), (9, .int .i64 s137), (10, .int .i64 s2), (11, .int .i64 s233)] [] (slices_partialInsertionSortCmpFunc_neigh_entry.L3 a0 a2 a3 s2 s137 s233) (slices_partialInsertionSortCmpFunc_neigh_entry.F3 a0 a1 a2 a3v s2 s137) := by
  unfold slices_partialInsertionSortCmpFunc_neigh_entry.L3
  refine SJ.seq ?_
  refine SJ.sr 2 ?_
  refine OJ.go 2 [(69, .bool (decide (s233 ≥ 1))), (68, .int .i64 s233)] ?_
  refine OJ.nil ?_
  refine SJ.cond (t := (.tmp 69)) (b := decide (s233 ≥ 1)) decide_eq_true_iff (fun hc259 => ?_) (fun hc259 => ?_)
  · refine SJ.skip ?_
    refine SJ.seq ?_
    refine SJ.block (id := 5) ?_
    refine SJ.seq ?_
    refine SJ.seq ?_
    refine SJ.draw (id := 16) (kd := [0, 0, 0, 0, 1, 0, 0, 0, 0, 1, 2, 0, 0]) (bef := [0, 0, 0, 6, 14, 0, 0, 64, 224, 480, 1023, 2047, 4095]) (ord := [0, 1, 2, 3, 4, 5, 6, 7, 8, 9, 10, 11, 12]) mixed ?_
    refine OJ.go 3 [(74, .int .i64 s233), (73, Sl.v a0), (72, a3v.v)] ?_
    refine OJ.idxS (d := 75) (T := 108) (y := .tmp 73) (j := .tmp 74) (E := 100) (cap := a0.cap) (k := .i64) (fun p247 => ?_)
    refine OJ.ld (d := 76) (y := .tmp 75) (pend2 := fun x248 => [⟨4, 100, p247, cP.val x248⟩]) Ty100 (fun _ => rfl) (fun x248 => ?_)
    refine OJ.go 3 [(79, .int .i64 (IntKind.wrap .i64 (s233 - 1))), (78, .int .i64 s233), (77, Sl.v a0)] ?_
    refine OJ.idxS (d := 80) (T := 108) (y := .tmp 77) (j := .tmp 79) (E := 100) (cap := a0.cap) (k := .i64) (fun p249 => ?_)
    refine OJ.ld (d := 81) (y := .tmp 80) (pend2 := fun x250 => [⟨9, 100, p249, cP.val x250⟩, ⟨4, 100, p247, cP.val x248⟩]) Ty100 (fun _ => rfl) (fun x250 => ?_)
    refine OJ.callV1 (d := 82) (ats := #[100, 100]) (args := [.tmp 76, .tmp 81]) (fo := .tmp 72) (vals := [.pointer x248, .pointer x250]) (owed := []) (h_a3 x248 x250) (fun r251 => ?_)
    refine OW.nil ?_
    refine OJ.go 2 [(84, .bool (!(decide (r251 < 0)))), (83, .bool (decide (r251 < 0)))] ?_
    refine OJ.nil ?_
    refine SJ.cond (t := (.tmp 84)) (b := (!(decide (r251 < 0)))) (bnot_iff decide_eq_true_iff) (fun hc258 => ?_) (fun hc258 => ?_)
    · refine SJ.exit (id := 4) (by rfl) ?_
      refine SJ.less [0, 1, 2, 3, 9, 10] (m' := [(0, Sl.v a0), (1, .int .i64 a1), (2, .int .i64 a2), (3, a3v.v), (9, .int .i64 s137), (10, .int .i64 s2)]) ?_
      refine SJ.done ?_
      exact slices_partialInsertionSortCmpFunc_neigh_entry.K3_ok a0 a1 a2 a3v a3 h_a3 s2 s137
    · refine SJ.skip ?_
      refine SJ.draw (id := 17) (kd := [0, 0, 0, 0, 0, 0, 0, 0, 0, 1, 0, 0, 0, 1, 0, 2, 0, 2]) (bef := [0, 0, 0, 0, 8, 0, 0, 64, 224, 480, 0, 0, 3072, 7168, 16355, 32739, 65535, 131071]) (ord := [0, 1, 2, 3, 4, 5, 6, 7, 8, 9, 10, 11, 12, 13, 14, 15, 16, 17]) mixed ?_
      refine OJ.go 8 [(92, .int .i64 (IntKind.wrap .i64 (s233 - 1))), (91, .int .i64 s233), (90, Sl.v a0), (89, .int .i64 (IntKind.wrap .i64 (s233 - 1))), (88, .int .i64 s233), (87, Sl.v a0), (86, .int .i64 s233), (85, Sl.v a0)] ?_
      refine OJ.idxS (d := 93) (T := 108) (y := .tmp 90) (j := .tmp 92) (E := 100) (cap := a0.cap) (k := .i64) (fun p252 => ?_)
      refine OJ.ld (d := 94) (y := .tmp 93) (pend2 := fun x253 => [⟨9, 100, p252, cP.val x253⟩]) Ty100 (fun _ => rfl) (fun x253 => ?_)
      refine OJ.go 2 [(96, .int .i64 s233), (95, Sl.v a0)] ?_
      refine OJ.idxS (d := 97) (T := 108) (y := .tmp 95) (j := .tmp 96) (E := 100) (cap := a0.cap) (k := .i64) (fun p254 => ?_)
      refine OJ.ld (d := 98) (y := .tmp 97) (pend2 := fun x255 => [⟨13, 100, p254, cP.val x255⟩, ⟨9, 100, p252, cP.val x253⟩]) Ty100 (fun _ => rfl) (fun x255 => ?_)
      refine OJ.idxS (d := 99) (T := 108) (y := .tmp 85) (j := .tmp 86) (E := 100) (cap := a0.cap) (k := .i64) (fun p256 => ?_)
      refine OJ.st (y := .tmp 99) (z := .tmp 94) (owed := []) Ty100 ?_
      refine OW.nil ?_
      refine OJ.idxS (d := 100) (T := 108) (y := .tmp 87) (j := .tmp 89) (E := 100) (cap := a0.cap) (k := .i64) (fun p257 => ?_)
      refine OJ.st (y := .tmp 100) (z := .tmp 98) (owed := []) Ty100 ?_
      refine OW.nil ?_
      refine OJ.nil ?_
      refine SJ.inBlock ?_
      refine SJ.rg 3 ?_
      refine OJ.go 3 [(11, .int .i64 (IntKind.wrap .i64 (s233 - 1))), (71, .int .i64 (IntKind.wrap .i64 (s233 - 1))), (70, .int .i64 s233)] ?_
      refine OJ.nil ?_
      exact SJ.at_ [0, 1, 2, 3, 9, 10, 11] rfl
  · refine SJ.exit (id := 4) (by rfl) ?_
    refine SJ.less [0, 1, 2, 3, 9, 10] (m' := [(0, Sl.v a0), (1, .int .i64 a1), (2, .int .i64 a2), (3, a3v.v), (9, .int .i64 s137), (10, .int .i64 s2)]) ?_
    refine SJ.done ?_
    exact slices_partialInsertionSortCmpFunc_neigh_entry.K3_ok a0 a1 a2 a3v a3 h_a3 s2 s137
noncomputable def slices_partialInsertionSortCmpFunc_neigh_entry.K4 (a0 : Sl) (a1 : Int) (a2 : Int) (a3 : (Option Addr) → (Option Addr) → M Int) (s2 : Int) (s137 : Int) : M (LS (Int × Int) Bool) :=
  if s137 = a2 then
    pure (LS.done true)
  else
    if (IntKind.wrap .i64 (a2 - a1)) < 50 then
      pure (LS.done false)
    else
      draw >>= fun _ =>
      idx a0.a a0.len (IntKind.wrap .i64 (s137 - 1)) 1 >>= fun p145 =>
      ld cP p145 >>= fun x146 =>
      idx a0.a a0.len s137 1 >>= fun p147 =>
      ld cP p147 >>= fun x148 =>
      idx a0.a a0.len s137 1 >>= fun p149 =>
      st cP p149 x146 >>= fun _ =>
      idx a0.a a0.len (IntKind.wrap .i64 (s137 - 1)) 1 >>= fun p150 =>
      st cP p150 x148 >>= fun _ =>
      if (IntKind.wrap .i64 (s137 - a1)) ≥ 2 then
        loopM (fun s_ : Int => slices_partialInsertionSortCmpFunc_neigh_entry.L3 a0 a2 a3 s2 s137 s_) (IntKind.wrap .i64 (s137 - 1))
      else
        slices_partialInsertionSortCmpFunc_neigh_entry.K2 a0 a2 a3 s2 s137
theorem slices_partialInsertionSortCmpFunc_neigh_entry.K4_ok (a0 : Sl) (a1 : Int) (a2 : Int) (a3v : Any) (a3 : (Option Addr) → (Option Addr) → M Int) (h_a3 : ∀ (x0_ : (Option Addr)), ∀ (x1_ : (Option Addr)), RefV Try.prog a3v.v [.pointer x0_, .pointer x1_] (a3 x0_ x1_) (fun r_ : Int => .int .i64 r_)) (s2 : Int) (s137 : Int) :
    SJ slices_partialInsertionSortCmpFunc_neigh_entry.cx [.code (c2 (c1 (c1 (c2 (c1 (c1 (c2 (c1 (c2 (c2 slices_partialInsertionSortCmpFunc_neigh_entry.B)))))))))), .inBlock 1, .code (c2 (c2 (c1 (c1 (c2 (c1 (c2 (c2 slices_partialInsertionSortCmpFunc_neigh_entry.B)))))))), .inLoop (c1 (c1 (c2 (c1 (c2 (c2 slices_partialInsertionSortCmpFunc_neigh_entry.B)))))), .inBlock 0, .code (c2 (c2 (c2 slices_partialInsertionSortCmpFunc_neigh_entry.B)))] [(0, Sl.v a0), (1, .int .i64 a1), (2, .int .i64 a2), (3, a3v.v), (9, .int .i64 s137), (10, .int .i64 s2)] [] (slices_partialInsertionSortCmpFunc_neigh_entry.K4 a0 a1 a2 a3 s2 s137) (slices_partialInsertionSortCmpFunc_neigh_entry.F1 a0 a1 a2 a3v) := by
  unfold slices_partialInsertionSortCmpFunc_neigh_entry.K4
  refine SJ.seq ?_
  refine SJ.sr 3 ?_
  refine OJ.go 3 [(41, .bool (s137 == a2)), (40, .int .i64 a2), (39, .int .i64 s137)] ?_
  refine OJ.nil ?_
  refine SJ.cond (t := (.tmp 41)) (b := (s137 == a2)) beq_iff_eq (fun hc262 => ?_) (fun hc262 => ?_)
  · refine SJ.sr 1 ?_
    refine OJ.go 1 [(8, .bool true)] ?_
    refine OJ.nil ?_
    exact SJ.ret rfl (Res.run (ys := [.bool true]) (.tmp (by kernel_rfl) .nil) rfl)
  · refine SJ.skip ?_
    refine SJ.seq ?_
    refine SJ.sr 4 ?_
    refine OJ.go 4 [(45, .bool (decide ((IntKind.wrap .i64 (a2 - a1)) < 50))), (44, .int .i64 (IntKind.wrap .i64 (a2 - a1))), (43, .int .i64 a1), (42, .int .i64 a2)] ?_
    refine OJ.nil ?_
    refine SJ.cond (t := (.tmp 45)) (b := decide ((IntKind.wrap .i64 (a2 - a1)) < 50)) decide_eq_true_iff (fun hc261 => ?_) (fun hc261 => ?_)
    · refine SJ.sr 1 ?_
      refine OJ.go 1 [(8, .bool false)] ?_
      refine OJ.nil ?_
      exact SJ.ret rfl (Res.run (ys := [.bool false]) (.tmp (by kernel_rfl) .nil) rfl)
    · refine SJ.skip ?_
      refine SJ.seq ?_
      refine SJ.draw (id := 11) (kd := [0, 0, 0, 0, 0, 0, 0, 0, 0, 1, 0, 0, 0, 1, 0, 2, 0, 2]) (bef := [0, 0, 0, 0, 8, 0, 0, 64, 224, 480, 0, 0, 3072, 7168, 16355, 32739, 65535, 131071]) (ord := [0, 1, 2, 3, 4, 5, 6, 7, 8, 9, 10, 11, 12, 13, 14, 15, 16, 17]) mixed ?_
      refine OJ.go 8 [(53, .int .i64 (IntKind.wrap .i64 (s137 - 1))), (52, .int .i64 s137), (51, Sl.v a0), (50, .int .i64 (IntKind.wrap .i64 (s137 - 1))), (49, .int .i64 s137), (48, Sl.v a0), (47, .int .i64 s137), (46, Sl.v a0)] ?_
      refine OJ.idxS (d := 54) (T := 108) (y := .tmp 51) (j := .tmp 53) (E := 100) (cap := a0.cap) (k := .i64) (fun p145 => ?_)
      refine OJ.ld (d := 55) (y := .tmp 54) (pend2 := fun x146 => [⟨9, 100, p145, cP.val x146⟩]) Ty100 (fun _ => rfl) (fun x146 => ?_)
      refine OJ.go 2 [(57, .int .i64 s137), (56, Sl.v a0)] ?_
      refine OJ.idxS (d := 58) (T := 108) (y := .tmp 56) (j := .tmp 57) (E := 100) (cap := a0.cap) (k := .i64) (fun p147 => ?_)
      refine OJ.ld (d := 59) (y := .tmp 58) (pend2 := fun x148 => [⟨13, 100, p147, cP.val x148⟩, ⟨9, 100, p145, cP.val x146⟩]) Ty100 (fun _ => rfl) (fun x148 => ?_)
      refine OJ.idxS (d := 60) (T := 108) (y := .tmp 46) (j := .tmp 47) (E := 100) (cap := a0.cap) (k := .i64) (fun p149 => ?_)
      refine OJ.st (y := .tmp 60) (z := .tmp 55) (owed := []) Ty100 ?_
      refine OW.nil ?_
      refine OJ.idxS (d := 61) (T := 108) (y := .tmp 48) (j := .tmp 50) (E := 100) (cap := a0.cap) (k := .i64) (fun p150 => ?_)
      refine OJ.st (y := .tmp 61) (z := .tmp 59) (owed := []) Ty100 ?_
      refine OW.nil ?_
      refine OJ.nil ?_
      refine SJ.seq ?_
      refine SJ.sr 4 ?_
      refine OJ.go 4 [(65, .bool (decide ((IntKind.wrap .i64 (s137 - a1)) ≥ 2))), (64, .int .i64 (IntKind.wrap .i64 (s137 - a1))), (63, .int .i64 a1), (62, .int .i64 s137)] ?_
      refine OJ.nil ?_
      refine SJ.cond (t := (.tmp 65)) (b := decide ((IntKind.wrap .i64 (s137 - a1)) ≥ 2)) decide_eq_true_iff (fun hc260 => ?_) (fun hc260 => ?_)
      · refine SJ.sr 3 ?_
        refine OJ.go 3 [(11, .int .i64 (IntKind.wrap .i64 (s137 - 1))), (67, .int .i64 (IntKind.wrap .i64 (s137 - 1))), (66, .int .i64 s137)] ?_
        refine OJ.nil ?_
        refine SJ.block (id := 4) ?_
        exact SJ.loop (fun s_ : Int => [(0, Sl.v a0), (1, .int .i64 a1), (2, .int .i64 a2), (3, a3v.v), (9, .int .i64 s137), (10, .int .i64 s2), (11, .int .i64 s_)]) (fun s_ : Int => []) [0, 1, 2, 3, 9, 10, 11] rfl (fun _ _ => rfl) (fun s_ => slices_partialInsertionSortCmpFunc_neigh_entry.L3_ok a0 a1 a2 a3v a3 h_a3 s2 s137 s_)
      · refine SJ.skip ?_
        refine SJ.less [0, 1, 2, 3, 9, 10] (m' := [(0, Sl.v a0), (1, .int .i64 a1), (2, .int .i64 a2), (3, a3v.v), (9, .int .i64 s137), (10, .int .i64 s2)]) ?_
        exact slices_partialInsertionSortCmpFunc_neigh_entry.K2_ok a0 a1 a2 a3v a3 h_a3 s2 s137
noncomputable def slices_partialInsertionSortCmpFunc_neigh_entry.F4 (a0 : Sl) (a1 : Int) (a2 : Int) (a3v : Any) (s2 : Int) : (LS Int (LS (Int × Int) Bool)) → Reach := loopF [.inLoop (c1 (c1 (c1 (c1 (c1 (c2 (c1 (c1 (c2 (c1 (c2 (c2 slices_partialInsertionSortCmpFunc_neigh_entry.B)))))))))))), .inBlock 2, .code (c2 (c1 (c1 (c2 (c1 (c1 (c2 (c1 (c2 (c2 slices_partialInsertionSortCmpFunc_neigh_entry.B)))))))))), .inBlock 1, .code (c2 (c2 (c1 (c1 (c2 (c1 (c2 (c2 slices_partialInsertionSortCmpFunc_neigh_entry.B)))))))), .inLoop (c1 (c1 (c2 (c1 (c2 (c2 slices_partialInsertionSortCmpFunc_neigh_entry.B)))))), .inBlock 0, .code (c2 (c2 (c2 slices_partialInsertionSortCmpFunc_neigh_entry.B)))] (fun s_ : Int => [(0, Sl.v a0), (1, .int .i64 a1), (2, .int .i64 a2), (3, a3v.v), (9, .int .i64 s_), (10, .int .i64 s2)]) (fun s_ : Int => []) (slices_partialInsertionSortCmpFunc_neigh_entry.F1 a0 a1 a2 a3v)
noncomputable def slices_partialInsertionSortCmpFunc_neigh_entry.L4 (a0 : Sl) (a1 : Int) (a2 : Int) (a3 : (Option Addr) → (Option Addr) → M Int) (s2 : Int) (s137 : Int) : M (LS Int (LS (Int × Int) Bool)) :=
  draw >>= fun _ =>
  (if s137 < a2 then
      idx a0.a a0.len s137 1 >>= fun p263 =>
      ld cP p263 >>= fun x264 =>
      idx a0.a a0.len (IntKind.wrap .i64 (s137 - 1)) 1 >>= fun p265 =>
      ld cP p265 >>= fun x266 =>
      a3 x264 x266 >>= fun r267 =>
      pure (!(decide (r267 < 0)))
    else
      pure false) >>= fun y268 =>
  if y268 = true then
    pure (LS.next (IntKind.wrap .i64 (s137 + 1)))
  else
    (slices_partialInsertionSortCmpFunc_neigh_entry.K4 a0 a1 a2 a3 s2 s137) >>= fun b => pure (LS.done b)
theorem slices_partialInsertionSortCmpFunc_neigh_entry.L4_ok (a0 : Sl) (a1 : Int) (a2 : Int) (a3v : Any) (a3 : (Option Addr) → (Option Addr) → M Int) (h_a3 : ∀ (x0_ : (Option Addr)), ∀ (x1_ : (Option Addr)), RefV Try.prog a3v.v [.pointer x0_, .pointer x1_] (a3 x0_ x1_) (fun r_ : Int => .int .i64 r_)) (s2 : Int) (s137 : Int) :
    SJ slices_partialInsertionSortCmpFunc_neigh_entry.cx [.code (c1 (c1 (c1 (c1 (c1 (c2 (c1 (c1 (c2 (c1 (c2 (c2 slices_partialInsertionSortCmpFunc_neigh_entry.B)))))))))))), .inLoop (c1 (c1 (c1 (c1 (c1 (c2 (c1 (c1 (c2 (c1 (c2 (c2 slices_partialInsertionSortCmpFunc_neigh_entry.B)))))))))))), .inBlock 2, .code (c2 (c1 (c1 (c2 (c1 (c1 (c2 (c1 (c2 (c2 slices_partialInsertionSortCmpFunc_neigh_entry.B)))))))))), .inBlock 1, .code (c2 (c2 (c1 (c1 (c2 (c1 (c2 (c2 slices_partialInsertionSortCmpFunc_neigh_entry.B)))))))), .inLoop (c1 (c1 (c2 (c1 (c2 (c2 slices_partialInsertionSortCmpFunc_neigh_entry.B)))))), .inBlock 0, .code (c2 (c2 (c2 slices_partialInsertionSortCmpFunc_neigh_entry.B)))] [(0, Sl.v a0), (1, .int .i64 a1), (2, .int .i64 a2), (3, a3v.v), (9, .int .i64 s137), (10, .int .i64 s2)] [] (slices_partialInsertionSortCmpFunc_neigh_entry.L4 a0 a1 a2 a3 s2 s137) (slices_partialInsertionSortCmpFunc_neigh_entry.F4 a0 a1 a2 a3v s2) := by
  unfold slices_partialInsertionSortCmpFunc_neigh_entry.L4
  refine SJ.seq ?_
  refine SJ.seq ?_
  refine SJ.draw (id := 5) (kd := [0, 0, 0, 0, 0, 0, 0, 0, 1, 0, 0, 0, 0, 1, 2, 0, 0, 0]) (bef := [0, 0, 3, 7, 15, 15, 15, 111, 239, 15, 15, 1039, 3599, 7695, 16383, 32767, 65535, 131071]) (ord := [0, 1, 2, 3, 4, 5, 6, 7, 8, 9, 10, 11, 12, 13, 14, 15, 16, 17]) mixed ?_
  refine OJ.go 4 [(22, .bool (decide (s137 < a2))), (21, .bool (decide (s137 < a2))), (20, .int .i64 a2), (19, .int .i64 s137)] ?_
  refine OJ.join (b := decide (s137 < a2)) [4, 5, 6, 7, 8, 9, 10, 11, 12, 13, 14, 15, 16, 17] [] [0, 1, 2, 3, 9, 10, 36] (fun y268 => [(0, Sl.v a0), (1, .int .i64 a1), (2, .int .i64 a2), (3, a3v.v), (9, .int .i64 s137), (10, .int .i64 s2), (36, .bool y268)]) [] [8, 13] (t := 22) decide_eq_true_iff (fun hp_ => ?_) (fun hp_ => ?_) (fun _ _ _ _ _ _ h_ => h_) (fun y268 => ?_)
  · refine OJ.go 3 [(25, .int .i64 s137), (24, Sl.v a0), (23, a3v.v)] ?_
    refine OJ.idxS (d := 26) (T := 108) (y := .tmp 24) (j := .tmp 25) (E := 100) (cap := a0.cap) (k := .i64) (fun p263 => ?_)
    refine OJ.ld (d := 27) (y := .tmp 26) (pend2 := fun x264 => [⟨8, 100, p263, cP.val x264⟩]) Ty100 (fun _ => rfl) (fun x264 => ?_)
    refine OJ.go 3 [(30, .int .i64 (IntKind.wrap .i64 (s137 - 1))), (29, .int .i64 s137), (28, Sl.v a0)] ?_
    refine OJ.idxS (d := 31) (T := 108) (y := .tmp 28) (j := .tmp 30) (E := 100) (cap := a0.cap) (k := .i64) (fun p265 => ?_)
    refine OJ.ld (d := 32) (y := .tmp 31) (pend2 := fun x266 => [⟨13, 100, p265, cP.val x266⟩, ⟨8, 100, p263, cP.val x264⟩]) Ty100 (fun _ => rfl) (fun x266 => ?_)
    refine OJ.callV1 (d := 33) (ats := #[100, 100]) (args := [.tmp 27, .tmp 32]) (fo := .tmp 23) (vals := [.pointer x264, .pointer x266]) (owed := []) (h_a3 x264 x266) (fun r267 => ?_)
    refine OW.nil ?_
    refine OJ.go 3 [(36, .bool (!(decide (r267 < 0)))), (35, .bool (!(decide (r267 < 0)))), (34, .bool (decide (r267 < 0)))] ?_
    exact OJ.nil ⟨(Cov.mem (Cov.drop (List.mem_of_getElem? (i := 1) rfl) (Cov.drop (List.mem_of_getElem? (i := 0) rfl) Cov.nil))), rfl, _, rfl, by kernel_rfl⟩
  · refine OJ.go 14 [(36, .bool false), (35, undef), (34, undef), (33, undef), (32, undef), (31, undef), (30, undef), (29, undef), (28, undef), (27, undef), (26, undef), (25, undef), (24, undef), (23, undef)] ?_
    exact OJ.nil ⟨(Cov.mem Cov.nil), rfl, _, rfl, by kernel_rfl⟩
  · refine OJ.nil ?_
    refine SJ.cond (t := (.tmp 36)) (b := y268) Iff.rfl (fun hc269 => ?_) (fun hc269 => ?_)
    · refine SJ.skip ?_
      refine SJ.block (id := 3) ?_
      refine SJ.rg 3 ?_
      refine OJ.go 3 [(9, .int .i64 (IntKind.wrap .i64 (s137 + 1))), (38, .int .i64 (IntKind.wrap .i64 (s137 + 1))), (37, .int .i64 s137)] ?_
      refine OJ.nil ?_
      refine SJ.inBlock ?_
      exact SJ.at_ [0, 1, 2, 3, 9, 10] rfl
    · refine SJ.exit (id := 2) (by rfl) ?_
      refine SJ.less [0, 1, 2, 3, 9, 10] (m' := [(0, Sl.v a0), (1, .int .i64 a1), (2, .int .i64 a2), (3, a3v.v), (9, .int .i64 s137), (10, .int .i64 s2)]) ?_
      refine SJ.done ?_
      exact slices_partialInsertionSortCmpFunc_neigh_entry.K4_ok a0 a1 a2 a3v a3 h_a3 s2 s137
noncomputable def slices_partialInsertionSortCmpFunc_neigh_entry.L1 (a0 : Sl) (a1 : Int) (a2 : Int) (a3 : (Option Addr) → (Option Addr) → M Int) (s1 : Int) (s2 : Int) : M (LS (Int × Int) Bool) :=
  if s2 < 5 then
    loopM (fun s_ : Int => slices_partialInsertionSortCmpFunc_neigh_entry.L4 a0 a1 a2 a3 s2 s_) s1
  else
    pure (LS.done false)
theorem slices_partialInsertionSortCmpFunc_neigh_entry.L1_ok (a0 : Sl) (a1 : Int) (a2 : Int) (a3v : Any) (a3 : (Option Addr) → (Option Addr) → M Int) (h_a3 : ∀ (x0_ : (Option Addr)), ∀ (x1_ : (Option Addr)), RefV Try.prog a3v.v [.pointer x0_, .pointer x1_] (a3 x0_ x1_) (fun r_ : Int => .int .i64 r_)) (s1 : Int) (s2 : Int) :
    SJ slices_partialInsertionSortCmpFunc_neigh_entry.cx [.code (c1 (c1 (c2 (c1 (c2 (c2 slices_partialInsertionSortCmpFunc_neigh_entry.B)))))), .inLoop (c1 (c1 (c2 (c1 (c2 (c2 slices_partialInsertionSortCmpFunc_neigh_entry.B)))))), .inBlock 0, .code (c2 (c2 (c2 slices_partialInsertionSortCmpFunc_neigh_entry.B)))] [(0, Sl.v a0), (1, .int .i64 a1), (2, .int .i64 a2), (3, a3v.v), (9, .int .i64 s1), (10, .int .i64 s2)] [] (slices_partialInsertionSortCmpFunc_neigh_entry.L1 a0 a1 a2 a3 s1 s2) (slices_partialInsertionSortCmpFunc_neigh_entry.F1 a0 a1 a2 a3v) := by
  unfold slices_partialInsertionSortCmpFunc_neigh_entry.L1
  refine SJ.seq ?_
  refine SJ.sr 2 ?_
  refine OJ.go 2 [(16, .bool (decide (s2 < 5))), (15, .int .i64 s2)] ?_
  refine OJ.nil ?_
  refine SJ.cond (t := (.tmp 16)) (b := decide (s2 < 5)) decide_eq_true_iff (fun hc270 => ?_) (fun hc270 => ?_)
  · refine SJ.skip ?_
    refine SJ.seq ?_
    refine SJ.block (id := 1) ?_
    refine SJ.seq ?_
    refine SJ.block (id := 2) ?_
    exact SJ.loop (fun s_ : Int => [(0, Sl.v a0), (1, .int .i64 a1), (2, .int .i64 a2), (3, a3v.v), (9, .int .i64 s_), (10, .int .i64 s2)]) (fun s_ : Int => []) [0, 1, 2, 3, 9, 10] rfl (fun _ _ => rfl) (fun s_ => slices_partialInsertionSortCmpFunc_neigh_entry.L4_ok a0 a1 a2 a3v a3 h_a3 s2 s_)
  · refine SJ.exit (id := 0) (by rfl) ?_
    refine SJ.sr 1 ?_
    refine OJ.go 1 [(8, .bool false)] ?_
    refine OJ.nil ?_
    exact SJ.ret rfl (Res.run (ys := [.bool false]) (.tmp (by kernel_rfl) .nil) rfl)
noncomputable def slices_partialInsertionSortCmpFunc_neigh_entry (a0 : Sl) (a1 : Int) (a2 : Int) (a3 : (Option Addr) → (Option Addr) → M Int) : M Bool :=
  loopM (fun s_ : (Int × Int) => slices_partialInsertionSortCmpFunc_neigh_entry.L1 a0 a1 a2 a3 s_.1 s_.2) (IntKind.wrap .i64 (a1 + 1), 0)
theorem slices_partialInsertionSortCmpFunc_neigh_entry_ok (a0 : Sl) (a1 : Int) (a2 : Int) (a3v : Any) (a3 : (Option Addr) → (Option Addr) → M Int) (h_a3 : ∀ (x0_ : (Option Addr)), ∀ (x1_ : (Option Addr)), RefV Try.prog a3v.v [.pointer x0_, .pointer x1_] (a3 x0_ x1_) (fun r_ : Int => .int .i64 r_)) : Ref Try.prog 83 [Sl.v a0, .int .i64 a1, .int .i64 a2, a3v.v] (slices_partialInsertionSortCmpFunc_neigh_entry a0 a1 a2 a3) slices_partialInsertionSortCmpFunc_neigh_entry.out := by
  refine Ref.of (cd := slices_partialInsertionSortCmpFunc_neigh_entry.B) Try.func83 ?_
  show SJ slices_partialInsertionSortCmpFunc_neigh_entry.cx [.code slices_partialInsertionSortCmpFunc_neigh_entry.B] [(0, Sl.v a0), (1, .int .i64 a1), (2, .int .i64 a2), (3, a3v.v)] [] (slices_partialInsertionSortCmpFunc_neigh_entry a0 a1 a2 a3) slices_partialInsertionSortCmpFunc_neigh_entry.F0
  unfold slices_partialInsertionSortCmpFunc_neigh_entry
  refine SJ.sr 1 ?_
  refine OJ.go 1 [(8, .bool false)] ?_
  refine OJ.nil ?_
  refine SJ.sr 3 ?_
  refine OJ.go 3 [(9, .int .i64 (IntKind.wrap .i64 (a1 + 1))), (14, .int .i64 (IntKind.wrap .i64 (a1 + 1))), (13, .int .i64 a1)] ?_
  refine OJ.nil ?_
  refine SJ.seq ?_
  refine SJ.sr 1 ?_
  refine OJ.go 1 [(10, .int .i64 0)] ?_
  refine OJ.nil ?_
  refine SJ.block (id := 0) ?_
  exact SJ.loop (fun s_ : (Int × Int) => [(0, Sl.v a0), (1, .int .i64 a1), (2, .int .i64 a2), (3, a3v.v), (9, .int .i64 s_.1), (10, .int .i64 s_.2)]) (fun s_ : (Int × Int) => []) [0, 1, 2, 3, 9, 10] rfl (fun _ _ => rfl) (fun s_ => slices_partialInsertionSortCmpFunc_neigh_entry.L1_ok a0 a1 a2 a3v a3 h_a3 s_.1 s_.2)

/-! ### slices.partitionEqualCmpFunc[*weir/neigh.entry]: function 84 -/
noncomputable def slices_partitionEqualCmpFunc_neigh_entry.B : Code := (Try.f84.body).getD .skip
noncomputable def slices_partitionEqualCmpFunc_neigh_entry.cx : Fx := ⟨Try.prog, 84, Try.f84⟩
noncomputable def slices_partitionEqualCmpFunc_neigh_entry.out (r_ : Int) : Value := .int .i64 r_
noncomputable def slices_partitionEqualCmpFunc_neigh_entry.F0 (r_ : Int) : Reach := .ret (slices_partitionEqualCmpFunc_neigh_entry.out r_)
noncomputable def slices_partitionEqualCmpFunc_neigh_entry.F1 (a0 : Sl) (a1 : Int) (a4v : Any) : (LS (Int × Int) Int) → Reach := loopF [.inLoop (c1 (c1 (c1 (c2 (c2 (c2 slices_partitionEqualCmpFunc_neigh_entry.B)))))), .inBlock 0, .code (c2 (c2 (c2 (c2 slices_partitionEqualCmpFunc_neigh_entry.B))))] (fun s_ : (Int × Int) => [(0, Sl.v a0), (1, .int .i64 a1), (4, a4v.v), (11, .int .i64 s_.1), (12, .int .i64 s_.2)]) (fun s_ : (Int × Int) => []) slices_partitionEqualCmpFunc_neigh_entry.F0
noncomputable def slices_partitionEqualCmpFunc_neigh_entry.K1 (a0 : Sl) (s46 : Int) (s54 : Int) : M (LS (Int × Int) Int) :=
  if s46 > s54 then
    pure (LS.done s46)
  else
    draw >>= fun _ =>
    idx a0.a a0.len s54 1 >>= fun p62 =>
    ld cP p62 >>= fun x63 =>
    idx a0.a a0.len s46 1 >>= fun p64 =>
    ld cP p64 >>= fun x65 =>
    idx a0.a a0.len s46 1 >>= fun p66 =>
    st cP p66 x63 >>= fun _ =>
    idx a0.a a0.len s54 1 >>= fun p67 =>
    st cP p67 x65 >>= fun _ =>
    pure (LS.next (IntKind.wrap .i64 (s46 + 1), IntKind.wrap .i64 (s54 - 1)))
theorem slices_partitionEqualCmpFunc_neigh_entry.K1_ok (a0 : Sl) (a1 : Int) (a4v : Any) (s46 : Int) (s54 : Int) :
    SJ slices_partitionEqualCmpFunc_neigh_entry.cx [.code (c2 (c2 (c1 (c1 (c1 (c1 (c2 (c2 (c2 slices_partitionEqualCmpFunc_neigh_entry.B))))))))), .inBlock 1, .inLoop (c1 (c1 (c1 (c2 (c2 (c2 slices_partitionEqualCmpFunc_neigh_entry.B)))))), .inBlock 0, .code (c2 (c2 (c2 (c2 slices_partitionEqualCmpFunc_neigh_entry.B))))] [(0, Sl.v a0), (1, .int .i64 a1), (4, a4v.v), (11, .int .i64 s46), (12, .int .i64 s54)] [] (slices_partitionEqualCmpFunc_neigh_entry.K1 a0 s46 s54) (slices_partitionEqualCmpFunc_neigh_entry.F1 a0 a1 a4v) := by
  unfold slices_partitionEqualCmpFunc_neigh_entry.K1
  refine SJ.seq ?_
  refine SJ.sr 3 ?_
  refine OJ.go 3 [(70, .bool (decide (s46 > s54))), (69, .int .i64 s54), (68, .int .i64 s46)] ?_
  refine OJ.nil ?_
  refine SJ.cond (t := (.tmp 70)) (b := decide (s46 > s54)) decide_eq_true_iff (fun hc68 => ?_) (fun hc68 => ?_)
  · refine SJ.exit (id := 0) (by rfl) ?_
    refine SJ.sr 2 ?_
    refine OJ.go 2 [(10, .int .i64 s46), (89, .int .i64 s46)] ?_
    refine OJ.nil ?_
    exact SJ.ret rfl (Res.run (ys := [.int .i64 s46]) (.tmp (by kernel_rfl) .nil) rfl)
  · refine SJ.skip ?_
    refine SJ.seq ?_
    refine SJ.draw (id := 8) (kd := [0, 0, 0, 0, 0, 0, 0, 1, 0, 0, 0, 1, 0, 2, 0, 2]) (bef := [0, 0, 0, 0, 0, 0, 48, 112, 0, 0, 768, 1792, 4083, 8179, 16383, 32767]) (ord := [0, 1, 2, 3, 4, 5, 6, 7, 8, 9, 10, 11, 12, 13, 14, 15]) mixed ?_
    refine OJ.go 6 [(76, .int .i64 s54), (75, Sl.v a0), (74, .int .i64 s54), (73, Sl.v a0), (72, .int .i64 s46), (71, Sl.v a0)] ?_
    refine OJ.idxS (d := 77) (T := 108) (y := .tmp 75) (j := .tmp 76) (E := 100) (cap := a0.cap) (k := .i64) (fun p62 => ?_)
    refine OJ.ld (d := 78) (y := .tmp 77) (pend2 := fun x63 => [⟨7, 100, p62, cP.val x63⟩]) Ty100 (fun _ => rfl) (fun x63 => ?_)
    refine OJ.go 2 [(80, .int .i64 s46), (79, Sl.v a0)] ?_
    refine OJ.idxS (d := 81) (T := 108) (y := .tmp 79) (j := .tmp 80) (E := 100) (cap := a0.cap) (k := .i64) (fun p64 => ?_)
    refine OJ.ld (d := 82) (y := .tmp 81) (pend2 := fun x65 => [⟨11, 100, p64, cP.val x65⟩, ⟨7, 100, p62, cP.val x63⟩]) Ty100 (fun _ => rfl) (fun x65 => ?_)
    refine OJ.idxS (d := 83) (T := 108) (y := .tmp 71) (j := .tmp 72) (E := 100) (cap := a0.cap) (k := .i64) (fun p66 => ?_)
    refine OJ.st (y := .tmp 83) (z := .tmp 78) (owed := []) Ty100 ?_
    refine OW.nil ?_
    refine OJ.idxS (d := 84) (T := 108) (y := .tmp 73) (j := .tmp 74) (E := 100) (cap := a0.cap) (k := .i64) (fun p67 => ?_)
    refine OJ.st (y := .tmp 84) (z := .tmp 82) (owed := []) Ty100 ?_
    refine OW.nil ?_
    refine OJ.nil ?_
    refine SJ.sr 3 ?_
    refine OJ.go 3 [(11, .int .i64 (IntKind.wrap .i64 (s46 + 1))), (86, .int .i64 (IntKind.wrap .i64 (s46 + 1))), (85, .int .i64 s46)] ?_
    refine OJ.nil ?_
    refine SJ.rg 3 ?_
    refine OJ.go 3 [(12, .int .i64 (IntKind.wrap .i64 (s54 - 1))), (88, .int .i64 (IntKind.wrap .i64 (s54 - 1))), (87, .int .i64 s54)] ?_
    refine OJ.nil ?_
    refine SJ.inBlock ?_
    exact SJ.at_ [0, 1, 4, 11, 12] rfl
noncomputable def slices_partitionEqualCmpFunc_neigh_entry.F2 (a0 : Sl) (a1 : Int) (a4v : Any) (s46 : Int) : (LS Int (LS (Int × Int) Int)) → Reach := loopF [.inLoop (c1 (c1 (c1 (c2 (c1 (c1 (c1 (c1 (c2 (c2 (c2 slices_partitionEqualCmpFunc_neigh_entry.B))))))))))), .inBlock 4, .code (c2 (c2 (c1 (c1 (c1 (c1 (c2 (c2 (c2 slices_partitionEqualCmpFunc_neigh_entry.B))))))))), .inBlock 1, .inLoop (c1 (c1 (c1 (c2 (c2 (c2 slices_partitionEqualCmpFunc_neigh_entry.B)))))), .inBlock 0, .code (c2 (c2 (c2 (c2 slices_partitionEqualCmpFunc_neigh_entry.B))))] (fun s_ : Int => [(0, Sl.v a0), (1, .int .i64 a1), (4, a4v.v), (11, .int .i64 s46), (12, .int .i64 s_)]) (fun s_ : Int => []) (slices_partitionEqualCmpFunc_neigh_entry.F1 a0 a1 a4v)
noncomputable def slices_partitionEqualCmpFunc_neigh_entry.L2 (a0 : Sl) (a1 : Int) (a4 : (Option Addr) → (Option Addr) → M Int) (s46 : Int) (s54 : Int) : M (LS Int (LS (Int × Int) Int)) :=
  draw >>= fun _ =>
  (if s46 ≤ s54 then
      idx a0.a a0.len a1 1 >>= fun p69 =>
      ld cP p69 >>= fun x70 =>
      idx a0.a a0.len s54 1 >>= fun p71 =>
      ld cP p71 >>= fun x72 =>
      a4 x70 x72 >>= fun r73 =>
      pure (decide (r73 < 0))
    else
      pure false) >>= fun y74 =>
  if y74 = true then
    pure (LS.next (IntKind.wrap .i64 (s54 - 1)))
  else
    (slices_partitionEqualCmpFunc_neigh_entry.K1 a0 s46 s54) >>= fun b => pure (LS.done b)
theorem slices_partitionEqualCmpFunc_neigh_entry.L2_ok (a0 : Sl) (a1 : Int) (a4v : Any) (a4 : (Option Addr) → (Option Addr) → M Int) (h_a4 : ∀ (x0_ : (Option Addr)), ∀ (x1_ : (Option Addr)), RefV Try.prog a4v.v [.pointer x0_, .pointer x1_] (a4 x0_ x1_) (fun r_ : Int => .int .i64 r_)) (s46 : Int) (s54 : Int) :
    SJ slices_partitionEqualCmpFunc_neigh_entry.cx [.code (c1 (c1 (c1 (c2 (c1 (c1 (c1 (c1 (c2 (c2 (c2 slices_partitionEqualCmpFunc_neigh_entry.B))))))))))), .inLoop (c1 (c1 (c1 (c2 (c1 (c1 (c1 (c1 (c2 (c2 (c2 slices_partitionEqualCmpFunc_neigh_entry.B))))))))))), .inBlock 4, .code (c2 (c2 (c1 (c1 (c1 (c1 (c2 (c2 (c2 slices_partitionEqualCmpFunc_neigh_entry.B))))))))), .inBlock 1, .inLoop (c1 (c1 (c1 (c2 (c2 (c2 slices_partitionEqualCmpFunc_neigh_entry.B)))))), .inBlock 0, .code (c2 (c2 (c2 (c2 slices_partitionEqualCmpFunc_neigh_entry.B))))] [(0, Sl.v a0), (1, .int .i64 a1), (4, a4v.v), (11, .int .i64 s46), (12, .int .i64 s54)] [] (slices_partitionEqualCmpFunc_neigh_entry.L2 a0 a1 a4 s46 s54) (slices_partitionEqualCmpFunc_neigh_entry.F2 a0 a1 a4v s46) := by
  unfold slices_partitionEqualCmpFunc_neigh_entry.L2
  refine SJ.seq ?_
  refine SJ.seq ?_
  refine SJ.draw (id := 5) (kd := [0, 0, 0, 0, 0, 0, 0, 0, 1, 0, 0, 0, 1, 2, 0, 0]) (bef := [0, 0, 3, 7, 15, 15, 15, 111, 239, 15, 15, 1551, 3599, 8191, 16383, 32767]) (ord := [0, 1, 2, 3, 4, 5, 6, 7, 8, 9, 10, 11, 12, 13, 14, 15]) mixed ?_
  refine OJ.go 4 [(53, .bool (decide (s46 ≤ s54))), (52, .bool (decide (s46 ≤ s54))), (51, .int .i64 s54), (50, .int .i64 s46)] ?_
  refine OJ.join (b := decide (s46 ≤ s54)) [4, 5, 6, 7, 8, 9, 10, 11, 12, 13, 14, 15] [] [0, 1, 4, 11, 12, 65] (fun y74 => [(0, Sl.v a0), (1, .int .i64 a1), (4, a4v.v), (11, .int .i64 s46), (12, .int .i64 s54), (65, .bool y74)]) [] [8, 12] (t := 53) decide_eq_true_iff (fun hp_ => ?_) (fun hp_ => ?_) (fun _ _ _ _ _ _ h_ => h_) (fun y74 => ?_)
  · refine OJ.go 3 [(56, .int .i64 a1), (55, Sl.v a0), (54, a4v.v)] ?_
    refine OJ.idxS (d := 57) (T := 108) (y := .tmp 55) (j := .tmp 56) (E := 100) (cap := a0.cap) (k := .i64) (fun p69 => ?_)
    refine OJ.ld (d := 58) (y := .tmp 57) (pend2 := fun x70 => [⟨8, 100, p69, cP.val x70⟩]) Ty100 (fun _ => rfl) (fun x70 => ?_)
    refine OJ.go 2 [(60, .int .i64 s54), (59, Sl.v a0)] ?_
    refine OJ.idxS (d := 61) (T := 108) (y := .tmp 59) (j := .tmp 60) (E := 100) (cap := a0.cap) (k := .i64) (fun p71 => ?_)
    refine OJ.ld (d := 62) (y := .tmp 61) (pend2 := fun x72 => [⟨12, 100, p71, cP.val x72⟩, ⟨8, 100, p69, cP.val x70⟩]) Ty100 (fun _ => rfl) (fun x72 => ?_)
    refine OJ.callV1 (d := 63) (ats := #[100, 100]) (args := [.tmp 58, .tmp 62]) (fo := .tmp 54) (vals := [.pointer x70, .pointer x72]) (owed := []) (h_a4 x70 x72) (fun r73 => ?_)
    refine OW.nil ?_
    refine OJ.go 2 [(65, .bool (decide (r73 < 0))), (64, .bool (decide (r73 < 0)))] ?_
    exact OJ.nil ⟨(Cov.mem (Cov.drop (List.mem_of_getElem? (i := 1) rfl) (Cov.drop (List.mem_of_getElem? (i := 0) rfl) Cov.nil))), rfl, _, rfl, by kernel_rfl⟩
  · refine OJ.go 12 [(65, .bool false), (64, undef), (63, undef), (62, undef), (61, undef), (60, undef), (59, undef), (58, undef), (57, undef), (56, undef), (55, undef), (54, undef)] ?_
    exact OJ.nil ⟨(Cov.mem Cov.nil), rfl, _, rfl, by kernel_rfl⟩
  · refine OJ.nil ?_
    refine SJ.cond (t := (.tmp 65)) (b := y74) Iff.rfl (fun hc75 => ?_) (fun hc75 => ?_)
    · refine SJ.skip ?_
      refine SJ.block (id := 5) ?_
      refine SJ.rg 3 ?_
      refine OJ.go 3 [(12, .int .i64 (IntKind.wrap .i64 (s54 - 1))), (67, .int .i64 (IntKind.wrap .i64 (s54 - 1))), (66, .int .i64 s54)] ?_
      refine OJ.nil ?_
      refine SJ.inBlock ?_
      exact SJ.at_ [0, 1, 4, 11, 12] rfl
    · refine SJ.exit (id := 4) (by rfl) ?_
      refine SJ.less [0, 1, 4, 11, 12] (m' := [(0, Sl.v a0), (1, .int .i64 a1), (4, a4v.v), (11, .int .i64 s46), (12, .int .i64 s54)]) ?_
      refine SJ.done ?_
      exact slices_partitionEqualCmpFunc_neigh_entry.K1_ok a0 a1 a4v s46 s54
noncomputable def slices_partitionEqualCmpFunc_neigh_entry.K2 (a0 : Sl) (a1 : Int) (a4 : (Option Addr) → (Option Addr) → M Int) (s8 : Int) (s46 : Int) : M (LS (Int × Int) Int) :=
  loopM (fun s_ : Int => slices_partitionEqualCmpFunc_neigh_entry.L2 a0 a1 a4 s46 s_) s8
theorem slices_partitionEqualCmpFunc_neigh_entry.K2_ok (a0 : Sl) (a1 : Int) (a4v : Any) (a4 : (Option Addr) → (Option Addr) → M Int) (h_a4 : ∀ (x0_ : (Option Addr)), ∀ (x1_ : (Option Addr)), RefV Try.prog a4v.v [.pointer x0_, .pointer x1_] (a4 x0_ x1_) (fun r_ : Int => .int .i64 r_)) (s8 : Int) (s46 : Int) :
    SJ slices_partitionEqualCmpFunc_neigh_entry.cx [.code (c2 (c1 (c1 (c1 (c1 (c2 (c2 (c2 slices_partitionEqualCmpFunc_neigh_entry.B)))))))), .inBlock 1, .inLoop (c1 (c1 (c1 (c2 (c2 (c2 slices_partitionEqualCmpFunc_neigh_entry.B)))))), .inBlock 0, .code (c2 (c2 (c2 (c2 slices_partitionEqualCmpFunc_neigh_entry.B))))] [(0, Sl.v a0), (1, .int .i64 a1), (4, a4v.v), (11, .int .i64 s46), (12, .int .i64 s8)] [] (slices_partitionEqualCmpFunc_neigh_entry.K2 a0 a1 a4 s8 s46) (slices_partitionEqualCmpFunc_neigh_entry.F1 a0 a1 a4v) := by
  unfold slices_partitionEqualCmpFunc_neigh_entry.K2
  refine SJ.seq ?_
  refine SJ.block (id := 4) ?_
  exact SJ.loop (fun s_ : Int => [(0, Sl.v a0), (1, .int .i64 a1), (4, a4v.v), (11, .int .i64 s46), (12, .int .i64 s_)]) (fun s_ : Int => []) [0, 1, 4, 11, 12] rfl (fun _ _ => rfl) (fun s_ => slices_partitionEqualCmpFunc_neigh_entry.L2_ok a0 a1 a4v a4 h_a4 s46 s_)
noncomputable def slices_partitionEqualCmpFunc_neigh_entry.F3 (a0 : Sl) (a1 : Int) (a4v : Any) (s8 : Int) : (LS Int (LS (Int × Int) Int)) → Reach := loopF [.inLoop (c1 (c1 (c1 (c1 (c1 (c1 (c1 (c2 (c2 (c2 slices_partitionEqualCmpFunc_neigh_entry.B)))))))))), .inBlock 2, .code (c2 (c1 (c1 (c1 (c1 (c2 (c2 (c2 slices_partitionEqualCmpFunc_neigh_entry.B)))))))), .inBlock 1, .inLoop (c1 (c1 (c1 (c2 (c2 (c2 slices_partitionEqualCmpFunc_neigh_entry.B)))))), .inBlock 0, .code (c2 (c2 (c2 (c2 slices_partitionEqualCmpFunc_neigh_entry.B))))] (fun s_ : Int => [(0, Sl.v a0), (1, .int .i64 a1), (4, a4v.v), (11, .int .i64 s_), (12, .int .i64 s8)]) (fun s_ : Int => []) (slices_partitionEqualCmpFunc_neigh_entry.F1 a0 a1 a4v)
noncomputable def slices_partitionEqualCmpFunc_neigh_entry.L3 (a0 : Sl) (a1 : Int) (a4 : (Option Addr) → (Option Addr) → M Int) (s8 : Int) (s46 : Int) : M (LS Int (LS (Int × Int) Int)) :=
  draw >>= fun _ =>
  (if s46 ≤ s8 then
      idx a0.a a0.len a1 1 >>= fun p76 =>
      ld cP p76 >>= fun x77 =>
      idx a0.a a0.len s46 1 >>= fun p78 =>
      ld cP p78 >>= fun x79 =>
      a4 x77 x79 >>= fun r80 =>
      pure (!(decide (r80 < 0)))
    else
      pure false) >>= fun y81 =>
  if y81 = true then
    pure (LS.next (IntKind.wrap .i64 (s46 + 1)))
  else
    (slices_partitionEqualCmpFunc_neigh_entry.K2 a0 a1 a4 s8 s46) >>= fun b => pure (LS.done b)
theorem slices_partitionEqualCmpFunc_neigh_entry.L3_ok (a0 : Sl) (a1 : Int) (a4v : Any) (a4 : (Option Addr) → (Option Addr) → M Int) (h_a4 : ∀ (x0_ : (Option Addr)), ∀ (x1_ : (Option Addr)), RefV Try.prog a4v.v [.pointer x0_, .pointer x1_] (a4 x0_ x1_) (fun r_ : Int => .int .i64 r_)) (s8 : Int) (s46 : Int) :
    SJ slices_partitionEqualCmpFunc_neigh_entry.cx [.code (c1 (c1 (c1 (c1 (c1 (c1 (c1 (c2 (c2 (c2 slices_partitionEqualCmpFunc_neigh_entry.B)))))))))), .inLoop (c1 (c1 (c1 (c1 (c1 (c1 (c1 (c2 (c2 (c2 slices_partitionEqualCmpFunc_neigh_entry.B)))))))))), .inBlock 2, .code (c2 (c1 (c1 (c1 (c1 (c2 (c2 (c2 slices_partitionEqualCmpFunc_neigh_entry.B)))))))), .inBlock 1, .inLoop (c1 (c1 (c1 (c2 (c2 (c2 slices_partitionEqualCmpFunc_neigh_entry.B)))))), .inBlock 0, .code (c2 (c2 (c2 (c2 slices_partitionEqualCmpFunc_neigh_entry.B))))] [(0, Sl.v a0), (1, .int .i64 a1), (4, a4v.v), (11, .int .i64 s46), (12, .int .i64 s8)] [] (slices_partitionEqualCmpFunc_neigh_entry.L3 a0 a1 a4 s8 s46) (slices_partitionEqualCmpFunc_neigh_entry.F3 a0 a1 a4v s8) := by
  unfold slices_partitionEqualCmpFunc_neigh_entry.L3
  refine SJ.seq ?_
  refine SJ.seq ?_
  refine SJ.draw (id := 3) (kd := [0, 0, 0, 0, 0, 0, 0, 0, 1, 0, 0, 0, 1, 2, 0, 0, 0]) (bef := [0, 0, 3, 7, 15, 15, 15, 111, 239, 15, 15, 1551, 3599, 8191, 16383, 32767, 65535]) (ord := [0, 1, 2, 3, 4, 5, 6, 7, 8, 9, 10, 11, 12, 13, 14, 15, 16]) mixed ?_
  refine OJ.go 4 [(34, .bool (decide (s46 ≤ s8))), (33, .bool (decide (s46 ≤ s8))), (32, .int .i64 s8), (31, .int .i64 s46)] ?_
  refine OJ.join (b := decide (s46 ≤ s8)) [4, 5, 6, 7, 8, 9, 10, 11, 12, 13, 14, 15, 16] [] [0, 1, 4, 11, 12, 47] (fun y81 => [(0, Sl.v a0), (1, .int .i64 a1), (4, a4v.v), (11, .int .i64 s46), (12, .int .i64 s8), (47, .bool y81)]) [] [8, 12] (t := 34) decide_eq_true_iff (fun hp_ => ?_) (fun hp_ => ?_) (fun _ _ _ _ _ _ h_ => h_) (fun y81 => ?_)
  · refine OJ.go 3 [(37, .int .i64 a1), (36, Sl.v a0), (35, a4v.v)] ?_
    refine OJ.idxS (d := 38) (T := 108) (y := .tmp 36) (j := .tmp 37) (E := 100) (cap := a0.cap) (k := .i64) (fun p76 => ?_)
    refine OJ.ld (d := 39) (y := .tmp 38) (pend2 := fun x77 => [⟨8, 100, p76, cP.val x77⟩]) Ty100 (fun _ => rfl) (fun x77 => ?_)
    refine OJ.go 2 [(41, .int .i64 s46), (40, Sl.v a0)] ?_
    refine OJ.idxS (d := 42) (T := 108) (y := .tmp 40) (j := .tmp 41) (E := 100) (cap := a0.cap) (k := .i64) (fun p78 => ?_)
    refine OJ.ld (d := 43) (y := .tmp 42) (pend2 := fun x79 => [⟨12, 100, p78, cP.val x79⟩, ⟨8, 100, p76, cP.val x77⟩]) Ty100 (fun _ => rfl) (fun x79 => ?_)
    refine OJ.callV1 (d := 44) (ats := #[100, 100]) (args := [.tmp 39, .tmp 43]) (fo := .tmp 35) (vals := [.pointer x77, .pointer x79]) (owed := []) (h_a4 x77 x79) (fun r80 => ?_)
    refine OW.nil ?_
    refine OJ.go 3 [(47, .bool (!(decide (r80 < 0)))), (46, .bool (!(decide (r80 < 0)))), (45, .bool (decide (r80 < 0)))] ?_
    exact OJ.nil ⟨(Cov.mem (Cov.drop (List.mem_of_getElem? (i := 1) rfl) (Cov.drop (List.mem_of_getElem? (i := 0) rfl) Cov.nil))), rfl, _, rfl, by kernel_rfl⟩
  · refine OJ.go 13 [(47, .bool false), (46, undef), (45, undef), (44, undef), (43, undef), (42, undef), (41, undef), (40, undef), (39, undef), (38, undef), (37, undef), (36, undef), (35, undef)] ?_
    exact OJ.nil ⟨(Cov.mem Cov.nil), rfl, _, rfl, by kernel_rfl⟩
  · refine OJ.nil ?_
    refine SJ.cond (t := (.tmp 47)) (b := y81) Iff.rfl (fun hc82 => ?_) (fun hc82 => ?_)
    · refine SJ.skip ?_
      refine SJ.block (id := 3) ?_
      refine SJ.rg 3 ?_
      refine OJ.go 3 [(11, .int .i64 (IntKind.wrap .i64 (s46 + 1))), (49, .int .i64 (IntKind.wrap .i64 (s46 + 1))), (48, .int .i64 s46)] ?_
      refine OJ.nil ?_
      refine SJ.inBlock ?_
      exact SJ.at_ [0, 1, 4, 11, 12] rfl
    · refine SJ.exit (id := 2) (by rfl) ?_
      refine SJ.less [0, 1, 4, 11, 12] (m' := [(0, Sl.v a0), (1, .int .i64 a1), (4, a4v.v), (11, .int .i64 s46), (12, .int .i64 s8)]) ?_
      refine SJ.done ?_
      exact slices_partitionEqualCmpFunc_neigh_entry.K2_ok a0 a1 a4v a4 h_a4 s8 s46
noncomputable def slices_partitionEqualCmpFunc_neigh_entry.L1 (a0 : Sl) (a1 : Int) (a4 : (Option Addr) → (Option Addr) → M Int) (s7 : Int) (s8 : Int) : M (LS (Int × Int) Int) :=
  loopM (fun s_ : Int => slices_partitionEqualCmpFunc_neigh_entry.L3 a0 a1 a4 s8 s_) s7
theorem slices_partitionEqualCmpFunc_neigh_entry.L1_ok (a0 : Sl) (a1 : Int) (a4v : Any) (a4 : (Option Addr) → (Option Addr) → M Int) (h_a4 : ∀ (x0_ : (Option Addr)), ∀ (x1_ : (Option Addr)), RefV Try.prog a4v.v [.pointer x0_, .pointer x1_] (a4 x0_ x1_) (fun r_ : Int => .int .i64 r_)) (s7 : Int) (s8 : Int) :
    SJ slices_partitionEqualCmpFunc_neigh_entry.cx [.code (c1 (c1 (c1 (c2 (c2 (c2 slices_partitionEqualCmpFunc_neigh_entry.B)))))), .inLoop (c1 (c1 (c1 (c2 (c2 (c2 slices_partitionEqualCmpFunc_neigh_entry.B)))))), .inBlock 0, .code (c2 (c2 (c2 (c2 slices_partitionEqualCmpFunc_neigh_entry.B))))] [(0, Sl.v a0), (1, .int .i64 a1), (4, a4v.v), (11, .int .i64 s7), (12, .int .i64 s8)] [] (slices_partitionEqualCmpFunc_neigh_entry.L1 a0 a1 a4 s7 s8) (slices_partitionEqualCmpFunc_neigh_entry.F1 a0 a1 a4v) := by
  unfold slices_partitionEqualCmpFunc_neigh_entry.L1
  refine SJ.block (id := 1) ?_
  refine SJ.seq ?_
  refine SJ.block (id := 2) ?_
  exact SJ.loop (fun s_ : Int => [(0, Sl.v a0), (1, .int .i64 a1), (4, a4v.v), (11, .int .i64 s_), (12, .int .i64 s8)]) (fun s_ : Int => []) [0, 1, 4, 11, 12] rfl (fun _ _ => rfl) (fun s_ => slices_partitionEqualCmpFunc_neigh_entry.L3_ok a0 a1 a4v a4 h_a4 s8 s_)
noncomputable def slices_partitionEqualCmpFunc_neigh_entry (a0 : Sl) (a1 : Int) (a2 : Int) (a3 : Int) (a4 : (Option Addr) → (Option Addr) → M Int) : M Int :=
  draw >>= fun _ =>
  idx a0.a a0.len a3 1 >>= fun p1 =>
  ld cP p1 >>= fun x2 =>
  idx a0.a a0.len a1 1 >>= fun p3 =>
  ld cP p3 >>= fun x4 =>
  idx a0.a a0.len a1 1 >>= fun p5 =>
  st cP p5 x2 >>= fun _ =>
  idx a0.a a0.len a3 1 >>= fun p6 =>
  st cP p6 x4 >>= fun _ =>
  loopM (fun s_ : (Int × Int) => slices_partitionEqualCmpFunc_neigh_entry.L1 a0 a1 a4 s_.1 s_.2) (IntKind.wrap .i64 (a1 + 1), IntKind.wrap .i64 (a2 - 1))
theorem slices_partitionEqualCmpFunc_neigh_entry_ok (a0 : Sl) (a1 : Int) (a2 : Int) (a3 : Int) (a4v : Any) (a4 : (Option Addr) → (Option Addr) → M Int) (h_a4 : ∀ (x0_ : (Option Addr)), ∀ (x1_ : (Option Addr)), RefV Try.prog a4v.v [.pointer x0_, .pointer x1_] (a4 x0_ x1_) (fun r_ : Int => .int .i64 r_)) : Ref Try.prog 84 [Sl.v a0, .int .i64 a1, .int .i64 a2, .int .i64 a3, a4v.v] (slices_partitionEqualCmpFunc_neigh_entry a0 a1 a2 a3 a4) slices_partitionEqualCmpFunc_neigh_entry.out := by
  refine Ref.of (cd := slices_partitionEqualCmpFunc_neigh_entry.B) Try.func84 ?_
  show SJ slices_partitionEqualCmpFunc_neigh_entry.cx [.code slices_partitionEqualCmpFunc_neigh_entry.B] [(0, Sl.v a0), (1, .int .i64 a1), (2, .int .i64 a2), (3, .int .i64 a3), (4, a4v.v)] [] (slices_partitionEqualCmpFunc_neigh_entry a0 a1 a2 a3 a4) slices_partitionEqualCmpFunc_neigh_entry.F0
  unfold slices_partitionEqualCmpFunc_neigh_entry
  refine SJ.sr 1 ?_
  refine OJ.go 1 [(10, .int .i64 0)] ?_
  refine OJ.nil ?_
  refine SJ.seq ?_
  refine SJ.draw (id := 1) (kd := [0, 0, 0, 0, 0, 0, 0, 1, 0, 0, 0, 1, 0, 2, 0, 2]) (bef := [0, 0, 0, 0, 0, 0, 48, 112, 0, 0, 768, 1792, 4083, 8179, 16383, 32767]) (ord := [0, 1, 2, 3, 4, 5, 6, 7, 8, 9, 10, 11, 12, 13, 14, 15]) mixed ?_
  refine OJ.go 6 [(18, .int .i64 a3), (17, Sl.v a0), (16, .int .i64 a3), (15, Sl.v a0), (14, .int .i64 a1), (13, Sl.v a0)] ?_
  refine OJ.idxS (d := 19) (T := 108) (y := .tmp 17) (j := .tmp 18) (E := 100) (cap := a0.cap) (k := .i64) (fun p1 => ?_)
  refine OJ.ld (d := 20) (y := .tmp 19) (pend2 := fun x2 => [⟨7, 100, p1, cP.val x2⟩]) Ty100 (fun _ => rfl) (fun x2 => ?_)
  refine OJ.go 2 [(22, .int .i64 a1), (21, Sl.v a0)] ?_
  refine OJ.idxS (d := 23) (T := 108) (y := .tmp 21) (j := .tmp 22) (E := 100) (cap := a0.cap) (k := .i64) (fun p3 => ?_)
  refine OJ.ld (d := 24) (y := .tmp 23) (pend2 := fun x4 => [⟨11, 100, p3, cP.val x4⟩, ⟨7, 100, p1, cP.val x2⟩]) Ty100 (fun _ => rfl) (fun x4 => ?_)
  refine OJ.idxS (d := 25) (T := 108) (y := .tmp 13) (j := .tmp 14) (E := 100) (cap := a0.cap) (k := .i64) (fun p5 => ?_)
  refine OJ.st (y := .tmp 25) (z := .tmp 20) (owed := []) Ty100 ?_
  refine OW.nil ?_
  refine OJ.idxS (d := 26) (T := 108) (y := .tmp 15) (j := .tmp 16) (E := 100) (cap := a0.cap) (k := .i64) (fun p6 => ?_)
  refine OJ.st (y := .tmp 26) (z := .tmp 24) (owed := []) Ty100 ?_
  refine OW.nil ?_
  refine OJ.nil ?_
  refine SJ.sr 6 ?_
  refine OJ.go 6 [(12, .int .i64 (IntKind.wrap .i64 (a2 - 1))), (11, .int .i64 (IntKind.wrap .i64 (a1 + 1))), (30, .int .i64 (IntKind.wrap .i64 (a2 - 1))), (29, .int .i64 a2), (28, .int .i64 (IntKind.wrap .i64 (a1 + 1))), (27, .int .i64 a1)] ?_
  refine OJ.nil ?_
  refine SJ.seq ?_
  refine SJ.block (id := 0) ?_
  exact SJ.loop (fun s_ : (Int × Int) => [(0, Sl.v a0), (1, .int .i64 a1), (4, a4v.v), (11, .int .i64 s_.1), (12, .int .i64 s_.2)]) (fun s_ : (Int × Int) => []) [0, 1, 4, 11, 12] rfl (fun _ _ => rfl) (fun s_ => slices_partitionEqualCmpFunc_neigh_entry.L1_ok a0 a1 a4v a4 h_a4 s_.1 s_.2)

/-! ### slices.partitionCmpFunc[*weir/neigh.entry]: function 85 -/
noncomputable def slices_partitionCmpFunc_neigh_entry.B : Code := (Try.f85.body).getD .skip
noncomputable def slices_partitionCmpFunc_neigh_entry.cx : Fx := ⟨Try.prog, 85, Try.f85⟩
noncomputable def slices_partitionCmpFunc_neigh_entry.out (r_ : (Int × Bool)) : Value := .tuple #[.int .i64 r_.1, .bool r_.2]
noncomputable def slices_partitionCmpFunc_neigh_entry.F0 (r_ : (Int × Bool)) : Reach := .ret (slices_partitionCmpFunc_neigh_entry.out r_)
noncomputable def slices_partitionCmpFunc_neigh_entry.K1 (a0 : Sl) (a1 : Int) (j80 : Int) : M (Int × Bool) :=
  draw >>= fun _ =>
  idx a0.a a0.len a1 1 >>= fun p81 =>
  ld cP p81 >>= fun x82 =>
  idx a0.a a0.len j80 1 >>= fun p83 =>
  ld cP p83 >>= fun x84 =>
  idx a0.a a0.len j80 1 >>= fun p85 =>
  st cP p85 x82 >>= fun _ =>
  idx a0.a a0.len a1 1 >>= fun p86 =>
  st cP p86 x84 >>= fun _ =>
  pure (j80, false)
theorem slices_partitionCmpFunc_neigh_entry.K1_ok (a0 : Sl) (a1 : Int) (j80 : Int) :
    SJ slices_partitionCmpFunc_neigh_entry.cx [.code (c2 (c2 (c2 (c2 (c2 (c2 (c2 (c2 (c2 (c2 slices_partitionCmpFunc_neigh_entry.B))))))))))] [(0, Sl.v a0), (1, .int .i64 a1), (13, .int .i64 j80)] [] (slices_partitionCmpFunc_neigh_entry.K1 a0 a1 j80) slices_partitionCmpFunc_neigh_entry.F0 := by
  unfold slices_partitionCmpFunc_neigh_entry.K1
  refine SJ.seq ?_
  refine SJ.draw (id := 21) (kd := [0, 0, 0, 0, 0, 0, 0, 1, 0, 0, 0, 1, 0, 2, 0, 2]) (bef := [0, 0, 0, 0, 0, 0, 48, 112, 0, 0, 768, 1792, 4083, 8179, 16383, 32767]) (ord := [0, 1, 2, 3, 4, 5, 6, 7, 8, 9, 10, 11, 12, 13, 14, 15]) mixed ?_
  refine OJ.go 6 [(168, .int .i64 a1), (167, Sl.v a0), (166, .int .i64 a1), (165, Sl.v a0), (164, .int .i64 j80), (163, Sl.v a0)] ?_
  refine OJ.idxS (d := 169) (T := 108) (y := .tmp 167) (j := .tmp 168) (E := 100) (cap := a0.cap) (k := .i64) (fun p81 => ?_)
  refine OJ.ld (d := 170) (y := .tmp 169) (pend2 := fun x82 => [⟨7, 100, p81, cP.val x82⟩]) Ty100 (fun _ => rfl) (fun x82 => ?_)
  refine OJ.go 2 [(172, .int .i64 j80), (171, Sl.v a0)] ?_
  refine OJ.idxS (d := 173) (T := 108) (y := .tmp 171) (j := .tmp 172) (E := 100) (cap := a0.cap) (k := .i64) (fun p83 => ?_)
  refine OJ.ld (d := 174) (y := .tmp 173) (pend2 := fun x84 => [⟨11, 100, p83, cP.val x84⟩, ⟨7, 100, p81, cP.val x82⟩]) Ty100 (fun _ => rfl) (fun x84 => ?_)
  refine OJ.idxS (d := 175) (T := 108) (y := .tmp 163) (j := .tmp 164) (E := 100) (cap := a0.cap) (k := .i64) (fun p85 => ?_)
  refine OJ.st (y := .tmp 175) (z := .tmp 170) (owed := []) Ty100 ?_
  refine OW.nil ?_
  refine OJ.idxS (d := 176) (T := 108) (y := .tmp 165) (j := .tmp 166) (E := 100) (cap := a0.cap) (k := .i64) (fun p86 => ?_)
  refine OJ.st (y := .tmp 176) (z := .tmp 174) (owed := []) Ty100 ?_
  refine OW.nil ?_
  refine OJ.nil ?_
  refine SJ.sr 3 ?_
  refine OJ.go 3 [(11, .bool false), (10, .int .i64 j80), (177, .int .i64 j80)] ?_
  refine OJ.nil ?_
  exact SJ.ret rfl (Res.run (ys := [.int .i64 j80, .bool false]) (.tmp (by kernel_rfl) (.tmp (by kernel_rfl) .nil)) rfl)
noncomputable def slices_partitionCmpFunc_neigh_entry.F1 (a0 : Sl) (a1 : Int) (a4v : Any) : (LS (Int × Int) (Int × Bool)) → Reach := loopF [.inLoop (c1 (c1 (c1 (c2 (c2 (c2 (c2 (c2 (c2 (c2 (c2 (c2 slices_partitionCmpFunc_neigh_entry.B)))))))))))), .inBlock 4, .code (c2 (c2 (c2 (c2 (c2 (c2 (c2 (c2 (c2 (c2 slices_partitionCmpFunc_neigh_entry.B))))))))))] (fun s_ : (Int × Int) => [(0, Sl.v a0), (1, .int .i64 a1), (4, a4v.v), (12, .int .i64 s_.1), (13, .int .i64 s_.2)]) (fun s_ : (Int × Int) => []) slices_partitionCmpFunc_neigh_entry.F0
noncomputable def slices_partitionCmpFunc_neigh_entry.K2 (a0 : Sl) (a1 : Int) (s87 : Int) (s95 : Int) : M (LS (Int × Int) (Int × Bool)) :=
  if s87 > s95 then
    (slices_partitionCmpFunc_neigh_entry.K1 a0 a1 s95) >>= fun b => pure (LS.done b)
  else
    draw >>= fun _ =>
    idx a0.a a0.len s95 1 >>= fun p103 =>
    ld cP p103 >>= fun x104 =>
    idx a0.a a0.len s87 1 >>= fun p105 =>
    ld cP p105 >>= fun x106 =>
    idx a0.a a0.len s87 1 >>= fun p107 =>
    st cP p107 x104 >>= fun _ =>
    idx a0.a a0.len s95 1 >>= fun p108 =>
    st cP p108 x106 >>= fun _ =>
    pure (LS.next (IntKind.wrap .i64 (s87 + 1), IntKind.wrap .i64 (s95 - 1)))
theorem slices_partitionCmpFunc_neigh_entry.K2_ok (a0 : Sl) (a1 : Int) (a4v : Any) (s87 : Int) (s95 : Int) :
    SJ slices_partitionCmpFunc_neigh_entry.cx [.code (c2 (c2 (c1 (c1 (c1 (c1 (c2 (c2 (c2 (c2 (c2 (c2 (c2 (c2 (c2 slices_partitionCmpFunc_neigh_entry.B))))))))))))))), .inBlock 5, .inLoop (c1 (c1 (c1 (c2 (c2 (c2 (c2 (c2 (c2 (c2 (c2 (c2 slices_partitionCmpFunc_neigh_entry.B)))))))))))), .inBlock 4, .code (c2 (c2 (c2 (c2 (c2 (c2 (c2 (c2 (c2 (c2 slices_partitionCmpFunc_neigh_entry.B))))))))))] [(0, Sl.v a0), (1, .int .i64 a1), (4, a4v.v), (12, .int .i64 s87), (13, .int .i64 s95)] [] (slices_partitionCmpFunc_neigh_entry.K2 a0 a1 s87 s95) (slices_partitionCmpFunc_neigh_entry.F1 a0 a1 a4v) := by
  unfold slices_partitionCmpFunc_neigh_entry.K2
  refine SJ.seq ?_
  refine SJ.sr 3 ?_
  refine OJ.go 3 [(144, .bool (decide (s87 > s95))), (143, .int .i64 s95), (142, .int .i64 s87)] ?_
  refine OJ.nil ?_
  refine SJ.cond (t := (.tmp 144)) (b := decide (s87 > s95)) decide_eq_true_iff (fun hc109 => ?_) (fun hc109 => ?_)
  · refine SJ.exit (id := 4) (by rfl) ?_
    refine SJ.less [0, 1, 13] (m' := [(0, Sl.v a0), (1, .int .i64 a1), (13, .int .i64 s95)]) ?_
    refine SJ.done ?_
    exact slices_partitionCmpFunc_neigh_entry.K1_ok a0 a1 s95
  · refine SJ.skip ?_
    refine SJ.seq ?_
    refine SJ.draw (id := 18) (kd := [0, 0, 0, 0, 0, 0, 0, 1, 0, 0, 0, 1, 0, 2, 0, 2]) (bef := [0, 0, 0, 0, 0, 0, 48, 112, 0, 0, 768, 1792, 4083, 8179, 16383, 32767]) (ord := [0, 1, 2, 3, 4, 5, 6, 7, 8, 9, 10, 11, 12, 13, 14, 15]) mixed ?_
    refine OJ.go 6 [(150, .int .i64 s95), (149, Sl.v a0), (148, .int .i64 s95), (147, Sl.v a0), (146, .int .i64 s87), (145, Sl.v a0)] ?_
    refine OJ.idxS (d := 151) (T := 108) (y := .tmp 149) (j := .tmp 150) (E := 100) (cap := a0.cap) (k := .i64) (fun p103 => ?_)
    refine OJ.ld (d := 152) (y := .tmp 151) (pend2 := fun x104 => [⟨7, 100, p103, cP.val x104⟩]) Ty100 (fun _ => rfl) (fun x104 => ?_)
    refine OJ.go 2 [(154, .int .i64 s87), (153, Sl.v a0)] ?_
    refine OJ.idxS (d := 155) (T := 108) (y := .tmp 153) (j := .tmp 154) (E := 100) (cap := a0.cap) (k := .i64) (fun p105 => ?_)
    refine OJ.ld (d := 156) (y := .tmp 155) (pend2 := fun x106 => [⟨11, 100, p105, cP.val x106⟩, ⟨7, 100, p103, cP.val x104⟩]) Ty100 (fun _ => rfl) (fun x106 => ?_)
    refine OJ.idxS (d := 157) (T := 108) (y := .tmp 145) (j := .tmp 146) (E := 100) (cap := a0.cap) (k := .i64) (fun p107 => ?_)
    refine OJ.st (y := .tmp 157) (z := .tmp 152) (owed := []) Ty100 ?_
    refine OW.nil ?_
    refine OJ.idxS (d := 158) (T := 108) (y := .tmp 147) (j := .tmp 148) (E := 100) (cap := a0.cap) (k := .i64) (fun p108 => ?_)
    refine OJ.st (y := .tmp 158) (z := .tmp 156) (owed := []) Ty100 ?_
    refine OW.nil ?_
    refine OJ.nil ?_
    refine SJ.sr 3 ?_
    refine OJ.go 3 [(12, .int .i64 (IntKind.wrap .i64 (s87 + 1))), (160, .int .i64 (IntKind.wrap .i64 (s87 + 1))), (159, .int .i64 s87)] ?_
    refine OJ.nil ?_
    refine SJ.rg 3 ?_
    refine OJ.go 3 [(13, .int .i64 (IntKind.wrap .i64 (s95 - 1))), (162, .int .i64 (IntKind.wrap .i64 (s95 - 1))), (161, .int .i64 s95)] ?_
    refine OJ.nil ?_
    refine SJ.inBlock ?_
    exact SJ.at_ [0, 1, 4, 12, 13] rfl
noncomputable def slices_partitionCmpFunc_neigh_entry.F2 (a0 : Sl) (a1 : Int) (a4v : Any) (s87 : Int) : (LS Int (LS (Int × Int) (Int × Bool))) → Reach := loopF [.inLoop (c1 (c1 (c1 (c2 (c1 (c1 (c1 (c1 (c2 (c2 (c2 (c2 (c2 (c2 (c2 (c2 (c2 slices_partitionCmpFunc_neigh_entry.B))))))))))))))))), .inBlock 8, .code (c2 (c2 (c1 (c1 (c1 (c1 (c2 (c2 (c2 (c2 (c2 (c2 (c2 (c2 (c2 slices_partitionCmpFunc_neigh_entry.B))))))))))))))), .inBlock 5, .inLoop (c1 (c1 (c1 (c2 (c2 (c2 (c2 (c2 (c2 (c2 (c2 (c2 slices_partitionCmpFunc_neigh_entry.B)))))))))))), .inBlock 4, .code (c2 (c2 (c2 (c2 (c2 (c2 (c2 (c2 (c2 (c2 slices_partitionCmpFunc_neigh_entry.B))))))))))] (fun s_ : Int => [(0, Sl.v a0), (1, .int .i64 a1), (4, a4v.v), (12, .int .i64 s87), (13, .int .i64 s_)]) (fun s_ : Int => []) (slices_partitionCmpFunc_neigh_entry.F1 a0 a1 a4v)
noncomputable def slices_partitionCmpFunc_neigh_entry.L2 (a0 : Sl) (a1 : Int) (a4 : (Option Addr) → (Option Addr) → M Int) (s87 : Int) (s95 : Int) : M (LS Int (LS (Int × Int) (Int × Bool))) :=
  draw >>= fun _ =>
  (if s87 ≤ s95 then
      idx a0.a a0.len s95 1 >>= fun p110 =>
      ld cP p110 >>= fun x111 =>
      idx a0.a a0.len a1 1 >>= fun p112 =>
      ld cP p112 >>= fun x113 =>
      a4 x111 x113 >>= fun r114 =>
      pure (!(decide (r114 < 0)))
    else
      pure false) >>= fun y115 =>
  if y115 = true then
    pure (LS.next (IntKind.wrap .i64 (s95 - 1)))
  else
    (slices_partitionCmpFunc_neigh_entry.K2 a0 a1 s87 s95) >>= fun b => pure (LS.done b)
theorem slices_partitionCmpFunc_neigh_entry.L2_ok (a0 : Sl) (a1 : Int) (a4v : Any) (a4 : (Option Addr) → (Option Addr) → M Int) (h_a4 : ∀ (x0_ : (Option Addr)), ∀ (x1_ : (Option Addr)), RefV Try.prog a4v.v [.pointer x0_, .pointer x1_] (a4 x0_ x1_) (fun r_ : Int => .int .i64 r_)) (s87 : Int) (s95 : Int) :
    SJ slices_partitionCmpFunc_neigh_entry.cx [.code (c1 (c1 (c1 (c2 (c1 (c1 (c1 (c1 (c2 (c2 (c2 (c2 (c2 (c2 (c2 (c2 (c2 slices_partitionCmpFunc_neigh_entry.B))))))))))))))))), .inLoop (c1 (c1 (c1 (c2 (c1 (c1 (c1 (c1 (c2 (c2 (c2 (c2 (c2 (c2 (c2 (c2 (c2 slices_partitionCmpFunc_neigh_entry.B))))))))))))))))), .inBlock 8, .code (c2 (c2 (c1 (c1 (c1 (c1 (c2 (c2 (c2 (c2 (c2 (c2 (c2 (c2 (c2 slices_partitionCmpFunc_neigh_entry.B))))))))))))))), .inBlock 5, .inLoop (c1 (c1 (c1 (c2 (c2 (c2 (c2 (c2 (c2 (c2 (c2 (c2 slices_partitionCmpFunc_neigh_entry.B)))))))))))), .inBlock 4, .code (c2 (c2 (c2 (c2 (c2 (c2 (c2 (c2 (c2 (c2 slices_partitionCmpFunc_neigh_entry.B))))))))))] [(0, Sl.v a0), (1, .int .i64 a1), (4, a4v.v), (12, .int .i64 s87), (13, .int .i64 s95)] [] (slices_partitionCmpFunc_neigh_entry.L2 a0 a1 a4 s87 s95) (slices_partitionCmpFunc_neigh_entry.F2 a0 a1 a4v s87) := by
  unfold slices_partitionCmpFunc_neigh_entry.L2
  refine SJ.seq ?_
  refine SJ.seq ?_
  refine SJ.draw (id := 15) (kd := [0, 0, 0, 0, 0, 0, 0, 0, 1, 0, 0, 0, 1, 2, 0, 0, 0]) (bef := [0, 0, 3, 7, 15, 15, 15, 111, 239, 15, 15, 1551, 3599, 8191, 16383, 32767, 65535]) (ord := [0, 1, 2, 3, 4, 5, 6, 7, 8, 9, 10, 11, 12, 13, 14, 15, 16]) mixed ?_
  refine OJ.go 4 [(126, .bool (decide (s87 ≤ s95))), (125, .bool (decide (s87 ≤ s95))), (124, .int .i64 s95), (123, .int .i64 s87)] ?_
  refine OJ.join (b := decide (s87 ≤ s95)) [4, 5, 6, 7, 8, 9, 10, 11, 12, 13, 14, 15, 16] [] [0, 1, 4, 12, 13, 139] (fun y115 => [(0, Sl.v a0), (1, .int .i64 a1), (4, a4v.v), (12, .int .i64 s87), (13, .int .i64 s95), (139, .bool y115)]) [] [8, 12] (t := 126) decide_eq_true_iff (fun hp_ => ?_) (fun hp_ => ?_) (fun _ _ _ _ _ _ h_ => h_) (fun y115 => ?_)
  · refine OJ.go 3 [(129, .int .i64 s95), (128, Sl.v a0), (127, a4v.v)] ?_
    refine OJ.idxS (d := 130) (T := 108) (y := .tmp 128) (j := .tmp 129) (E := 100) (cap := a0.cap) (k := .i64) (fun p110 => ?_)
    refine OJ.ld (d := 131) (y := .tmp 130) (pend2 := fun x111 => [⟨8, 100, p110, cP.val x111⟩]) Ty100 (fun _ => rfl) (fun x111 => ?_)
    refine OJ.go 2 [(133, .int .i64 a1), (132, Sl.v a0)] ?_
    refine OJ.idxS (d := 134) (T := 108) (y := .tmp 132) (j := .tmp 133) (E := 100) (cap := a0.cap) (k := .i64) (fun p112 => ?_)
    refine OJ.ld (d := 135) (y := .tmp 134) (pend2 := fun x113 => [⟨12, 100, p112, cP.val x113⟩, ⟨8, 100, p110, cP.val x111⟩]) Ty100 (fun _ => rfl) (fun x113 => ?_)
    refine OJ.callV1 (d := 136) (ats := #[100, 100]) (args := [.tmp 131, .tmp 135]) (fo := .tmp 127) (vals := [.pointer x111, .pointer x113]) (owed := []) (h_a4 x111 x113) (fun r114 => ?_)
    refine OW.nil ?_
    refine OJ.go 3 [(139, .bool (!(decide (r114 < 0)))), (138, .bool (!(decide (r114 < 0)))), (137, .bool (decide (r114 < 0)))] ?_
    exact OJ.nil ⟨(Cov.mem (Cov.drop (List.mem_of_getElem? (i := 1) rfl) (Cov.drop (List.mem_of_getElem? (i := 0) rfl) Cov.nil))), rfl, _, rfl, by kernel_rfl⟩
  · refine OJ.go 13 [(139, .bool false), (138, undef), (137, undef), (136, undef), (135, undef), (134, undef), (133, undef), (132, undef), (131, undef), (130, undef), (129, undef), (128, undef), (127, undef)] ?_
    exact OJ.nil ⟨(Cov.mem Cov.nil), rfl, _, rfl, by kernel_rfl⟩
  · refine OJ.nil ?_
    refine SJ.cond (t := (.tmp 139)) (b := y115) Iff.rfl (fun hc116 => ?_) (fun hc116 => ?_)
    · refine SJ.skip ?_
      refine SJ.block (id := 9) ?_
      refine SJ.rg 3 ?_
      refine OJ.go 3 [(13, .int .i64 (IntKind.wrap .i64 (s95 - 1))), (141, .int .i64 (IntKind.wrap .i64 (s95 - 1))), (140, .int .i64 s95)] ?_
      refine OJ.nil ?_
      refine SJ.inBlock ?_
      exact SJ.at_ [0, 1, 4, 12, 13] rfl
    · refine SJ.exit (id := 8) (by rfl) ?_
      refine SJ.less [0, 1, 4, 12, 13] (m' := [(0, Sl.v a0), (1, .int .i64 a1), (4, a4v.v), (12, .int .i64 s87), (13, .int .i64 s95)]) ?_
      refine SJ.done ?_
      exact slices_partitionCmpFunc_neigh_entry.K2_ok a0 a1 a4v s87 s95
noncomputable def slices_partitionCmpFunc_neigh_entry.K3 (a0 : Sl) (a1 : Int) (a4 : (Option Addr) → (Option Addr) → M Int) (s42 : Int) (s87 : Int) : M (LS (Int × Int) (Int × Bool)) :=
  loopM (fun s_ : Int => slices_partitionCmpFunc_neigh_entry.L2 a0 a1 a4 s87 s_) s42
theorem slices_partitionCmpFunc_neigh_entry.K3_ok (a0 : Sl) (a1 : Int) (a4v : Any) (a4 : (Option Addr) → (Option Addr) → M Int) (h_a4 : ∀ (x0_ : (Option Addr)), ∀ (x1_ : (Option Addr)), RefV Try.prog a4v.v [.pointer x0_, .pointer x1_] (a4 x0_ x1_) (fun r_ : Int => .int .i64 r_)) (s42 : Int) (s87 : Int) :
    SJ slices_partitionCmpFunc_neigh_entry.cx [.code (c2 (c1 (c1 (c1 (c1 (c2 (c2 (c2 (c2 (c2 (c2 (c2 (c2 (c2 slices_partitionCmpFunc_neigh_entry.B)))))))))))))), .inBlock 5, .inLoop (c1 (c1 (c1 (c2 (c2 (c2 (c2 (c2 (c2 (c2 (c2 (c2 slices_partitionCmpFunc_neigh_entry.B)))))))))))), .inBlock 4, .code (c2 (c2 (c2 (c2 (c2 (c2 (c2 (c2 (c2 (c2 slices_partitionCmpFunc_neigh_entry.B))))))))))] [(0, Sl.v a0), (1, .int .i64 a1), (4, a4v.v), (12, .int .i64 s87), (13, .int .i64 s42)] [] (slices_partitionCmpFunc_neigh_entry.K3 a0 a1 a4 s42 s87) (slices_partitionCmpFunc_neigh_entry.F1 a0 a1 a4v) := by
  unfold slices_partitionCmpFunc_neigh_entry.K3
  refine SJ.seq ?_
  refine SJ.block (id := 8) ?_
  exact SJ.loop (fun s_ : Int => [(0, Sl.v a0), (1, .int .i64 a1), (4, a4v.v), (12, .int .i64 s87), (13, .int .i64 s_)]) (fun s_ : Int => []) [0, 1, 4, 12, 13] rfl (fun _ _ => rfl) (fun s_ => slices_partitionCmpFunc_neigh_entry.L2_ok a0 a1 a4v a4 h_a4 s87 s_)
noncomputable def slices_partitionCmpFunc_neigh_entry.F3 (a0 : Sl) (a1 : Int) (a4v : Any) (s42 : Int) : (LS Int (LS (Int × Int) (Int × Bool))) → Reach := loopF [.inLoop (c1 (c1 (c1 (c1 (c1 (c1 (c1 (c2 (c2 (c2 (c2 (c2 (c2 (c2 (c2 (c2 slices_partitionCmpFunc_neigh_entry.B)))))))))))))))), .inBlock 6, .code (c2 (c1 (c1 (c1 (c1 (c2 (c2 (c2 (c2 (c2 (c2 (c2 (c2 (c2 slices_partitionCmpFunc_neigh_entry.B)))))))))))))), .inBlock 5, .inLoop (c1 (c1 (c1 (c2 (c2 (c2 (c2 (c2 (c2 (c2 (c2 (c2 slices_partitionCmpFunc_neigh_entry.B)))))))))))), .inBlock 4, .code (c2 (c2 (c2 (c2 (c2 (c2 (c2 (c2 (c2 (c2 slices_partitionCmpFunc_neigh_entry.B))))))))))] (fun s_ : Int => [(0, Sl.v a0), (1, .int .i64 a1), (4, a4v.v), (12, .int .i64 s_), (13, .int .i64 s42)]) (fun s_ : Int => []) (slices_partitionCmpFunc_neigh_entry.F1 a0 a1 a4v)
noncomputable def slices_partitionCmpFunc_neigh_entry.L3 (a0 : Sl) (a1 : Int) (a4 : (Option Addr) → (Option Addr) → M Int) (s42 : Int) (s87 : Int) : M (LS Int (LS (Int × Int) (Int × Bool))) :=
  draw >>= fun _ =>
  (if s87 ≤ s42 then
      idx a0.a a0.len s87 1 >>= fun p117 =>
      ld cP p117 >>= fun x118 =>
      idx a0.a a0.len a1 1 >>= fun p119 =>
      ld cP p119 >>= fun x120 =>
      a4 x118 x120 >>= fun r121 =>
      pure (decide (r121 < 0))
    else
      pure false) >>= fun y122 =>
  if y122 = true then
    pure (LS.next (IntKind.wrap .i64 (s87 + 1)))
  else
    (slices_partitionCmpFunc_neigh_entry.K3 a0 a1 a4 s42 s87) >>= fun b => pure (LS.done b)
theorem slices_partitionCmpFunc_neigh_entry.L3_ok (a0 : Sl) (a1 : Int) (a4v : Any) (a4 : (Option Addr) → (Option Addr) → M Int) (h_a4 : ∀ (x0_ : (Option Addr)), ∀ (x1_ : (Option Addr)), RefV Try.prog a4v.v [.pointer x0_, .pointer x1_] (a4 x0_ x1_) (fun r_ : Int => .int .i64 r_)) (s42 : Int) (s87 : Int) :
    SJ slices_partitionCmpFunc_neigh_entry.cx [.code (c1 (c1 (c1 (c1 (c1 (c1 (c1 (c2 (c2 (c2 (c2 (c2 (c2 (c2 (c2 (c2 slices_partitionCmpFunc_neigh_entry.B)))))))))))))))), .inLoop (c1 (c1 (c1 (c1 (c1 (c1 (c1 (c2 (c2 (c2 (c2 (c2 (c2 (c2 (c2 (c2 slices_partitionCmpFunc_neigh_entry.B)))))))))))))))), .inBlock 6, .code (c2 (c1 (c1 (c1 (c1 (c2 (c2 (c2 (c2 (c2 (c2 (c2 (c2 (c2 slices_partitionCmpFunc_neigh_entry.B)))))))))))))), .inBlock 5, .inLoop (c1 (c1 (c1 (c2 (c2 (c2 (c2 (c2 (c2 (c2 (c2 (c2 slices_partitionCmpFunc_neigh_entry.B)))))))))))), .inBlock 4, .code (c2 (c2 (c2 (c2 (c2 (c2 (c2 (c2 (c2 (c2 slices_partitionCmpFunc_neigh_entry.B))))))))))] [(0, Sl.v a0), (1, .int .i64 a1), (4, a4v.v), (12, .int .i64 s87), (13, .int .i64 s42)] [] (slices_partitionCmpFunc_neigh_entry.L3 a0 a1 a4 s42 s87) (slices_partitionCmpFunc_neigh_entry.F3 a0 a1 a4v s42) := by
  unfold slices_partitionCmpFunc_neigh_entry.L3
  refine SJ.seq ?_
  refine SJ.seq ?_
  refine SJ.draw (id := 13) (kd := [0, 0, 0, 0, 0, 0, 0, 0, 1, 0, 0, 0, 1, 2, 0, 0]) (bef := [0, 0, 3, 7, 15, 15, 15, 111, 239, 15, 15, 1551, 3599, 8191, 16383, 32767]) (ord := [0, 1, 2, 3, 4, 5, 6, 7, 8, 9, 10, 11, 12, 13, 14, 15]) mixed ?_
  refine OJ.go 4 [(108, .bool (decide (s87 ≤ s42))), (107, .bool (decide (s87 ≤ s42))), (106, .int .i64 s42), (105, .int .i64 s87)] ?_
  refine OJ.join (b := decide (s87 ≤ s42)) [4, 5, 6, 7, 8, 9, 10, 11, 12, 13, 14, 15] [] [0, 1, 4, 12, 13, 120] (fun y122 => [(0, Sl.v a0), (1, .int .i64 a1), (4, a4v.v), (12, .int .i64 s87), (13, .int .i64 s42), (120, .bool y122)]) [] [8, 12] (t := 108) decide_eq_true_iff (fun hp_ => ?_) (fun hp_ => ?_) (fun _ _ _ _ _ _ h_ => h_) (fun y122 => ?_)
  · refine OJ.go 3 [(111, .int .i64 s87), (110, Sl.v a0), (109, a4v.v)] ?_
    refine OJ.idxS (d := 112) (T := 108) (y := .tmp 110) (j := .tmp 111) (E := 100) (cap := a0.cap) (k := .i64) (fun p117 => ?_)
    refine OJ.ld (d := 113) (y := .tmp 112) (pend2 := fun x118 => [⟨8, 100, p117, cP.val x118⟩]) Ty100 (fun _ => rfl) (fun x118 => ?_)
    refine OJ.go 2 [(115, .int .i64 a1), (114, Sl.v a0)] ?_
    refine OJ.idxS (d := 116) (T := 108) (y := .tmp 114) (j := .tmp 115) (E := 100) (cap := a0.cap) (k := .i64) (fun p119 => ?_)
    refine OJ.ld (d := 117) (y := .tmp 116) (pend2 := fun x120 => [⟨12, 100, p119, cP.val x120⟩, ⟨8, 100, p117, cP.val x118⟩]) Ty100 (fun _ => rfl) (fun x120 => ?_)
    refine OJ.callV1 (d := 118) (ats := #[100, 100]) (args := [.tmp 113, .tmp 117]) (fo := .tmp 109) (vals := [.pointer x118, .pointer x120]) (owed := []) (h_a4 x118 x120) (fun r121 => ?_)
    refine OW.nil ?_
    refine OJ.go 2 [(120, .bool (decide (r121 < 0))), (119, .bool (decide (r121 < 0)))] ?_
    exact OJ.nil ⟨(Cov.mem (Cov.drop (List.mem_of_getElem? (i := 1) rfl) (Cov.drop (List.mem_of_getElem? (i := 0) rfl) Cov.nil))), rfl, _, rfl, by kernel_rfl⟩
  · refine OJ.go 12 [(120, .bool false), (119, undef), (118, undef), (117, undef), (116, undef), (115, undef), (114, undef), (113, undef), (112, undef), (111, undef), (110, undef), (109, undef)] ?_
    exact OJ.nil ⟨(Cov.mem Cov.nil), rfl, _, rfl, by kernel_rfl⟩
  · refine OJ.nil ?_
    refine SJ.cond (t := (.tmp 120)) (b := y122) Iff.rfl (fun hc123 => ?_) (fun hc123 => ?_)
    · refine SJ.skip ?_
      refine SJ.block (id := 7) ?_
      refine SJ.rg 3 ?_
      refine OJ.go 3 [(12, .int .i64 (IntKind.wrap .i64 (s87 + 1))), (122, .int .i64 (IntKind.wrap .i64 (s87 + 1))), (121, .int .i64 s87)] ?_
      refine OJ.nil ?_
      refine SJ.inBlock ?_
      exact SJ.at_ [0, 1, 4, 12, 13] rfl
    · refine SJ.exit (id := 6) (by rfl) ?_
      refine SJ.less [0, 1, 4, 12, 13] (m' := [(0, Sl.v a0), (1, .int .i64 a1), (4, a4v.v), (12, .int .i64 s87), (13, .int .i64 s42)]) ?_
      refine SJ.done ?_
      exact slices_partitionCmpFunc_neigh_entry.K3_ok a0 a1 a4v a4 h_a4 s42 s87
noncomputable def slices_partitionCmpFunc_neigh_entry.L1 (a0 : Sl) (a1 : Int) (a4 : (Option Addr) → (Option Addr) → M Int) (s41 : Int) (s42 : Int) : M (LS (Int × Int) (Int × Bool)) :=
  loopM (fun s_ : Int => slices_partitionCmpFunc_neigh_entry.L3 a0 a1 a4 s42 s_) s41
theorem slices_partitionCmpFunc_neigh_entry.L1_ok (a0 : Sl) (a1 : Int) (a4v : Any) (a4 : (Option Addr) → (Option Addr) → M Int) (h_a4 : ∀ (x0_ : (Option Addr)), ∀ (x1_ : (Option Addr)), RefV Try.prog a4v.v [.pointer x0_, .pointer x1_] (a4 x0_ x1_) (fun r_ : Int => .int .i64 r_)) (s41 : Int) (s42 : Int) :
    SJ slices_partitionCmpFunc_neigh_entry.cx [.code (c1 (c1 (c1 (c2 (c2 (c2 (c2 (c2 (c2 (c2 (c2 (c2 slices_partitionCmpFunc_neigh_entry.B)))))))))))), .inLoop (c1 (c1 (c1 (c2 (c2 (c2 (c2 (c2 (c2 (c2 (c2 (c2 slices_partitionCmpFunc_neigh_entry.B)))))))))))), .inBlock 4, .code (c2 (c2 (c2 (c2 (c2 (c2 (c2 (c2 (c2 (c2 slices_partitionCmpFunc_neigh_entry.B))))))))))] [(0, Sl.v a0), (1, .int .i64 a1), (4, a4v.v), (12, .int .i64 s41), (13, .int .i64 s42)] [] (slices_partitionCmpFunc_neigh_entry.L1 a0 a1 a4 s41 s42) (slices_partitionCmpFunc_neigh_entry.F1 a0 a1 a4v) := by
  unfold slices_partitionCmpFunc_neigh_entry.L1
  refine SJ.block (id := 5) ?_
  refine SJ.seq ?_
  refine SJ.block (id := 6) ?_
  exact SJ.loop (fun s_ : Int => [(0, Sl.v a0), (1, .int .i64 a1), (4, a4v.v), (12, .int .i64 s_), (13, .int .i64 s42)]) (fun s_ : Int => []) [0, 1, 4, 12, 13] rfl (fun _ _ => rfl) (fun s_ => slices_partitionCmpFunc_neigh_entry.L3_ok a0 a1 a4v a4 h_a4 s42 s_)
noncomputable def slices_partitionCmpFunc_neigh_entry.K4 (a0 : Sl) (a1 : Int) (a4 : (Option Addr) → (Option Addr) → M Int) (s7 : Int) (s15 : Int) : M (Int × Bool) :=
  if s7 > s15 then
    draw >>= fun _ =>
    idx a0.a a0.len a1 1 >>= fun p29 =>
    ld cP p29 >>= fun x30 =>
    idx a0.a a0.len s15 1 >>= fun p31 =>
    ld cP p31 >>= fun x32 =>
    idx a0.a a0.len s15 1 >>= fun p33 =>
    st cP p33 x30 >>= fun _ =>
    idx a0.a a0.len a1 1 >>= fun p34 =>
    st cP p34 x32 >>= fun _ =>
    pure (s15, true)
  else
    draw >>= fun _ =>
    idx a0.a a0.len s15 1 >>= fun p35 =>
    ld cP p35 >>= fun x36 =>
    idx a0.a a0.len s7 1 >>= fun p37 =>
    ld cP p37 >>= fun x38 =>
    idx a0.a a0.len s7 1 >>= fun p39 =>
    st cP p39 x36 >>= fun _ =>
    idx a0.a a0.len s15 1 >>= fun p40 =>
    st cP p40 x38 >>= fun _ =>
    loopM (fun s_ : (Int × Int) => slices_partitionCmpFunc_neigh_entry.L1 a0 a1 a4 s_.1 s_.2) (IntKind.wrap .i64 (s7 + 1), IntKind.wrap .i64 (s15 - 1))
theorem slices_partitionCmpFunc_neigh_entry.K4_ok (a0 : Sl) (a1 : Int) (a4v : Any) (a4 : (Option Addr) → (Option Addr) → M Int) (h_a4 : ∀ (x0_ : (Option Addr)), ∀ (x1_ : (Option Addr)), RefV Try.prog a4v.v [.pointer x0_, .pointer x1_] (a4 x0_ x1_) (fun r_ : Int => .int .i64 r_)) (s7 : Int) (s15 : Int) :
    SJ slices_partitionCmpFunc_neigh_entry.cx [.code (c2 (c2 (c2 (c2 (c2 slices_partitionCmpFunc_neigh_entry.B)))))] [(0, Sl.v a0), (1, .int .i64 a1), (4, a4v.v), (12, .int .i64 s7), (13, .int .i64 s15)] [] (slices_partitionCmpFunc_neigh_entry.K4 a0 a1 a4 s7 s15) slices_partitionCmpFunc_neigh_entry.F0 := by
  unfold slices_partitionCmpFunc_neigh_entry.K4
  refine SJ.seq ?_
  refine SJ.sr 3 ?_
  refine OJ.go 3 [(71, .bool (decide (s7 > s15))), (70, .int .i64 s15), (69, .int .i64 s7)] ?_
  refine OJ.nil ?_
  refine SJ.cond (t := (.tmp 71)) (b := decide (s7 > s15)) decide_eq_true_iff (fun hc124 => ?_) (fun hc124 => ?_)
  · refine SJ.seq ?_
    refine SJ.draw (id := 8) (kd := [0, 0, 0, 0, 0, 0, 0, 1, 0, 0, 0, 1, 0, 2, 0, 2]) (bef := [0, 0, 0, 0, 0, 0, 48, 112, 0, 0, 768, 1792, 4083, 8179, 16383, 32767]) (ord := [0, 1, 2, 3, 4, 5, 6, 7, 8, 9, 10, 11, 12, 13, 14, 15]) mixed ?_
    refine OJ.go 6 [(77, .int .i64 a1), (76, Sl.v a0), (75, .int .i64 a1), (74, Sl.v a0), (73, .int .i64 s15), (72, Sl.v a0)] ?_
    refine OJ.idxS (d := 78) (T := 108) (y := .tmp 76) (j := .tmp 77) (E := 100) (cap := a0.cap) (k := .i64) (fun p29 => ?_)
    refine OJ.ld (d := 79) (y := .tmp 78) (pend2 := fun x30 => [⟨7, 100, p29, cP.val x30⟩]) Ty100 (fun _ => rfl) (fun x30 => ?_)
    refine OJ.go 2 [(81, .int .i64 s15), (80, Sl.v a0)] ?_
    refine OJ.idxS (d := 82) (T := 108) (y := .tmp 80) (j := .tmp 81) (E := 100) (cap := a0.cap) (k := .i64) (fun p31 => ?_)
    refine OJ.ld (d := 83) (y := .tmp 82) (pend2 := fun x32 => [⟨11, 100, p31, cP.val x32⟩, ⟨7, 100, p29, cP.val x30⟩]) Ty100 (fun _ => rfl) (fun x32 => ?_)
    refine OJ.idxS (d := 84) (T := 108) (y := .tmp 72) (j := .tmp 73) (E := 100) (cap := a0.cap) (k := .i64) (fun p33 => ?_)
    refine OJ.st (y := .tmp 84) (z := .tmp 79) (owed := []) Ty100 ?_
    refine OW.nil ?_
    refine OJ.idxS (d := 85) (T := 108) (y := .tmp 74) (j := .tmp 75) (E := 100) (cap := a0.cap) (k := .i64) (fun p34 => ?_)
    refine OJ.st (y := .tmp 85) (z := .tmp 83) (owed := []) Ty100 ?_
    refine OW.nil ?_
    refine OJ.nil ?_
    refine SJ.sr 3 ?_
    refine OJ.go 3 [(11, .bool true), (10, .int .i64 s15), (86, .int .i64 s15)] ?_
    refine OJ.nil ?_
    exact SJ.ret rfl (Res.run (ys := [.int .i64 s15, .bool true]) (.tmp (by kernel_rfl) (.tmp (by kernel_rfl) .nil)) rfl)
  · refine SJ.skip ?_
    refine SJ.seq ?_
    refine SJ.draw (id := 10) (kd := [0, 0, 0, 0, 0, 0, 0, 1, 0, 0, 0, 1, 0, 2, 0, 2]) (bef := [0, 0, 0, 0, 0, 0, 48, 112, 0, 0, 768, 1792, 4083, 8179, 16383, 32767]) (ord := [0, 1, 2, 3, 4, 5, 6, 7, 8, 9, 10, 11, 12, 13, 14, 15]) mixed ?_
    refine OJ.go 6 [(92, .int .i64 s15), (91, Sl.v a0), (90, .int .i64 s15), (89, Sl.v a0), (88, .int .i64 s7), (87, Sl.v a0)] ?_
    refine OJ.idxS (d := 93) (T := 108) (y := .tmp 91) (j := .tmp 92) (E := 100) (cap := a0.cap) (k := .i64) (fun p35 => ?_)
    refine OJ.ld (d := 94) (y := .tmp 93) (pend2 := fun x36 => [⟨7, 100, p35, cP.val x36⟩]) Ty100 (fun _ => rfl) (fun x36 => ?_)
    refine OJ.go 2 [(96, .int .i64 s7), (95, Sl.v a0)] ?_
    refine OJ.idxS (d := 97) (T := 108) (y := .tmp 95) (j := .tmp 96) (E := 100) (cap := a0.cap) (k := .i64) (fun p37 => ?_)
    refine OJ.ld (d := 98) (y := .tmp 97) (pend2 := fun x38 => [⟨11, 100, p37, cP.val x38⟩, ⟨7, 100, p35, cP.val x36⟩]) Ty100 (fun _ => rfl) (fun x38 => ?_)
    refine OJ.idxS (d := 99) (T := 108) (y := .tmp 87) (j := .tmp 88) (E := 100) (cap := a0.cap) (k := .i64) (fun p39 => ?_)
    refine OJ.st (y := .tmp 99) (z := .tmp 94) (owed := []) Ty100 ?_
    refine OW.nil ?_
    refine OJ.idxS (d := 100) (T := 108) (y := .tmp 89) (j := .tmp 90) (E := 100) (cap := a0.cap) (k := .i64) (fun p40 => ?_)
    refine OJ.st (y := .tmp 100) (z := .tmp 98) (owed := []) Ty100 ?_
    refine OW.nil ?_
    refine OJ.nil ?_
    refine SJ.sr 3 ?_
    refine OJ.go 3 [(12, .int .i64 (IntKind.wrap .i64 (s7 + 1))), (102, .int .i64 (IntKind.wrap .i64 (s7 + 1))), (101, .int .i64 s7)] ?_
    refine OJ.nil ?_
    refine SJ.sr 3 ?_
    refine OJ.go 3 [(13, .int .i64 (IntKind.wrap .i64 (s15 - 1))), (104, .int .i64 (IntKind.wrap .i64 (s15 - 1))), (103, .int .i64 s15)] ?_
    refine OJ.nil ?_
    refine SJ.seq ?_
    refine SJ.block (id := 4) ?_
    exact SJ.loop (fun s_ : (Int × Int) => [(0, Sl.v a0), (1, .int .i64 a1), (4, a4v.v), (12, .int .i64 s_.1), (13, .int .i64 s_.2)]) (fun s_ : (Int × Int) => []) [0, 1, 4, 12, 13] rfl (fun _ _ => rfl) (fun s_ => slices_partitionCmpFunc_neigh_entry.L1_ok a0 a1 a4v a4 h_a4 s_.1 s_.2)
noncomputable def slices_partitionCmpFunc_neigh_entry.F4 (a0 : Sl) (a1 : Int) (a4v : Any) (s7 : Int) : (LS Int (Int × Bool)) → Reach := loopF [.inLoop (c1 (c1 (c1 (c2 (c2 (c2 (c2 slices_partitionCmpFunc_neigh_entry.B))))))), .inBlock 2, .code (c2 (c2 (c2 (c2 (c2 slices_partitionCmpFunc_neigh_entry.B)))))] (fun s_ : Int => [(0, Sl.v a0), (1, .int .i64 a1), (4, a4v.v), (12, .int .i64 s7), (13, .int .i64 s_)]) (fun s_ : Int => []) slices_partitionCmpFunc_neigh_entry.F0
noncomputable def slices_partitionCmpFunc_neigh_entry.L4 (a0 : Sl) (a1 : Int) (a4 : (Option Addr) → (Option Addr) → M Int) (s7 : Int) (s15 : Int) : M (LS Int (Int × Bool)) :=
  draw >>= fun _ =>
  (if s7 ≤ s15 then
      idx a0.a a0.len s15 1 >>= fun p125 =>
      ld cP p125 >>= fun x126 =>
      idx a0.a a0.len a1 1 >>= fun p127 =>
      ld cP p127 >>= fun x128 =>
      a4 x126 x128 >>= fun r129 =>
      pure (!(decide (r129 < 0)))
    else
      pure false) >>= fun y130 =>
  if y130 = true then
    pure (LS.next (IntKind.wrap .i64 (s15 - 1)))
  else
    (slices_partitionCmpFunc_neigh_entry.K4 a0 a1 a4 s7 s15) >>= fun b => pure (LS.done b)
theorem slices_partitionCmpFunc_neigh_entry.L4_ok (a0 : Sl) (a1 : Int) (a4v : Any) (a4 : (Option Addr) → (Option Addr) → M Int) (h_a4 : ∀ (x0_ : (Option Addr)), ∀ (x1_ : (Option Addr)), RefV Try.prog a4v.v [.pointer x0_, .pointer x1_] (a4 x0_ x1_) (fun r_ : Int => .int .i64 r_)) (s7 : Int) (s15 : Int) :
    SJ slices_partitionCmpFunc_neigh_entry.cx [.code (c1 (c1 (c1 (c2 (c2 (c2 (c2 slices_partitionCmpFunc_neigh_entry.B))))))), .inLoop (c1 (c1 (c1 (c2 (c2 (c2 (c2 slices_partitionCmpFunc_neigh_entry.B))))))), .inBlock 2, .code (c2 (c2 (c2 (c2 (c2 slices_partitionCmpFunc_neigh_entry.B)))))] [(0, Sl.v a0), (1, .int .i64 a1), (4, a4v.v), (12, .int .i64 s7), (13, .int .i64 s15)] [] (slices_partitionCmpFunc_neigh_entry.L4 a0 a1 a4 s7 s15) (slices_partitionCmpFunc_neigh_entry.F4 a0 a1 a4v s7) := by
  unfold slices_partitionCmpFunc_neigh_entry.L4
  refine SJ.seq ?_
  refine SJ.seq ?_
  refine SJ.draw (id := 5) (kd := [0, 0, 0, 0, 0, 0, 0, 0, 1, 0, 0, 0, 1, 2, 0, 0, 0]) (bef := [0, 0, 3, 7, 15, 15, 15, 111, 239, 15, 15, 1551, 3599, 8191, 16383, 32767, 65535]) (ord := [0, 1, 2, 3, 4, 5, 6, 7, 8, 9, 10, 11, 12, 13, 14, 15, 16]) mixed ?_
  refine OJ.go 4 [(53, .bool (decide (s7 ≤ s15))), (52, .bool (decide (s7 ≤ s15))), (51, .int .i64 s15), (50, .int .i64 s7)] ?_
  refine OJ.join (b := decide (s7 ≤ s15)) [4, 5, 6, 7, 8, 9, 10, 11, 12, 13, 14, 15, 16] [] [0, 1, 4, 12, 13, 66] (fun y130 => [(0, Sl.v a0), (1, .int .i64 a1), (4, a4v.v), (12, .int .i64 s7), (13, .int .i64 s15), (66, .bool y130)]) [] [8, 12] (t := 53) decide_eq_true_iff (fun hp_ => ?_) (fun hp_ => ?_) (fun _ _ _ _ _ _ h_ => h_) (fun y130 => ?_)
  · refine OJ.go 3 [(56, .int .i64 s15), (55, Sl.v a0), (54, a4v.v)] ?_
    refine OJ.idxS (d := 57) (T := 108) (y := .tmp 55) (j := .tmp 56) (E := 100) (cap := a0.cap) (k := .i64) (fun p125 => ?_)
    refine OJ.ld (d := 58) (y := .tmp 57) (pend2 := fun x126 => [⟨8, 100, p125, cP.val x126⟩]) Ty100 (fun _ => rfl) (fun x126 => ?_)
    refine OJ.go 2 [(60, .int .i64 a1), (59, Sl.v a0)] ?_
    refine OJ.idxS (d := 61) (T := 108) (y := .tmp 59) (j := .tmp 60) (E := 100) (cap := a0.cap) (k := .i64) (fun p127 => ?_)
    refine OJ.ld (d := 62) (y := .tmp 61) (pend2 := fun x128 => [⟨12, 100, p127, cP.val x128⟩, ⟨8, 100, p125, cP.val x126⟩]) Ty100 (fun _ => rfl) (fun x128 => ?_)
    refine OJ.callV1 (d := 63) (ats := #[100, 100]) (args := [.tmp 58, .tmp 62]) (fo := .tmp 54) (vals := [.pointer x126, .pointer x128]) (owed := []) (h_a4 x126 x128) (fun r129 => ?_)
    refine OW.nil ?_
    refine OJ.go 3 [(66, .bool (!(decide (r129 < 0)))), (65, .bool (!(decide (r129 < 0)))), (64, .bool (decide (r129 < 0)))] ?_
    exact OJ.nil ⟨(Cov.mem (Cov.drop (List.mem_of_getElem? (i := 1) rfl) (Cov.drop (List.mem_of_getElem? (i := 0) rfl) Cov.nil))), rfl, _, rfl, by kernel_rfl⟩
  · refine OJ.go 13 [(66, .bool false), (65, undef), (64, undef), (63, undef), (62, undef), (61, undef), (60, undef), (59, undef), (58, undef), (57, undef), (56, undef), (55, undef), (54, undef)] ?_
    exact OJ.nil ⟨(Cov.mem Cov.nil), rfl, _, rfl, by kernel_rfl⟩
  · refine OJ.nil ?_
    refine SJ.cond (t := (.tmp 66)) (b := y130) Iff.rfl (fun hc131 => ?_) (fun hc131 => ?_)
    · refine SJ.skip ?_
      refine SJ.block (id := 3) ?_
      refine SJ.rg 3 ?_
      refine OJ.go 3 [(13, .int .i64 (IntKind.wrap .i64 (s15 - 1))), (68, .int .i64 (IntKind.wrap .i64 (s15 - 1))), (67, .int .i64 s15)] ?_
      refine OJ.nil ?_
      refine SJ.inBlock ?_
      exact SJ.at_ [0, 1, 4, 12, 13] rfl
    · refine SJ.exit (id := 2) (by rfl) ?_
      refine SJ.less [0, 1, 4, 12, 13] (m' := [(0, Sl.v a0), (1, .int .i64 a1), (4, a4v.v), (12, .int .i64 s7), (13, .int .i64 s15)]) ?_
      refine SJ.done ?_
      exact slices_partitionCmpFunc_neigh_entry.K4_ok a0 a1 a4v a4 h_a4 s7 s15
noncomputable def slices_partitionCmpFunc_neigh_entry.K5 (a0 : Sl) (a1 : Int) (a2 : Int) (a4 : (Option Addr) → (Option Addr) → M Int) (s7 : Int) : M (Int × Bool) :=
  loopM (fun s_ : Int => slices_partitionCmpFunc_neigh_entry.L4 a0 a1 a4 s7 s_) (IntKind.wrap .i64 (a2 - 1))
theorem slices_partitionCmpFunc_neigh_entry.K5_ok (a0 : Sl) (a1 : Int) (a2 : Int) (a4v : Any) (a4 : (Option Addr) → (Option Addr) → M Int) (h_a4 : ∀ (x0_ : (Option Addr)), ∀ (x1_ : (Option Addr)), RefV Try.prog a4v.v [.pointer x0_, .pointer x1_] (a4 x0_ x1_) (fun r_ : Int => .int .i64 r_)) (s7 : Int) :
    SJ slices_partitionCmpFunc_neigh_entry.cx [.code (c2 (c2 (c2 (c2 slices_partitionCmpFunc_neigh_entry.B))))] [(0, Sl.v a0), (1, .int .i64 a1), (4, a4v.v), (12, .int .i64 s7), (13, .int .i64 (IntKind.wrap .i64 (a2 - 1)))] [] (slices_partitionCmpFunc_neigh_entry.K5 a0 a1 a2 a4 s7) slices_partitionCmpFunc_neigh_entry.F0 := by
  unfold slices_partitionCmpFunc_neigh_entry.K5
  refine SJ.seq ?_
  refine SJ.block (id := 2) ?_
  exact SJ.loop (fun s_ : Int => [(0, Sl.v a0), (1, .int .i64 a1), (4, a4v.v), (12, .int .i64 s7), (13, .int .i64 s_)]) (fun s_ : Int => []) [0, 1, 4, 12, 13] rfl (fun _ _ => rfl) (fun s_ => slices_partitionCmpFunc_neigh_entry.L4_ok a0 a1 a4v a4 h_a4 s7 s_)
noncomputable def slices_partitionCmpFunc_neigh_entry.F5 (a0 : Sl) (a1 : Int) (a2 : Int) (a4v : Any) : (LS Int (Int × Bool)) → Reach := loopF [.inLoop (c1 (c1 (c1 (c2 (c2 (c2 slices_partitionCmpFunc_neigh_entry.B)))))), .inBlock 0, .code (c2 (c2 (c2 (c2 slices_partitionCmpFunc_neigh_entry.B))))] (fun s_ : Int => [(0, Sl.v a0), (1, .int .i64 a1), (4, a4v.v), (12, .int .i64 s_), (13, .int .i64 (IntKind.wrap .i64 (a2 - 1)))]) (fun s_ : Int => []) slices_partitionCmpFunc_neigh_entry.F0
noncomputable def slices_partitionCmpFunc_neigh_entry.L5 (a0 : Sl) (a1 : Int) (a2 : Int) (a4 : (Option Addr) → (Option Addr) → M Int) (s7 : Int) : M (LS Int (Int × Bool)) :=
  draw >>= fun _ =>
  (if s7 ≤ (IntKind.wrap .i64 (a2 - 1)) then
      idx a0.a a0.len s7 1 >>= fun p132 =>
      ld cP p132 >>= fun x133 =>
      idx a0.a a0.len a1 1 >>= fun p134 =>
      ld cP p134 >>= fun x135 =>
      a4 x133 x135 >>= fun r136 =>
      pure (decide (r136 < 0))
    else
      pure false) >>= fun y137 =>
  if y137 = true then
    pure (LS.next (IntKind.wrap .i64 (s7 + 1)))
  else
    (slices_partitionCmpFunc_neigh_entry.K5 a0 a1 a2 a4 s7) >>= fun b => pure (LS.done b)
theorem slices_partitionCmpFunc_neigh_entry.L5_ok (a0 : Sl) (a1 : Int) (a2 : Int) (a4v : Any) (a4 : (Option Addr) → (Option Addr) → M Int) (h_a4 : ∀ (x0_ : (Option Addr)), ∀ (x1_ : (Option Addr)), RefV Try.prog a4v.v [.pointer x0_, .pointer x1_] (a4 x0_ x1_) (fun r_ : Int => .int .i64 r_)) (s7 : Int) :
    SJ slices_partitionCmpFunc_neigh_entry.cx [.code (c1 (c1 (c1 (c2 (c2 (c2 slices_partitionCmpFunc_neigh_entry.B)))))), .inLoop (c1 (c1 (c1 (c2 (c2 (c2 slices_partitionCmpFunc_neigh_entry.B)))))), .inBlock 0, .code (c2 (c2 (c2 (c2 slices_partitionCmpFunc_neigh_entry.B))))] [(0, Sl.v a0), (1, .int .i64 a1), (4, a4v.v), (12, .int .i64 s7), (13, .int .i64 (IntKind.wrap .i64 (a2 - 1)))] [] (slices_partitionCmpFunc_neigh_entry.L5 a0 a1 a2 a4 s7) (slices_partitionCmpFunc_neigh_entry.F5 a0 a1 a2 a4v) := by
  unfold slices_partitionCmpFunc_neigh_entry.L5
  refine SJ.seq ?_
  refine SJ.seq ?_
  refine SJ.draw (id := 3) (kd := [0, 0, 0, 0, 0, 0, 0, 0, 1, 0, 0, 0, 1, 2, 0, 0]) (bef := [0, 0, 3, 7, 15, 15, 15, 111, 239, 15, 15, 1551, 3599, 8191, 16383, 32767]) (ord := [0, 1, 2, 3, 4, 5, 6, 7, 8, 9, 10, 11, 12, 13, 14, 15]) mixed ?_
  refine OJ.go 4 [(35, .bool (decide (s7 ≤ (IntKind.wrap .i64 (a2 - 1))))), (34, .bool (decide (s7 ≤ (IntKind.wrap .i64 (a2 - 1))))), (33, .int .i64 (IntKind.wrap .i64 (a2 - 1))), (32, .int .i64 s7)] ?_
  refine OJ.join (b := decide (s7 ≤ (IntKind.wrap .i64 (a2 - 1)))) [4, 5, 6, 7, 8, 9, 10, 11, 12, 13, 14, 15] [] [0, 1, 4, 12, 13, 47] (fun y137 => [(0, Sl.v a0), (1, .int .i64 a1), (4, a4v.v), (12, .int .i64 s7), (13, .int .i64 (IntKind.wrap .i64 (a2 - 1))), (47, .bool y137)]) [] [8, 12] (t := 35) decide_eq_true_iff (fun hp_ => ?_) (fun hp_ => ?_) (fun _ _ _ _ _ _ h_ => h_) (fun y137 => ?_)
  · refine OJ.go 3 [(38, .int .i64 s7), (37, Sl.v a0), (36, a4v.v)] ?_
    refine OJ.idxS (d := 39) (T := 108) (y := .tmp 37) (j := .tmp 38) (E := 100) (cap := a0.cap) (k := .i64) (fun p132 => ?_)
    refine OJ.ld (d := 40) (y := .tmp 39) (pend2 := fun x133 => [⟨8, 100, p132, cP.val x133⟩]) Ty100 (fun _ => rfl) (fun x133 => ?_)
    refine OJ.go 2 [(42, .int .i64 a1), (41, Sl.v a0)] ?_
    refine OJ.idxS (d := 43) (T := 108) (y := .tmp 41) (j := .tmp 42) (E := 100) (cap := a0.cap) (k := .i64) (fun p134 => ?_)
    refine OJ.ld (d := 44) (y := .tmp 43) (pend2 := fun x135 => [⟨12, 100, p134, cP.val x135⟩, ⟨8, 100, p132, cP.val x133⟩]) Ty100 (fun _ => rfl) (fun x135 => ?_)
    refine OJ.callV1 (d := 45) (ats := #[100, 100]) (args := [.tmp 40, .tmp 44]) (fo := .tmp 36) (vals := [.pointer x133, .pointer x135]) (owed := []) (h_a4 x133 x135) (fun r136 => ?_)
    refine OW.nil ?_
    refine OJ.go 2 [(47, .bool (decide (r136 < 0))), (46, .bool (decide (r136 < 0)))] ?_
    exact OJ.nil ⟨(Cov.mem (Cov.drop (List.mem_of_getElem? (i := 1) rfl) (Cov.drop (List.mem_of_getElem? (i := 0) rfl) Cov.nil))), rfl, _, rfl, by kernel_rfl⟩
  · refine OJ.go 12 [(47, .bool false), (46, undef), (45, undef), (44, undef), (43, undef), (42, undef), (41, undef), (40, undef), (39, undef), (38, undef), (37, undef), (36, undef)] ?_
    exact OJ.nil ⟨(Cov.mem Cov.nil), rfl, _, rfl, by kernel_rfl⟩
  · refine OJ.nil ?_
    refine SJ.cond (t := (.tmp 47)) (b := y137) Iff.rfl (fun hc138 => ?_) (fun hc138 => ?_)
    · refine SJ.skip ?_
      refine SJ.block (id := 1) ?_
      refine SJ.rg 3 ?_
      refine OJ.go 3 [(12, .int .i64 (IntKind.wrap .i64 (s7 + 1))), (49, .int .i64 (IntKind.wrap .i64 (s7 + 1))), (48, .int .i64 s7)] ?_
      refine OJ.nil ?_
      refine SJ.inBlock ?_
      exact SJ.at_ [0, 1, 4, 12, 13] rfl
    · refine SJ.exit (id := 0) (by rfl) ?_
      refine SJ.less [0, 1, 4, 12, 13] (m' := [(0, Sl.v a0), (1, .int .i64 a1), (4, a4v.v), (12, .int .i64 s7), (13, .int .i64 (IntKind.wrap .i64 (a2 - 1)))]) ?_
      refine SJ.done ?_
      exact slices_partitionCmpFunc_neigh_entry.K5_ok a0 a1 a2 a4v a4 h_a4 s7
noncomputable def slices_partitionCmpFunc_neigh_entry (a0 : Sl) (a1 : Int) (a2 : Int) (a3 : Int) (a4 : (Option Addr) → (Option Addr) → M Int) : M (Int × Bool) :=
  draw >>= fun _ =>
  idx a0.a a0.len a3 1 >>= fun p1 =>
  ld cP p1 >>= fun x2 =>
  idx a0.a a0.len a1 1 >>= fun p3 =>
  ld cP p3 >>= fun x4 =>
  idx a0.a a0.len a1 1 >>= fun p5 =>
  st cP p5 x2 >>= fun _ =>
  idx a0.a a0.len a3 1 >>= fun p6 =>
  st cP p6 x4 >>= fun _ =>
  loopM (fun s_ : Int => slices_partitionCmpFunc_neigh_entry.L5 a0 a1 a2 a4 s_) (IntKind.wrap .i64 (a1 + 1))
theorem slices_partitionCmpFunc_neigh_entry_ok (a0 : Sl) (a1 : Int) (a2 : Int) (a3 : Int) (a4v : Any) (a4 : (Option Addr) → (Option Addr) → M Int) (h_a4 : ∀ (x0_ : (Option Addr)), ∀ (x1_ : (Option Addr)), RefV Try.prog a4v.v [.pointer x0_, .pointer x1_] (a4 x0_ x1_) (fun r_ : Int => .int .i64 r_)) : Ref Try.prog 85 [Sl.v a0, .int .i64 a1, .int .i64 a2, .int .i64 a3, a4v.v] (slices_partitionCmpFunc_neigh_entry a0 a1 a2 a3 a4) slices_partitionCmpFunc_neigh_entry.out := by
  refine Ref.of (cd := slices_partitionCmpFunc_neigh_entry.B) Try.func85 ?_
  show SJ slices_partitionCmpFunc_neigh_entry.cx [.code slices_partitionCmpFunc_neigh_entry.B] [(0, Sl.v a0), (1, .int .i64 a1), (2, .int .i64 a2), (3, .int .i64 a3), (4, a4v.v)] [] (slices_partitionCmpFunc_neigh_entry a0 a1 a2 a3 a4) slices_partitionCmpFunc_neigh_entry.F0
  unfold slices_partitionCmpFunc_neigh_entry
  refine SJ.sr 2 ?_
  refine OJ.go 2 [(11, .bool false), (10, .int .i64 0)] ?_
  refine OJ.nil ?_
  refine SJ.seq ?_
  refine SJ.draw (id := 1) (kd := [0, 0, 0, 0, 0, 0, 0, 1, 0, 0, 0, 1, 0, 2, 0, 2]) (bef := [0, 0, 0, 0, 0, 0, 48, 112, 0, 0, 768, 1792, 4083, 8179, 16383, 32767]) (ord := [0, 1, 2, 3, 4, 5, 6, 7, 8, 9, 10, 11, 12, 13, 14, 15]) mixed ?_
  refine OJ.go 6 [(19, .int .i64 a3), (18, Sl.v a0), (17, .int .i64 a3), (16, Sl.v a0), (15, .int .i64 a1), (14, Sl.v a0)] ?_
  refine OJ.idxS (d := 20) (T := 108) (y := .tmp 18) (j := .tmp 19) (E := 100) (cap := a0.cap) (k := .i64) (fun p1 => ?_)
  refine OJ.ld (d := 21) (y := .tmp 20) (pend2 := fun x2 => [⟨7, 100, p1, cP.val x2⟩]) Ty100 (fun _ => rfl) (fun x2 => ?_)
  refine OJ.go 2 [(23, .int .i64 a1), (22, Sl.v a0)] ?_
  refine OJ.idxS (d := 24) (T := 108) (y := .tmp 22) (j := .tmp 23) (E := 100) (cap := a0.cap) (k := .i64) (fun p3 => ?_)
  refine OJ.ld (d := 25) (y := .tmp 24) (pend2 := fun x4 => [⟨11, 100, p3, cP.val x4⟩, ⟨7, 100, p1, cP.val x2⟩]) Ty100 (fun _ => rfl) (fun x4 => ?_)
  refine OJ.idxS (d := 26) (T := 108) (y := .tmp 14) (j := .tmp 15) (E := 100) (cap := a0.cap) (k := .i64) (fun p5 => ?_)
  refine OJ.st (y := .tmp 26) (z := .tmp 21) (owed := []) Ty100 ?_
  refine OW.nil ?_
  refine OJ.idxS (d := 27) (T := 108) (y := .tmp 16) (j := .tmp 17) (E := 100) (cap := a0.cap) (k := .i64) (fun p6 => ?_)
  refine OJ.st (y := .tmp 27) (z := .tmp 25) (owed := []) Ty100 ?_
  refine OW.nil ?_
  refine OJ.nil ?_
  refine SJ.sr 6 ?_
  refine OJ.go 6 [(13, .int .i64 (IntKind.wrap .i64 (a2 - 1))), (12, .int .i64 (IntKind.wrap .i64 (a1 + 1))), (31, .int .i64 (IntKind.wrap .i64 (a2 - 1))), (30, .int .i64 a2), (29, .int .i64 (IntKind.wrap .i64 (a1 + 1))), (28, .int .i64 a1)] ?_
  refine OJ.nil ?_
  refine SJ.seq ?_
  refine SJ.block (id := 0) ?_
  exact SJ.loop (fun s_ : Int => [(0, Sl.v a0), (1, .int .i64 a1), (4, a4v.v), (12, .int .i64 s_), (13, .int .i64 (IntKind.wrap .i64 (a2 - 1)))]) (fun s_ : Int => []) [0, 1, 4, 12, 13] rfl (fun _ _ => rfl) (fun s_ => slices_partitionCmpFunc_neigh_entry.L5_ok a0 a1 a2 a4v a4 h_a4 s_)

/-! ### slices.pdqsortCmpFunc[*weir/neigh.entry]: function 69 -/
noncomputable def slices_pdqsortCmpFunc_neigh_entry.B : Code := (Try.f69.body).getD .skip
noncomputable def slices_pdqsortCmpFunc_neigh_entry.cx : Fx := ⟨Try.prog, 69, Try.f69⟩
noncomputable def slices_pdqsortCmpFunc_neigh_entry.out (r_ : Unit) : Value := .tuple #[]
noncomputable def slices_pdqsortCmpFunc_neigh_entry.F0 (r_ : Unit) : Reach := .ret (slices_pdqsortCmpFunc_neigh_entry.out r_)
noncomputable def slices_pdqsortCmpFunc_neigh_entry.F1 (a0 : Sl) (a4v : Any) : (LS (Int × Int × Int × Bool × Bool) Unit) → Reach := loopF [.inLoop (c1 (c1 (c2 (c2 slices_pdqsortCmpFunc_neigh_entry.B)))), .inBlock 0] (fun s_ : (Int × Int × Int × Bool × Bool) => [(0, Sl.v a0), (1, .int .i64 s_.1), (2, .int .i64 s_.2.1), (3, .int .i64 s_.2.2.1), (4, a4v.v), (10, .bool s_.2.2.2.1), (11, .bool s_.2.2.2.2)]) (fun s_ : (Int × Int × Int × Bool × Bool) => []) slices_pdqsortCmpFunc_neigh_entry.F0
noncomputable def slices_pdqsortCmpFunc_neigh_entry.K1 (a0 : Sl) (a4 : (Option Addr) → (Option Addr) → M Int) (rec_ : Sl → Int → Int → Int → M Unit) (s1 : Int) (s2 : Int) (s4 : Bool) (s5 : Bool) (j11 : Int) (j14 : Int) : M (LS (Int × Int × Int × Bool × Bool) Unit) :=
  draw >>= fun _ =>
  (if s1 > 0 then
      idx a0.a a0.len (IntKind.wrap .i64 (s1 - 1)) 1 >>= fun p20 =>
      ld cP p20 >>= fun x21 =>
      idx a0.a a0.len j14 1 >>= fun p22 =>
      ld cP p22 >>= fun x23 =>
      a4 x21 x23 >>= fun r24 =>
      pure (!(decide (r24 < 0)))
    else
      pure false) >>= fun y25 =>
  if y25 = true then
    slices_partitionEqualCmpFunc_neigh_entry a0 s1 s2 j14 a4 >>= fun r27 =>
    pure (LS.next (r27, s2, j11, s4, s5))
  else
    slices_partitionCmpFunc_neigh_entry a0 s1 s2 j14 a4 >>= fun r28 =>
    if (IntKind.wrap .i64 (r28.1 - s1)) < (IntKind.wrap .i64 (s2 - r28.1)) then
      rec_ a0 s1 r28.1 j11 >>= fun r31 =>
      pure (LS.next (IntKind.wrap .i64 (r28.1 + 1), s2, j11, decide ((IntKind.wrap .i64 (r28.1 - s1)) ≥ (IntKind.wrap .i64 (Int.tdiv (IntKind.wrap .i64 (s2 - s1)) 8))), r28.2))
    else
      rec_ a0 (IntKind.wrap .i64 (r28.1 + 1)) s2 j11 >>= fun r32 =>
      pure (LS.next (s1, r28.1, j11, decide ((IntKind.wrap .i64 (s2 - r28.1)) ≥ (IntKind.wrap .i64 (Int.tdiv (IntKind.wrap .i64 (s2 - s1)) 8))), r28.2))
theorem slices_pdqsortCmpFunc_neigh_entry.K1_ok (a0 : Sl) (a4v : Any) (a4 : (Option Addr) → (Option Addr) → M Int) (h_a4 : ∀ (x0_ : (Option Addr)), ∀ (x1_ : (Option Addr)), RefV Try.prog a4v.v [.pointer x0_, .pointer x1_] (a4 x0_ x1_) (fun r_ : Int => .int .i64 r_)) (rec_ : Sl → Int → Int → Int → M Unit) (h_rec_ : ∀ (x0_ : Sl) (x1_ : Int) (x2_ : Int) (x3_ : Int), Ref Try.prog 69 [Sl.v x0_, .int .i64 x1_, .int .i64 x2_, .int .i64 x3_, a4v.v] (rec_ x0_ x1_ x2_ x3_) slices_pdqsortCmpFunc_neigh_entry.out) (s1 : Int) (s2 : Int) (s4 : Bool) (s5 : Bool) (j11 : Int) (j14 : Int) :
    SJ slices_pdqsortCmpFunc_neigh_entry.cx [.code (c2 (c2 (c2 (c2 (c2 (c2 (c2 (c1 (c1 (c1 (c2 (c2 slices_pdqsortCmpFunc_neigh_entry.B)))))))))))), .inBlock 1, .inLoop (c1 (c1 (c2 (c2 slices_pdqsortCmpFunc_neigh_entry.B)))), .inBlock 0] [(0, Sl.v a0), (1, .int .i64 s1), (2, .int .i64 s2), (3, .int .i64 j11), (4, a4v.v), (10, .bool s4), (11, .bool s5), (12, .int .i64 (IntKind.wrap .i64 (s2 - s1))), (13, .int .i64 j14)] [] (slices_pdqsortCmpFunc_neigh_entry.K1 a0 a4 rec_ s1 s2 s4 s5 j11 j14) (slices_pdqsortCmpFunc_neigh_entry.F1 a0 a4v) := by
  unfold slices_pdqsortCmpFunc_neigh_entry.K1
  refine SJ.seq ?_
  refine SJ.seq ?_
  refine SJ.draw (id := 17) (kd := [0, 0, 0, 0, 0, 0, 0, 0, 1, 0, 0, 0, 1, 2, 0, 0, 0]) (bef := [0, 1, 3, 7, 7, 7, 39, 119, 247, 7, 7, 1543, 3591, 8191, 16383, 32767, 65535]) (ord := [0, 1, 2, 3, 4, 5, 6, 7, 8, 9, 10, 11, 12, 13, 14, 15, 16]) mixed ?_
  refine OJ.go 3 [(83, .bool (decide (s1 > 0))), (82, .bool (decide (s1 > 0))), (81, .int .i64 s1)] ?_
  refine OJ.join (b := decide (s1 > 0)) [3, 4, 5, 6, 7, 8, 9, 10, 11, 12, 13, 14, 15, 16] [] [0, 1, 2, 3, 4, 10, 11, 12, 13, 97] (fun y25 => [(0, Sl.v a0), (1, .int .i64 s1), (2, .int .i64 s2), (3, .int .i64 j11), (4, a4v.v), (10, .bool s4), (11, .bool s5), (12, .int .i64 (IntKind.wrap .i64 (s2 - s1))), (13, .int .i64 j14), (97, .bool y25)]) [] [8, 12] (t := 83) decide_eq_true_iff (fun hp_ => ?_) (fun hp_ => ?_) (fun _ _ _ _ _ _ h_ => h_) (fun y25 => ?_)
  · refine OJ.go 4 [(87, .int .i64 (IntKind.wrap .i64 (s1 - 1))), (86, .int .i64 s1), (85, Sl.v a0), (84, a4v.v)] ?_
    refine OJ.idxS (d := 88) (T := 108) (y := .tmp 85) (j := .tmp 87) (E := 100) (cap := a0.cap) (k := .i64) (fun p20 => ?_)
    refine OJ.ld (d := 89) (y := .tmp 88) (pend2 := fun x21 => [⟨8, 100, p20, cP.val x21⟩]) Ty100 (fun _ => rfl) (fun x21 => ?_)
    refine OJ.go 2 [(91, .int .i64 j14), (90, Sl.v a0)] ?_
    refine OJ.idxS (d := 92) (T := 108) (y := .tmp 90) (j := .tmp 91) (E := 100) (cap := a0.cap) (k := .i64) (fun p22 => ?_)
    refine OJ.ld (d := 93) (y := .tmp 92) (pend2 := fun x23 => [⟨12, 100, p22, cP.val x23⟩, ⟨8, 100, p20, cP.val x21⟩]) Ty100 (fun _ => rfl) (fun x23 => ?_)
    refine OJ.callV1 (d := 94) (ats := #[100, 100]) (args := [.tmp 89, .tmp 93]) (fo := .tmp 84) (vals := [.pointer x21, .pointer x23]) (owed := []) (h_a4 x21 x23) (fun r24 => ?_)
    refine OW.nil ?_
    refine OJ.go 3 [(97, .bool (!(decide (r24 < 0)))), (96, .bool (!(decide (r24 < 0)))), (95, .bool (decide (r24 < 0)))] ?_
    exact OJ.nil ⟨(Cov.mem (Cov.drop (List.mem_of_getElem? (i := 1) rfl) (Cov.drop (List.mem_of_getElem? (i := 0) rfl) Cov.nil))), rfl, _, rfl, by kernel_rfl⟩
  · refine OJ.go 14 [(97, .bool false), (96, undef), (95, undef), (94, undef), (93, undef), (92, undef), (91, undef), (90, undef), (89, undef), (88, undef), (87, undef), (86, undef), (85, undef), (84, undef)] ?_
    exact OJ.nil ⟨(Cov.mem Cov.nil), rfl, _, rfl, by kernel_rfl⟩
  · refine OJ.nil ?_
    refine SJ.cond (t := (.tmp 97)) (b := y25) Iff.rfl (fun hc34 => ?_) (fun hc34 => ?_)
    · refine SJ.sr 7 ?_
      refine OJ.go 5 [(102, a4v.v), (101, .int .i64 j14), (100, .int .i64 s2), (99, .int .i64 s1), (98, Sl.v a0)] ?_
      refine OJ.call (d := 103) (g := 84) (ats := #[108, 3, 3, 3, 124]) (args := [.tmp 98, .tmp 99, .tmp 100, .tmp 101, .tmp 102]) (owed := []) F84 (slices_partitionEqualCmpFunc_neigh_entry_ok a0 s1 s2 j14 a4v a4 h_a4) (fun r27 => ?_)
      refine OW.nil ?_
      refine OJ.go 1 [(15, .int .i64 r27)] ?_
      refine OJ.nil ?_
      refine SJ.sr 2 ?_
      refine OJ.go 2 [(1, .int .i64 r27), (104, .int .i64 r27)] ?_
      refine OJ.nil ?_
      refine SJ.exit (id := 1) (by rfl) ?_
      exact SJ.at_ [0, 1, 2, 3, 4, 10, 11] rfl
    · refine SJ.skip ?_
      refine SJ.sr 11 ?_
      refine OJ.go 5 [(110, a4v.v), (109, .int .i64 j14), (108, .int .i64 s2), (107, .int .i64 s1), (106, Sl.v a0)] ?_
      refine OJ.call (d := 111) (g := 85) (ats := #[108, 3, 3, 3, 124]) (args := [.tmp 106, .tmp 107, .tmp 108, .tmp 109, .tmp 110]) (owed := []) F85 (slices_partitionCmpFunc_neigh_entry_ok a0 s1 s2 j14 a4v a4 h_a4) (fun r28 => ?_)
      refine OW.nil ?_
      refine OJ.go 5 [(17, .bool r28.2), (16, .int .i64 r28.1), (113, .bool r28.2), (112, .int .i64 r28.1), (105, .tuple #[.int .i64 r28.1, .bool r28.2])] ?_
      refine OJ.nil ?_
      refine SJ.sr 2 ?_
      refine OJ.go 2 [(11, .bool r28.2), (114, .bool r28.2)] ?_
      refine OJ.nil ?_
      refine SJ.sr 8 ?_
      refine OJ.go 8 [(19, .int .i64 (IntKind.wrap .i64 (s2 - r28.1))), (18, .int .i64 (IntKind.wrap .i64 (r28.1 - s1))), (120, .int .i64 (IntKind.wrap .i64 (s2 - r28.1))), (119, .int .i64 r28.1), (118, .int .i64 s2), (117, .int .i64 (IntKind.wrap .i64 (r28.1 - s1))), (116, .int .i64 s1), (115, .int .i64 r28.1)] ?_
      refine OJ.nil ?_
      refine SJ.sr 3 ?_
      refine OJ.go 3 [(20, .int .i64 (IntKind.wrap .i64 (Int.tdiv (IntKind.wrap .i64 (s2 - s1)) 8))), (122, .int .i64 (IntKind.wrap .i64 (Int.tdiv (IntKind.wrap .i64 (s2 - s1)) 8))), (121, .int .i64 (IntKind.wrap .i64 (s2 - s1)))] ?_
      refine OJ.nil ?_
      refine SJ.sr 3 ?_
      refine OJ.go 3 [(125, .bool (decide ((IntKind.wrap .i64 (r28.1 - s1)) < (IntKind.wrap .i64 (s2 - r28.1))))), (124, .int .i64 (IntKind.wrap .i64 (s2 - r28.1))), (123, .int .i64 (IntKind.wrap .i64 (r28.1 - s1)))] ?_
      refine OJ.nil ?_
      refine SJ.cond (t := (.tmp 125)) (b := decide ((IntKind.wrap .i64 (r28.1 - s1)) < (IntKind.wrap .i64 (s2 - r28.1)))) decide_eq_true_iff (fun hc33 => ?_) (fun hc33 => ?_)
      · refine SJ.sr 4 ?_
        refine OJ.go 4 [(10, .bool (decide ((IntKind.wrap .i64 (r28.1 - s1)) ≥ (IntKind.wrap .i64 (Int.tdiv (IntKind.wrap .i64 (s2 - s1)) 8))))), (128, .bool (decide ((IntKind.wrap .i64 (r28.1 - s1)) ≥ (IntKind.wrap .i64 (Int.tdiv (IntKind.wrap .i64 (s2 - s1)) 8))))), (127, .int .i64 (IntKind.wrap .i64 (Int.tdiv (IntKind.wrap .i64 (s2 - s1)) 8))), (126, .int .i64 (IntKind.wrap .i64 (r28.1 - s1)))] ?_
        refine OJ.nil ?_
        refine SJ.sr 6 ?_
        refine OJ.go 5 [(133, a4v.v), (132, .int .i64 j11), (131, .int .i64 r28.1), (130, .int .i64 s1), (129, Sl.v a0)] ?_
        refine OJ.call (d := 134) (g := 69) (ats := #[108, 3, 3, 3, 124]) (args := [.tmp 129, .tmp 130, .tmp 131, .tmp 132, .tmp 133]) (owed := []) F69 (h_rec_ a0 s1 r28.1 j11) (fun r31 => ?_)
        refine OW.nil ?_
        refine OJ.nil ?_
        refine SJ.rg 3 ?_
        refine OJ.go 3 [(1, .int .i64 (IntKind.wrap .i64 (r28.1 + 1))), (136, .int .i64 (IntKind.wrap .i64 (r28.1 + 1))), (135, .int .i64 r28.1)] ?_
        refine OJ.nil ?_
        refine SJ.inBlock ?_
        exact SJ.at_ [0, 1, 2, 3, 4, 10, 11] rfl
      · refine SJ.sr 4 ?_
        refine OJ.go 4 [(10, .bool (decide ((IntKind.wrap .i64 (s2 - r28.1)) ≥ (IntKind.wrap .i64 (Int.tdiv (IntKind.wrap .i64 (s2 - s1)) 8))))), (139, .bool (decide ((IntKind.wrap .i64 (s2 - r28.1)) ≥ (IntKind.wrap .i64 (Int.tdiv (IntKind.wrap .i64 (s2 - s1)) 8))))), (138, .int .i64 (IntKind.wrap .i64 (Int.tdiv (IntKind.wrap .i64 (s2 - s1)) 8))), (137, .int .i64 (IntKind.wrap .i64 (s2 - r28.1)))] ?_
        refine OJ.nil ?_
        refine SJ.sr 7 ?_
        refine OJ.go 6 [(145, a4v.v), (144, .int .i64 j11), (143, .int .i64 s2), (142, .int .i64 (IntKind.wrap .i64 (r28.1 + 1))), (141, .int .i64 r28.1), (140, Sl.v a0)] ?_
        refine OJ.call (d := 146) (g := 69) (ats := #[108, 3, 3, 3, 124]) (args := [.tmp 140, .tmp 142, .tmp 143, .tmp 144, .tmp 145]) (owed := []) F69 (h_rec_ a0 (IntKind.wrap .i64 (r28.1 + 1)) s2 j11) (fun r32 => ?_)
        refine OW.nil ?_
        refine OJ.nil ?_
        refine SJ.rg 2 ?_
        refine OJ.go 2 [(2, .int .i64 r28.1), (147, .int .i64 r28.1)] ?_
        refine OJ.nil ?_
        refine SJ.inBlock ?_
        exact SJ.at_ [0, 1, 2, 3, 4, 10, 11] rfl
noncomputable def slices_pdqsortCmpFunc_neigh_entry.K2 (a0 : Sl) (a4 : (Option Addr) → (Option Addr) → M Int) (rec_ : Sl → Int → Int → Int → M Unit) (s1 : Int) (s2 : Int) (s4 : Bool) (s5 : Bool) (j11 : Int) (j14 : Int) (j15 : Int) : M (LS (Int × Int × Int × Bool × Bool) Unit) :=
  (if s4 = true then
      pure s5
    else
      pure false) >>= fun y16 =>
  (if y16 = true then
      pure (j15 == 1)
    else
      pure false) >>= fun y17 =>
  if y17 = true then
    slices_partialInsertionSortCmpFunc_neigh_entry a0 s1 s2 a4 >>= fun r35 =>
    if r35 = true then
      pure (LS.done ())
    else
      slices_pdqsortCmpFunc_neigh_entry.K1 a0 a4 rec_ s1 s2 s4 s5 j11 j14
  else
    slices_pdqsortCmpFunc_neigh_entry.K1 a0 a4 rec_ s1 s2 s4 s5 j11 j14
theorem slices_pdqsortCmpFunc_neigh_entry.K2_ok (a0 : Sl) (a4v : Any) (a4 : (Option Addr) → (Option Addr) → M Int) (h_a4 : ∀ (x0_ : (Option Addr)), ∀ (x1_ : (Option Addr)), RefV Try.prog a4v.v [.pointer x0_, .pointer x1_] (a4 x0_ x1_) (fun r_ : Int => .int .i64 r_)) (rec_ : Sl → Int → Int → Int → M Unit) (h_rec_ : ∀ (x0_ : Sl) (x1_ : Int) (x2_ : Int) (x3_ : Int), Ref Try.prog 69 [Sl.v x0_, .int .i64 x1_, .int .i64 x2_, .int .i64 x3_, a4v.v] (rec_ x0_ x1_ x2_ x3_) slices_pdqsortCmpFunc_neigh_entry.out) (s1 : Int) (s2 : Int) (s4 : Bool) (s5 : Bool) (j11 : Int) (j14 : Int) (j15 : Int) :
    SJ slices_pdqsortCmpFunc_neigh_entry.cx [.code (c2 (c2 (c2 (c2 (c2 (c2 (c1 (c1 (c1 (c2 (c2 slices_pdqsortCmpFunc_neigh_entry.B))))))))))), .inBlock 1, .inLoop (c1 (c1 (c2 (c2 slices_pdqsortCmpFunc_neigh_entry.B)))), .inBlock 0] [(0, Sl.v a0), (1, .int .i64 s1), (2, .int .i64 s2), (3, .int .i64 j11), (4, a4v.v), (10, .bool s4), (11, .bool s5), (12, .int .i64 (IntKind.wrap .i64 (s2 - s1))), (13, .int .i64 j14), (14, .int .i64 j15)] [] (slices_pdqsortCmpFunc_neigh_entry.K2 a0 a4 rec_ s1 s2 s4 s5 j11 j14 j15) (slices_pdqsortCmpFunc_neigh_entry.F1 a0 a4v) := by
  unfold slices_pdqsortCmpFunc_neigh_entry.K2
  refine SJ.seq ?_
  refine SJ.sr 8 ?_
  refine OJ.go 2 [(69, .bool s4), (68, .bool s4)] ?_
  refine OJ.join (b := s4) [2, 3] [4, 5, 6, 7] [0, 1, 2, 3, 4, 10, 11, 12, 13, 14, 71] (fun y16 => [(0, Sl.v a0), (1, .int .i64 s1), (2, .int .i64 s2), (3, .int .i64 j11), (4, a4v.v), (10, .bool s4), (11, .bool s5), (12, .int .i64 (IntKind.wrap .i64 (s2 - s1))), (13, .int .i64 j14), (14, .int .i64 j15), (71, .bool y16)]) [] [] (t := 69) Iff.rfl (fun hp_ => ?_) (fun hp_ => ?_) (fun _ _ _ _ _ _ h_ => h_) (fun y16 => ?_)
  · refine OJ.go 2 [(71, .bool s5), (70, .bool s5)] ?_
    exact OJ.nil ⟨(Cov.mem Cov.nil), rfl, _, rfl, by kernel_rfl⟩
  · refine OJ.go 2 [(71, .bool false), (70, undef)] ?_
    exact OJ.nil ⟨(Cov.mem Cov.nil), rfl, _, rfl, by kernel_rfl⟩
  · refine OJ.go 1 [(72, .bool y16)] ?_
    refine OJ.join (b := y16) [5, 6, 7] [] [0, 1, 2, 3, 4, 10, 11, 12, 13, 75] (fun y17 => [(0, Sl.v a0), (1, .int .i64 s1), (2, .int .i64 s2), (3, .int .i64 j11), (4, a4v.v), (10, .bool s4), (11, .bool s5), (12, .int .i64 (IntKind.wrap .i64 (s2 - s1))), (13, .int .i64 j14), (75, .bool y17)]) [] [] (t := 72) Iff.rfl (fun hp_ => ?_) (fun hp_ => ?_) (fun _ _ _ _ _ _ h_ => h_) (fun y17 => ?_)
    · refine OJ.go 3 [(75, .bool (j15 == 1)), (74, .bool (j15 == 1)), (73, .int .i64 j15)] ?_
      exact OJ.nil ⟨(Cov.mem Cov.nil), rfl, _, rfl, by kernel_rfl⟩
    · refine OJ.go 3 [(75, .bool false), (74, undef), (73, undef)] ?_
      exact OJ.nil ⟨(Cov.mem Cov.nil), rfl, _, rfl, by kernel_rfl⟩
    · refine OJ.nil ?_
      refine SJ.cond (t := (.tmp 75)) (b := y17) Iff.rfl (fun hc37 => ?_) (fun hc37 => ?_)
      · refine SJ.sr 5 ?_
        refine OJ.go 4 [(79, a4v.v), (78, .int .i64 s2), (77, .int .i64 s1), (76, Sl.v a0)] ?_
        refine OJ.call (d := 80) (g := 83) (ats := #[108, 3, 3, 124]) (args := [.tmp 76, .tmp 77, .tmp 78, .tmp 79]) (owed := []) F83 (slices_partialInsertionSortCmpFunc_neigh_entry_ok a0 s1 s2 a4v a4 h_a4) (fun r35 => ?_)
        refine OW.nil ?_
        refine OJ.nil ?_
        refine SJ.cond (t := (.tmp 80)) (b := r35) Iff.rfl (fun hc36 => ?_) (fun hc36 => ?_)
        · exact SJ.ret rfl (Res.run (ys := []) .nil rfl)
        · refine SJ.skip ?_
          refine SJ.less [0, 1, 2, 3, 4, 10, 11, 12, 13] (m' := [(0, Sl.v a0), (1, .int .i64 s1), (2, .int .i64 s2), (3, .int .i64 j11), (4, a4v.v), (10, .bool s4), (11, .bool s5), (12, .int .i64 (IntKind.wrap .i64 (s2 - s1))), (13, .int .i64 j14)]) ?_
          exact slices_pdqsortCmpFunc_neigh_entry.K1_ok a0 a4v a4 h_a4 rec_ h_rec_ s1 s2 s4 s5 j11 j14
      · refine SJ.skip ?_
        refine SJ.less [0, 1, 2, 3, 4, 10, 11, 12, 13] (m' := [(0, Sl.v a0), (1, .int .i64 s1), (2, .int .i64 s2), (3, .int .i64 j11), (4, a4v.v), (10, .bool s4), (11, .bool s5), (12, .int .i64 (IntKind.wrap .i64 (s2 - s1))), (13, .int .i64 j14)]) ?_
        exact slices_pdqsortCmpFunc_neigh_entry.K1_ok a0 a4v a4 h_a4 rec_ h_rec_ s1 s2 s4 s5 j11 j14
noncomputable def slices_pdqsortCmpFunc_neigh_entry.K3 (a0 : Sl) (a4 : (Option Addr) → (Option Addr) → M Int) (rec_ : Sl → Int → Int → Int → M Unit) (s1 : Int) (s2 : Int) (s4 : Bool) (s5 : Bool) (j11 : Int) : M (LS (Int × Int × Int × Bool × Bool) Unit) :=
  slices_choosePivotCmpFunc_neigh_entry a0 s1 s2 a4 >>= fun r12 =>
  if r12.2 = 2 then
    slices_reverseRangeCmpFunc_neigh_entry a0 s1 s2 a4 >>= fun r38 =>
    slices_pdqsortCmpFunc_neigh_entry.K2 a0 a4 rec_ s1 s2 s4 s5 j11 (IntKind.wrap .i64 ((IntKind.wrap .i64 (s2 - 1)) - (IntKind.wrap .i64 (r12.1 - s1)))) 1
  else
    slices_pdqsortCmpFunc_neigh_entry.K2 a0 a4 rec_ s1 s2 s4 s5 j11 r12.1 r12.2
theorem slices_pdqsortCmpFunc_neigh_entry.K3_ok (a0 : Sl) (a4v : Any) (a4 : (Option Addr) → (Option Addr) → M Int) (h_a4 : ∀ (x0_ : (Option Addr)), ∀ (x1_ : (Option Addr)), RefV Try.prog a4v.v [.pointer x0_, .pointer x1_] (a4 x0_ x1_) (fun r_ : Int => .int .i64 r_)) (rec_ : Sl → Int → Int → Int → M Unit) (h_rec_ : ∀ (x0_ : Sl) (x1_ : Int) (x2_ : Int) (x3_ : Int), Ref Try.prog 69 [Sl.v x0_, .int .i64 x1_, .int .i64 x2_, .int .i64 x3_, a4v.v] (rec_ x0_ x1_ x2_ x3_) slices_pdqsortCmpFunc_neigh_entry.out) (s1 : Int) (s2 : Int) (s4 : Bool) (s5 : Bool) (j11 : Int) :
    SJ slices_pdqsortCmpFunc_neigh_entry.cx [.code (c2 (c2 (c2 (c2 (c1 (c1 (c1 (c2 (c2 slices_pdqsortCmpFunc_neigh_entry.B))))))))), .inBlock 1, .inLoop (c1 (c1 (c2 (c2 slices_pdqsortCmpFunc_neigh_entry.B)))), .inBlock 0] [(0, Sl.v a0), (1, .int .i64 s1), (2, .int .i64 s2), (3, .int .i64 j11), (4, a4v.v), (10, .bool s4), (11, .bool s5), (12, .int .i64 (IntKind.wrap .i64 (s2 - s1)))] [] (slices_pdqsortCmpFunc_neigh_entry.K3 a0 a4 rec_ s1 s2 s4 s5 j11) (slices_pdqsortCmpFunc_neigh_entry.F1 a0 a4v) := by
  unfold slices_pdqsortCmpFunc_neigh_entry.K3
  refine SJ.sr 10 ?_
  refine OJ.go 4 [(51, a4v.v), (50, .int .i64 s2), (49, .int .i64 s1), (48, Sl.v a0)] ?_
  refine OJ.call (d := 52) (g := 81) (ats := #[108, 3, 3, 124]) (args := [.tmp 48, .tmp 49, .tmp 50, .tmp 51]) (owed := []) F81 (slices_choosePivotCmpFunc_neigh_entry_ok a0 s1 s2 a4v a4 h_a4) (fun r12 => ?_)
  refine OW.nil ?_
  refine OJ.go 5 [(14, .int .i64 r12.2), (13, .int .i64 r12.1), (54, .int .i64 r12.2), (53, .int .i64 r12.1), (47, .tuple #[.int .i64 r12.1, .int .i64 r12.2])] ?_
  refine OJ.nil ?_
  refine SJ.seq ?_
  refine SJ.sr 2 ?_
  refine OJ.go 2 [(56, .bool (r12.2 == 2)), (55, .int .i64 r12.2)] ?_
  refine OJ.nil ?_
  refine SJ.cond (t := (.tmp 56)) (b := (r12.2 == 2)) beq_iff_eq (fun hc39 => ?_) (fun hc39 => ?_)
  · refine SJ.sr 5 ?_
    refine OJ.go 4 [(60, a4v.v), (59, .int .i64 s2), (58, .int .i64 s1), (57, Sl.v a0)] ?_
    refine OJ.call (d := 61) (g := 82) (ats := #[108, 3, 3, 124]) (args := [.tmp 57, .tmp 58, .tmp 59, .tmp 60]) (owed := []) F82 (slices_reverseRangeCmpFunc_neigh_entry_ok a0 s1 s2 a4v a4 h_a4) (fun r38 => ?_)
    refine OW.nil ?_
    refine OJ.nil ?_
    refine SJ.sr 7 ?_
    refine OJ.go 7 [(13, .int .i64 (IntKind.wrap .i64 ((IntKind.wrap .i64 (s2 - 1)) - (IntKind.wrap .i64 (r12.1 - s1))))), (67, .int .i64 (IntKind.wrap .i64 ((IntKind.wrap .i64 (s2 - 1)) - (IntKind.wrap .i64 (r12.1 - s1))))), (66, .int .i64 (IntKind.wrap .i64 (r12.1 - s1))), (65, .int .i64 s1), (64, .int .i64 r12.1), (63, .int .i64 (IntKind.wrap .i64 (s2 - 1))), (62, .int .i64 s2)] ?_
    refine OJ.nil ?_
    refine SJ.rg 1 ?_
    refine OJ.go 1 [(14, .int .i64 1)] ?_
    refine OJ.nil ?_
    refine SJ.less [0, 1, 2, 3, 4, 10, 11, 12, 13, 14] (m' := [(0, Sl.v a0), (1, .int .i64 s1), (2, .int .i64 s2), (3, .int .i64 j11), (4, a4v.v), (10, .bool s4), (11, .bool s5), (12, .int .i64 (IntKind.wrap .i64 (s2 - s1))), (13, .int .i64 (IntKind.wrap .i64 ((IntKind.wrap .i64 (s2 - 1)) - (IntKind.wrap .i64 (r12.1 - s1))))), (14, .int .i64 1)]) ?_
    exact slices_pdqsortCmpFunc_neigh_entry.K2_ok a0 a4v a4 h_a4 rec_ h_rec_ s1 s2 s4 s5 j11 (IntKind.wrap .i64 ((IntKind.wrap .i64 (s2 - 1)) - (IntKind.wrap .i64 (r12.1 - s1)))) 1
  · refine SJ.skip ?_
    refine SJ.less [0, 1, 2, 3, 4, 10, 11, 12, 13, 14] (m' := [(0, Sl.v a0), (1, .int .i64 s1), (2, .int .i64 s2), (3, .int .i64 j11), (4, a4v.v), (10, .bool s4), (11, .bool s5), (12, .int .i64 (IntKind.wrap .i64 (s2 - s1))), (13, .int .i64 r12.1), (14, .int .i64 r12.2)]) ?_
    exact slices_pdqsortCmpFunc_neigh_entry.K2_ok a0 a4v a4 h_a4 rec_ h_rec_ s1 s2 s4 s5 j11 r12.1 r12.2
noncomputable def slices_pdqsortCmpFunc_neigh_entry.L1 (a0 : Sl) (a4 : (Option Addr) → (Option Addr) → M Int) (rec_ : Sl → Int → Int → Int → M Unit) (s1 : Int) (s2 : Int) (s3 : Int) (s4 : Bool) (s5 : Bool) : M (LS (Int × Int × Int × Bool × Bool) Unit) :=
  if (IntKind.wrap .i64 (s2 - s1)) ≤ 12 then
    slices_insertionSortCmpFunc_neigh_entry a0 s1 s2 a4 >>= fun r7 =>
    pure (LS.done ())
  else
    if s3 = 0 then
      slices_heapSortCmpFunc_neigh_entry a0 s1 s2 a4 >>= fun r9 =>
      pure (LS.done ())
    else
      if ¬ (s4 = true) then
        slices_breakPatternsCmpFunc_neigh_entry a0 s1 s2 a4 >>= fun r40 =>
        slices_pdqsortCmpFunc_neigh_entry.K3 a0 a4 rec_ s1 s2 s4 s5 (IntKind.wrap .i64 (s3 - 1))
      else
        slices_pdqsortCmpFunc_neigh_entry.K3 a0 a4 rec_ s1 s2 s4 s5 s3
theorem slices_pdqsortCmpFunc_neigh_entry.L1_ok (a0 : Sl) (a4v : Any) (a4 : (Option Addr) → (Option Addr) → M Int) (h_a4 : ∀ (x0_ : (Option Addr)), ∀ (x1_ : (Option Addr)), RefV Try.prog a4v.v [.pointer x0_, .pointer x1_] (a4 x0_ x1_) (fun r_ : Int => .int .i64 r_)) (rec_ : Sl → Int → Int → Int → M Unit) (h_rec_ : ∀ (x0_ : Sl) (x1_ : Int) (x2_ : Int) (x3_ : Int), Ref Try.prog 69 [Sl.v x0_, .int .i64 x1_, .int .i64 x2_, .int .i64 x3_, a4v.v] (rec_ x0_ x1_ x2_ x3_) slices_pdqsortCmpFunc_neigh_entry.out) (s1 : Int) (s2 : Int) (s3 : Int) (s4 : Bool) (s5 : Bool) :
    SJ slices_pdqsortCmpFunc_neigh_entry.cx [.code (c1 (c1 (c2 (c2 slices_pdqsortCmpFunc_neigh_entry.B)))), .inLoop (c1 (c1 (c2 (c2 slices_pdqsortCmpFunc_neigh_entry.B)))), .inBlock 0] [(0, Sl.v a0), (1, .int .i64 s1), (2, .int .i64 s2), (3, .int .i64 s3), (4, a4v.v), (10, .bool s4), (11, .bool s5)] [] (slices_pdqsortCmpFunc_neigh_entry.L1 a0 a4 rec_ s1 s2 s3 s4 s5) (slices_pdqsortCmpFunc_neigh_entry.F1 a0 a4v) := by
  unfold slices_pdqsortCmpFunc_neigh_entry.L1
  refine SJ.block (id := 1) ?_
  refine SJ.sr 4 ?_
  refine OJ.go 4 [(12, .int .i64 (IntKind.wrap .i64 (s2 - s1))), (23, .int .i64 (IntKind.wrap .i64 (s2 - s1))), (22, .int .i64 s1), (21, .int .i64 s2)] ?_
  refine OJ.nil ?_
  refine SJ.seq ?_
  refine SJ.sr 2 ?_
  refine OJ.go 2 [(25, .bool (decide ((IntKind.wrap .i64 (s2 - s1)) ≤ 12))), (24, .int .i64 (IntKind.wrap .i64 (s2 - s1)))] ?_
  refine OJ.nil ?_
  refine SJ.cond (t := (.tmp 25)) (b := decide ((IntKind.wrap .i64 (s2 - s1)) ≤ 12)) decide_eq_true_iff (fun hc43 => ?_) (fun hc43 => ?_)
  · refine SJ.sr 5 ?_
    refine OJ.go 4 [(29, a4v.v), (28, .int .i64 s2), (27, .int .i64 s1), (26, Sl.v a0)] ?_
    refine OJ.call (d := 30) (g := 78) (ats := #[108, 3, 3, 124]) (args := [.tmp 26, .tmp 27, .tmp 28, .tmp 29]) (owed := []) F78 (slices_insertionSortCmpFunc_neigh_entry_ok a0 s1 s2 a4v a4 h_a4) (fun r7 => ?_)
    refine OW.nil ?_
    refine OJ.nil ?_
    exact SJ.ret rfl (Res.run (ys := []) .nil rfl)
  · refine SJ.skip ?_
    refine SJ.seq ?_
    refine SJ.sr 2 ?_
    refine OJ.go 2 [(32, .bool (s3 == 0)), (31, .int .i64 s3)] ?_
    refine OJ.nil ?_
    refine SJ.cond (t := (.tmp 32)) (b := (s3 == 0)) beq_iff_eq (fun hc42 => ?_) (fun hc42 => ?_)
    · refine SJ.sr 5 ?_
      refine OJ.go 4 [(36, a4v.v), (35, .int .i64 s2), (34, .int .i64 s1), (33, Sl.v a0)] ?_
      refine OJ.call (d := 37) (g := 79) (ats := #[108, 3, 3, 124]) (args := [.tmp 33, .tmp 34, .tmp 35, .tmp 36]) (owed := []) F79 (slices_heapSortCmpFunc_neigh_entry_ok a0 s1 s2 a4v a4 h_a4) (fun r9 => ?_)
      refine OW.nil ?_
      refine OJ.nil ?_
      exact SJ.ret rfl (Res.run (ys := []) .nil rfl)
    · refine SJ.skip ?_
      refine SJ.seq ?_
      refine SJ.sr 2 ?_
      refine OJ.go 2 [(39, .bool (!s4)), (38, .bool s4)] ?_
      refine OJ.nil ?_
      refine SJ.cond (t := (.tmp 39)) (b := (!s4)) (bnot_iff Iff.rfl) (fun hc41 => ?_) (fun hc41 => ?_)
      · refine SJ.sr 5 ?_
        refine OJ.go 4 [(43, a4v.v), (42, .int .i64 s2), (41, .int .i64 s1), (40, Sl.v a0)] ?_
        refine OJ.call (d := 44) (g := 80) (ats := #[108, 3, 3, 124]) (args := [.tmp 40, .tmp 41, .tmp 42, .tmp 43]) (owed := []) F80 (slices_breakPatternsCmpFunc_neigh_entry_ok a0 s1 s2 a4v a4 h_a4) (fun r40 => ?_)
        refine OW.nil ?_
        refine OJ.nil ?_
        refine SJ.rg 3 ?_
        refine OJ.go 3 [(3, .int .i64 (IntKind.wrap .i64 (s3 - 1))), (46, .int .i64 (IntKind.wrap .i64 (s3 - 1))), (45, .int .i64 s3)] ?_
        refine OJ.nil ?_
        refine SJ.less [0, 1, 2, 3, 4, 10, 11, 12] (m' := [(0, Sl.v a0), (1, .int .i64 s1), (2, .int .i64 s2), (3, .int .i64 (IntKind.wrap .i64 (s3 - 1))), (4, a4v.v), (10, .bool s4), (11, .bool s5), (12, .int .i64 (IntKind.wrap .i64 (s2 - s1)))]) ?_
        exact slices_pdqsortCmpFunc_neigh_entry.K3_ok a0 a4v a4 h_a4 rec_ h_rec_ s1 s2 s4 s5 (IntKind.wrap .i64 (s3 - 1))
      · refine SJ.skip ?_
        refine SJ.less [0, 1, 2, 3, 4, 10, 11, 12] (m' := [(0, Sl.v a0), (1, .int .i64 s1), (2, .int .i64 s2), (3, .int .i64 s3), (4, a4v.v), (10, .bool s4), (11, .bool s5), (12, .int .i64 (IntKind.wrap .i64 (s2 - s1)))]) ?_
        exact slices_pdqsortCmpFunc_neigh_entry.K3_ok a0 a4v a4 h_a4 rec_ h_rec_ s1 s2 s4 s5 s3
noncomputable def slices_pdqsortCmpFunc_neigh_entry.body (rec_ : Sl → Int → Int → Int → M Unit) (a0 : Sl) (a1 : Int) (a2 : Int) (a3 : Int) (a4 : (Option Addr) → (Option Addr) → M Int) : M Unit :=
  loopM (fun s_ : (Int × Int × Int × Bool × Bool) => slices_pdqsortCmpFunc_neigh_entry.L1 a0 a4 rec_ s_.1 s_.2.1 s_.2.2.1 s_.2.2.2.1 s_.2.2.2.2) (a1, a2, a3, true, true)
theorem slices_pdqsortCmpFunc_neigh_entry.body_ok (a4v : Any) (a4 : (Option Addr) → (Option Addr) → M Int) (h_a4 : ∀ (x0_ : (Option Addr)), ∀ (x1_ : (Option Addr)), RefV Try.prog a4v.v [.pointer x0_, .pointer x1_] (a4 x0_ x1_) (fun r_ : Int => .int .i64 r_)) (rec_ : Sl → Int → Int → Int → M Unit) (h_rec_ : ∀ (x0_ : Sl) (x1_ : Int) (x2_ : Int) (x3_ : Int), Ref Try.prog 69 [Sl.v x0_, .int .i64 x1_, .int .i64 x2_, .int .i64 x3_, a4v.v] (rec_ x0_ x1_ x2_ x3_) slices_pdqsortCmpFunc_neigh_entry.out) (a0 : Sl) (a1 : Int) (a2 : Int) (a3 : Int) : Ref Try.prog 69 [Sl.v a0, .int .i64 a1, .int .i64 a2, .int .i64 a3, a4v.v] (slices_pdqsortCmpFunc_neigh_entry.body rec_ a0 a1 a2 a3 a4) slices_pdqsortCmpFunc_neigh_entry.out := by
  refine Ref.of (cd := slices_pdqsortCmpFunc_neigh_entry.B) Try.func69 ?_
  show SJ slices_pdqsortCmpFunc_neigh_entry.cx [.code slices_pdqsortCmpFunc_neigh_entry.B] [(0, Sl.v a0), (1, .int .i64 a1), (2, .int .i64 a2), (3, .int .i64 a3), (4, a4v.v)] [] (slices_pdqsortCmpFunc_neigh_entry.body rec_ a0 a1 a2 a3 a4) slices_pdqsortCmpFunc_neigh_entry.F0
  unfold slices_pdqsortCmpFunc_neigh_entry.body
  refine SJ.sr 1 ?_
  refine OJ.go 1 [(10, .bool true)] ?_
  refine OJ.nil ?_
  refine SJ.sr 1 ?_
  refine OJ.go 1 [(11, .bool true)] ?_
  refine OJ.nil ?_
  refine SJ.block (id := 0) ?_
  exact SJ.loop (fun s_ : (Int × Int × Int × Bool × Bool) => [(0, Sl.v a0), (1, .int .i64 s_.1), (2, .int .i64 s_.2.1), (3, .int .i64 s_.2.2.1), (4, a4v.v), (10, .bool s_.2.2.2.1), (11, .bool s_.2.2.2.2)]) (fun s_ : (Int × Int × Int × Bool × Bool) => []) [0, 1, 2, 3, 4, 10, 11] rfl (fun _ _ => rfl) (fun s_ => slices_pdqsortCmpFunc_neigh_entry.L1_ok a0 a4v a4 h_a4 rec_ h_rec_ s_.1 s_.2.1 s_.2.2.1 s_.2.2.2.1 s_.2.2.2.2)
noncomputable def slices_pdqsortCmpFunc_neigh_entry.go (a4 : (Option Addr) → (Option Addr) → M Int) : Nat → Sl → Int → Int → Int → M Unit
  | 0 => fun a0 a1 a2 a3 => fun _ => none
  | n + 1 => fun a0 a1 a2 a3 => slices_pdqsortCmpFunc_neigh_entry.body (slices_pdqsortCmpFunc_neigh_entry.go a4 n) a0 a1 a2 a3 a4
theorem slices_pdqsortCmpFunc_neigh_entry.go_ok (a4v : Any) (a4 : (Option Addr) → (Option Addr) → M Int) (h_a4 : ∀ (x0_ : (Option Addr)), ∀ (x1_ : (Option Addr)), RefV Try.prog a4v.v [.pointer x0_, .pointer x1_] (a4 x0_ x1_) (fun r_ : Int => .int .i64 r_)) : ∀ (n : Nat) (a0 : Sl) (a1 : Int) (a2 : Int) (a3 : Int), Ref Try.prog 69 [Sl.v a0, .int .i64 a1, .int .i64 a2, .int .i64 a3, a4v.v] (slices_pdqsortCmpFunc_neigh_entry.go a4 n a0 a1 a2 a3) slices_pdqsortCmpFunc_neigh_entry.out
  | 0, a0, a1, a2, a3 => fun v r v' e => by cases e
  | n + 1, a0, a1, a2, a3 => slices_pdqsortCmpFunc_neigh_entry.body_ok a4v a4 h_a4 (slices_pdqsortCmpFunc_neigh_entry.go a4 n) (slices_pdqsortCmpFunc_neigh_entry.go_ok a4v a4 h_a4 n) a0 a1 a2 a3
noncomputable def slices_pdqsortCmpFunc_neigh_entry (a0 : Sl) (a1 : Int) (a2 : Int) (a3 : Int) (a4 : (Option Addr) → (Option Addr) → M Int) : M Unit := slices_pdqsortCmpFunc_neigh_entry.go a4 1000000000000 a0 a1 a2 a3
theorem slices_pdqsortCmpFunc_neigh_entry_ok (a0 : Sl) (a1 : Int) (a2 : Int) (a3 : Int) (a4v : Any) (a4 : (Option Addr) → (Option Addr) → M Int) (h_a4 : ∀ (x0_ : (Option Addr)), ∀ (x1_ : (Option Addr)), RefV Try.prog a4v.v [.pointer x0_, .pointer x1_] (a4 x0_ x1_) (fun r_ : Int => .int .i64 r_)) : Ref Try.prog 69 [Sl.v a0, .int .i64 a1, .int .i64 a2, .int .i64 a3, a4v.v] (slices_pdqsortCmpFunc_neigh_entry a0 a1 a2 a3 a4) slices_pdqsortCmpFunc_neigh_entry.out := slices_pdqsortCmpFunc_neigh_entry.go_ok a4v a4 h_a4 1000000000000 a0 a1 a2 a3

/-! ### slices.SortFunc[[]*weir/neigh.entry,*weir/neigh.entry]: function 60 -/
noncomputable def slices_SortFunc_neigh_entry_neigh_entry.B : Code := (Try.f60.body).getD .skip
noncomputable def slices_SortFunc_neigh_entry_neigh_entry.cx : Fx := ⟨Try.prog, 60, Try.f60⟩
noncomputable def slices_SortFunc_neigh_entry_neigh_entry.out (r_ : Unit) : Value := .tuple #[]
noncomputable def slices_SortFunc_neigh_entry_neigh_entry.F0 (r_ : Unit) : Reach := .ret (slices_SortFunc_neigh_entry_neigh_entry.out r_)
noncomputable def slices_SortFunc_neigh_entry_neigh_entry (a0 : Sl) (a1 : (Option Addr) → (Option Addr) → M Int) : M Unit :=
  bits_Len (IntKind.wrap .u64 (a0.len : Int)) >>= fun r1 =>
  slices_pdqsortCmpFunc_neigh_entry a0 0 (a0.len : Int) r1 a1 >>= fun r2 =>
  pure ()
theorem slices_SortFunc_neigh_entry_neigh_entry_ok (a0 : Sl) (a1v : Any) (a1 : (Option Addr) → (Option Addr) → M Int) (h_a1 : ∀ (x0_ : (Option Addr)), ∀ (x1_ : (Option Addr)), RefV Try.prog a1v.v [.pointer x0_, .pointer x1_] (a1 x0_ x1_) (fun r_ : Int => .int .i64 r_)) : Ref Try.prog 60 [Sl.v a0, a1v.v] (slices_SortFunc_neigh_entry_neigh_entry a0 a1) slices_SortFunc_neigh_entry_neigh_entry.out := by
  refine Ref.of (cd := slices_SortFunc_neigh_entry_neigh_entry.B) Try.func60 ?_
  show SJ slices_SortFunc_neigh_entry_neigh_entry.cx [.code slices_SortFunc_neigh_entry_neigh_entry.B] [(0, Sl.v a0), (1, a1v.v)] [] (slices_SortFunc_neigh_entry_neigh_entry a0 a1) slices_SortFunc_neigh_entry_neigh_entry.F0
  unfold slices_SortFunc_neigh_entry_neigh_entry
  refine SJ.sr 3 ?_
  refine OJ.go 3 [(4, .int .i64 (a0.len : Int)), (6, .int .i64 (a0.len : Int)), (5, Sl.v a0)] ?_
  refine OJ.nil ?_
  refine SJ.rg 7 ?_
  refine OJ.go 4 [(10, .int .u64 (IntKind.wrap .u64 (a0.len : Int))), (9, .int .i64 (a0.len : Int)), (8, .int .i64 (a0.len : Int)), (7, Sl.v a0)] ?_
  refine OJ.call (d := 11) (g := 70) (ats := #[137]) (args := [.tmp 10]) (owed := []) F70 (bits_Len_ok (IntKind.wrap .u64 (a0.len : Int))) (fun r1 => ?_)
  refine OW.nil ?_
  refine OJ.go 1 [(12, a1v.v)] ?_
  refine OJ.call (d := 13) (g := 69) (ats := #[108, 3, 3, 3, 124]) (args := [.tmp 7, .const (.int .i64 0), .tmp 8, .tmp 11, .tmp 12]) (owed := []) F69 (slices_pdqsortCmpFunc_neigh_entry_ok a0 0 (a0.len : Int) r1 a1v a1 h_a1) (fun r2 => ?_)
  refine OW.nil ?_
  refine OJ.nil ?_
  exact SJ.end_ rfl (Res.run (ys := []) .nil rfl)

/-! ### bytes.Compare: function 71 -/
noncomputable def bytes_Compare.B : Code := (Try.f71.body).getD .skip
noncomputable def bytes_Compare.cx : Fx := ⟨Try.prog, 71, Try.f71⟩
noncomputable def bytes_Compare.out (r_ : Int) : Value := .int .i64 r_
noncomputable def bytes_Compare.F0 (r_ : Int) : Reach := .ret (bytes_Compare.out r_)
noncomputable def bytes_Compare (a0 : Sl) (a1 : Sl) : M Int :=
  bcmp a0 a1 >>= fun r1 =>
  pure r1
theorem bytes_Compare_ok (a0 : Sl) (a1 : Sl) : Ref Try.prog 71 [Sl.v a0, Sl.v a1] (bytes_Compare a0 a1) bytes_Compare.out := by
  refine Ref.of (cd := bytes_Compare.B) Try.func71 ?_
  show SJ bytes_Compare.cx [.code bytes_Compare.B] [(0, Sl.v a0), (1, Sl.v a1)] [] (bytes_Compare a0 a1) bytes_Compare.F0
  unfold bytes_Compare
  refine SJ.sr 1 ?_
  refine OJ.go 1 [(4, .int .i64 0)] ?_
  refine OJ.nil ?_
  refine SJ.sr 4 ?_
  refine OJ.go 2 [(6, Sl.v a1), (5, Sl.v a0)] ?_
  refine OJ.ext (d := 7) (g := 88) (ats := #[121, 121]) (args := [.tmp 5, .tmp 6]) (out := fun r => .int .i64 r) (owed := []) Try.func88 bcmp_run (fun r1 => ?_)
  refine OW.nil ?_
  refine OJ.go 1 [(4, .int .i64 r1)] ?_
  refine OJ.nil ?_
  exact SJ.ret rfl (Res.run (ys := [.int .i64 r1]) (.tmp (by kernel_rfl) .nil) rfl)

/-! ### weir/neigh.less: function 61 -/
noncomputable def neigh_less.B : Code := (Try.f61.body).getD .skip
noncomputable def neigh_less.cx : Fx := ⟨Try.prog, 61, Try.f61⟩
noncomputable def neigh_less.out (r_ : Int) : Value := .int .i64 r_
noncomputable def neigh_less.F0 (r_ : Int) : Reach := .ret (neigh_less.out r_)
noncomputable def neigh_less (a0 : (Option Addr)) (a1 : (Option Addr)) : M Int :=
  draw >>= fun _ =>
  nilck a0 >>= fun p1 =>
  ld (cI .i64) p1 >>= fun x2 =>
  nilck a1 >>= fun p3 =>
  ld (cI .i64) p3 >>= fun x4 =>
  if x2 ≠ x4 then
    draw >>= fun _ =>
    nilck a0 >>= fun p22 =>
    ld (cI .i64) p22 >>= fun x23 =>
    nilck a1 >>= fun p24 =>
    ld (cI .i64) p24 >>= fun x25 =>
    pure (IntKind.wrap .i64 (x23 - x25))
  else
    draw >>= fun _ =>
    nilck a0 >>= fun p26 =>
    ld (cI .i64) (Addr.add p26 1) >>= fun x27 =>
    nilck a1 >>= fun p28 =>
    ld (cI .i64) (Addr.add p28 1) >>= fun x29 =>
    if x27 ≠ x29 then
      draw >>= fun _ =>
      nilck a0 >>= fun p34 =>
      ld (cI .i64) (Addr.add p34 1) >>= fun x35 =>
      nilck a1 >>= fun p36 =>
      ld (cI .i64) (Addr.add p36 1) >>= fun x37 =>
      pure (IntKind.wrap .i64 (x35 - x37))
    else
      draw >>= fun _ =>
      nilck a0 >>= fun p38 =>
      cut 1 ⟨some (Addr.add (Addr.add p38 1) 1), 16, 16⟩ none none none >>= fun r39 =>
      nilck a1 >>= fun p40 =>
      cut 1 ⟨some (Addr.add (Addr.add p40 1) 1), 16, 16⟩ none none none >>= fun r41 =>
      bytes_Compare r39 r41 >>= fun r42 =>
      pure r42
theorem neigh_less_ok (a0 : (Option Addr)) (a1 : (Option Addr)) : Ref Try.prog 61 [.pointer a0, .pointer a1] (neigh_less a0 a1) neigh_less.out := by
  refine Ref.of (cd := neigh_less.B) Try.func61 ?_
  show SJ neigh_less.cx [.code neigh_less.B] [(0, .pointer a0), (1, .pointer a1)] [] (neigh_less a0 a1) neigh_less.F0
  unfold neigh_less
  refine SJ.sr 1 ?_
  refine OJ.go 1 [(4, .int .i64 0)] ?_
  refine OJ.nil ?_
  refine SJ.seq ?_
  refine SJ.block (id := 0) ?_
  refine SJ.seq ?_
  refine SJ.draw (id := 1) (kd := [0, 0, 0, 0, 1, 0, 0, 0, 0, 1, 0, 0]) (bef := [0, 1, 3, 7, 15, 0, 32, 96, 224, 480, 1023, 2047]) (ord := [0, 1, 2, 3, 4, 5, 6, 7, 8, 9, 10, 11]) mixed ?_
  refine OJ.go 1 [(6, .pointer a0)] ?_
  refine OJ.nilck (d := 7) (y := .tmp 6) (fun p1 => ?_)
  refine OJ.go 2 [(9, .pointer (some p1)), (8, .pointer (some p1))] ?_
  refine OJ.ld (d := 10) (y := .tmp 9) (pend2 := fun x2 => [⟨4, 3, p1, (cI .i64).val x2⟩]) Ty3 (fun _ => rfl) (fun x2 => ?_)
  refine OJ.go 1 [(11, .pointer a1)] ?_
  refine OJ.nilck (d := 12) (y := .tmp 11) (fun p3 => ?_)
  refine OJ.go 2 [(14, .pointer (some p3)), (13, .pointer (some p3))] ?_
  refine OJ.ld (d := 15) (y := .tmp 14) (pend2 := fun x4 => [⟨9, 3, p3, (cI .i64).val x4⟩, ⟨4, 3, p1, (cI .i64).val x2⟩]) Ty3 (fun _ => rfl) (fun x4 => ?_)
  refine OJ.go 2 [(5, .bool (x2 != x4)), (16, .bool (x2 != x4))] ?_
  refine OJ.nil ?_
  refine SJ.cond (t := (.tmp 5)) (b := (x2 != x4)) bne_iff_ne (fun hc44 => ?_) (fun hc44 => ?_)
  · refine SJ.seq ?_
    refine SJ.draw (id := 2) (kd := [0, 0, 0, 0, 1, 0, 0, 0, 0, 1, 0, 0]) (bef := [0, 1, 3, 7, 15, 0, 32, 96, 224, 480, 1023, 2047]) (ord := [0, 1, 2, 3, 4, 5, 6, 7, 8, 9, 10, 11]) mixed ?_
    refine OJ.go 1 [(17, .pointer a0)] ?_
    refine OJ.nilck (d := 18) (y := .tmp 17) (fun p22 => ?_)
    refine OJ.go 2 [(20, .pointer (some p22)), (19, .pointer (some p22))] ?_
    refine OJ.ld (d := 21) (y := .tmp 20) (pend2 := fun x23 => [⟨4, 3, p22, (cI .i64).val x23⟩]) Ty3 (fun _ => rfl) (fun x23 => ?_)
    refine OJ.go 1 [(22, .pointer a1)] ?_
    refine OJ.nilck (d := 23) (y := .tmp 22) (fun p24 => ?_)
    refine OJ.go 2 [(25, .pointer (some p24)), (24, .pointer (some p24))] ?_
    refine OJ.ld (d := 26) (y := .tmp 25) (pend2 := fun x25 => [⟨9, 3, p24, (cI .i64).val x25⟩, ⟨4, 3, p22, (cI .i64).val x23⟩]) Ty3 (fun _ => rfl) (fun x25 => ?_)
    refine OJ.go 2 [(4, .int .i64 (IntKind.wrap .i64 (x23 - x25))), (27, .int .i64 (IntKind.wrap .i64 (x23 - x25)))] ?_
    refine OJ.nil ?_
    exact SJ.ret rfl (Res.run (ys := [.int .i64 (IntKind.wrap .i64 (x23 - x25))]) (.tmp (by kernel_rfl) .nil) rfl)
  · refine SJ.seq ?_
    refine SJ.draw (id := 3) (kd := [0, 0, 0, 0, 0, 1, 0, 0, 0, 0, 0, 1, 0, 0]) (bef := [0, 1, 3, 7, 15, 31, 0, 64, 192, 448, 960, 1984, 4095, 8191]) (ord := [0, 1, 2, 3, 4, 5, 6, 7, 8, 9, 10, 11, 12, 13]) mixed ?_
    refine OJ.go 1 [(29, .pointer a0)] ?_
    refine OJ.nilck (d := 30) (y := .tmp 29) (fun p26 => ?_)
    refine OJ.go 3 [(33, .pointer (some (Addr.add p26 1))), (32, .pointer (some (Addr.add p26 1))), (31, .pointer (some p26))] ?_
    refine OJ.ld (d := 34) (y := .tmp 33) (pend2 := fun x27 => [⟨5, 3, (Addr.add p26 1), (cI .i64).val x27⟩]) Ty3 (fun _ => rfl) (fun x27 => ?_)
    refine OJ.go 1 [(35, .pointer a1)] ?_
    refine OJ.nilck (d := 36) (y := .tmp 35) (fun p28 => ?_)
    refine OJ.go 3 [(39, .pointer (some (Addr.add p28 1))), (38, .pointer (some (Addr.add p28 1))), (37, .pointer (some p28))] ?_
    refine OJ.ld (d := 40) (y := .tmp 39) (pend2 := fun x29 => [⟨11, 3, (Addr.add p28 1), (cI .i64).val x29⟩, ⟨5, 3, (Addr.add p26 1), (cI .i64).val x27⟩]) Ty3 (fun _ => rfl) (fun x29 => ?_)
    refine OJ.go 2 [(28, .bool (x27 != x29)), (41, .bool (x27 != x29))] ?_
    refine OJ.nil ?_
    refine SJ.cond (t := (.tmp 28)) (b := (x27 != x29)) bne_iff_ne (fun hc43 => ?_) (fun hc43 => ?_)
    · refine SJ.seq ?_
      refine SJ.draw (id := 4) (kd := [0, 0, 0, 0, 0, 1, 0, 0, 0, 0, 0, 1, 0, 0]) (bef := [0, 1, 3, 7, 15, 31, 0, 64, 192, 448, 960, 1984, 4095, 8191]) (ord := [0, 1, 2, 3, 4, 5, 6, 7, 8, 9, 10, 11, 12, 13]) mixed ?_
      refine OJ.go 1 [(42, .pointer a0)] ?_
      refine OJ.nilck (d := 43) (y := .tmp 42) (fun p34 => ?_)
      refine OJ.go 3 [(46, .pointer (some (Addr.add p34 1))), (45, .pointer (some (Addr.add p34 1))), (44, .pointer (some p34))] ?_
      refine OJ.ld (d := 47) (y := .tmp 46) (pend2 := fun x35 => [⟨5, 3, (Addr.add p34 1), (cI .i64).val x35⟩]) Ty3 (fun _ => rfl) (fun x35 => ?_)
      refine OJ.go 1 [(48, .pointer a1)] ?_
      refine OJ.nilck (d := 49) (y := .tmp 48) (fun p36 => ?_)
      refine OJ.go 3 [(52, .pointer (some (Addr.add p36 1))), (51, .pointer (some (Addr.add p36 1))), (50, .pointer (some p36))] ?_
      refine OJ.ld (d := 53) (y := .tmp 52) (pend2 := fun x37 => [⟨11, 3, (Addr.add p36 1), (cI .i64).val x37⟩, ⟨5, 3, (Addr.add p34 1), (cI .i64).val x35⟩]) Ty3 (fun _ => rfl) (fun x37 => ?_)
      refine OJ.go 2 [(4, .int .i64 (IntKind.wrap .i64 (x35 - x37))), (54, .int .i64 (IntKind.wrap .i64 (x35 - x37)))] ?_
      refine OJ.nil ?_
      exact SJ.ret rfl (Res.run (ys := [.int .i64 (IntKind.wrap .i64 (x35 - x37))]) (.tmp (by kernel_rfl) .nil) rfl)
    · refine SJ.skip ?_
      refine SJ.inBlock ?_
      refine SJ.seq ?_
      refine SJ.draw (id := 5) (kd := [0, 0, 0, 0, 0, 0, 0, 0, 0, 0, 0, 0, 2, 0]) (bef := [0, 1, 3, 7, 15, 31, 0, 64, 192, 448, 960, 1984, 4095, 8191]) (ord := [0, 1, 2, 3, 4, 5, 6, 7, 8, 9, 10, 11, 12, 13]) mixed ?_
      refine OJ.go 1 [(55, .pointer a0)] ?_
      refine OJ.nilck (d := 56) (y := .tmp 55) (fun p38 => ?_)
      refine OJ.go 3 [(59, .pointer (some (Addr.add (Addr.add p38 1) 1))), (58, .pointer (some (Addr.add p38 1))), (57, .pointer (some p38))] ?_
      refine OJ.cutA (d := 60) (t := 30) (E := 5) (y := .tmp 59) (lo := none) (hi := none) (mx := none) (lo' := none) (hi' := none) (mx' := none) (fun h => by cases h) (fun r39 => ?_)
      refine OJ.go 1 [(61, .pointer a1)] ?_
      refine OJ.nilck (d := 62) (y := .tmp 61) (fun p40 => ?_)
      refine OJ.go 3 [(65, .pointer (some (Addr.add (Addr.add p40 1) 1))), (64, .pointer (some (Addr.add p40 1))), (63, .pointer (some p40))] ?_
      refine OJ.cutA (d := 66) (t := 30) (E := 5) (y := .tmp 65) (lo := none) (hi := none) (mx := none) (lo' := none) (hi' := none) (mx' := none) (fun h => by cases h) (fun r41 => ?_)
      refine OJ.call (d := 67) (g := 71) (ats := #[121, 121]) (args := [.tmp 60, .tmp 66]) (owed := []) F71 (bytes_Compare_ok r39 r41) (fun r42 => ?_)
      refine OW.nil ?_
      refine OJ.go 1 [(4, .int .i64 r42)] ?_
      refine OJ.nil ?_
      exact SJ.ret rfl (Res.run (ys := [.int .i64 r42]) (.tmp (by kernel_rfl) .nil) rfl)

/-! ### (*weir/neigh.Cache).sorted: function 50 -/
noncomputable def neigh_Cache_sorted.B : Code := (Try.f50.body).getD .skip
noncomputable def neigh_Cache_sorted.cx : Fx := ⟨Try.prog, 50, Try.f50⟩
noncomputable def neigh_Cache_sorted.out (r_ : Sl) : Value := Sl.v r_
noncomputable def neigh_Cache_sorted.F0 (r_ : Sl) : Reach := .ret (neigh_Cache_sorted.out r_)
noncomputable def neigh_Cache_sorted.F1 (b3 : Nat) : (LS Sl Sl) → Reach := loopF [.inLoop (c1 (c1 (c2 (c1 (c2 (c2 neigh_Cache_sorted.B)))))), .inBlock 0, .code (c2 (c2 (c2 neigh_Cache_sorted.B)))] (fun s_ : Sl => [(3, Sl.v s_), (10, .pointer (some (pt b3 0)))]) (fun s_ : Sl => []) neigh_Cache_sorted.F0
noncomputable def neigh_Cache_sorted.L1 (b3 : Nat) (s4 : Sl) : M (LS Sl Sl) :=
  mnext b3 >>= fun r10 =>
  if r10.1 = true then
    mentry c_neigh_key cP b3 >>= fun r14 =>
    slot 100 >>= fun b15 =>
    appl cP 100 8 none s4 [r14.2] >>= fun r16 =>
    pure (LS.next r16)
  else
    slices_SortFunc_neigh_entry_neigh_entry s4 (fun (q17 : (Option Addr)) (q18 : (Option Addr)) => neigh_less q17 q18) >>= fun r19 =>
    pure (LS.done s4)
theorem neigh_Cache_sorted.L1_ok (b3 : Nat) (s4 : Sl) :
    SJ neigh_Cache_sorted.cx [.code (c1 (c1 (c2 (c1 (c2 (c2 neigh_Cache_sorted.B)))))), .inLoop (c1 (c1 (c2 (c1 (c2 (c2 neigh_Cache_sorted.B)))))), .inBlock 0, .code (c2 (c2 (c2 neigh_Cache_sorted.B)))] [(3, Sl.v s4), (10, .pointer (some (pt b3 0)))] [] (neigh_Cache_sorted.L1 b3 s4) (neigh_Cache_sorted.F1 b3) := by
  unfold neigh_Cache_sorted.L1
  refine SJ.sr 2 ?_
  refine OJ.mnext (d := 11) (x := .tmp 10) (owed := []) (fun r10 => ?_)
  refine OW.nil ?_
  refine OJ.go 1 [(12, .bool r10.1)] ?_
  refine OJ.nil ?_
  refine SJ.seq ?_
  refine SJ.cond (t := (.tmp 12)) (b := r10.1) Iff.rfl (fun hc20 => ?_) (fun hc20 => ?_)
  · refine SJ.skip ?_
    refine SJ.block (id := 1) ?_
    refine SJ.sr 3 ?_
    refine OJ.mentry (d := 13) (x := .tmp 10) (owed := []) (fun r14 => ?_)
    refine OW.nil ?_
    refine OJ.go 2 [(5, .pointer r14.2), (14, .pointer r14.2)] ?_
    refine OJ.nil ?_
    refine SJ.rg 5 ?_
    refine OJ.go 2 [(16, .pointer r14.2), (15, Sl.v s4)] ?_
    refine OJ.rowSlot (d := 17) (t := 108) (parts := [(0, .tmp 16)]) (ps := [(0, cP.val r14.2)]) (cd := cP) (⟨[r14.2], rfl⟩ : Vec (Option Addr) 1) (owed := []) Ty100 (Filled.cons (cd := cP) (q := r14.2) (o := 0) rfl (Upd.arr (i := 0) (by decide) (by decide)) Filled.nil) (fun b15 => ?_)
    refine OW.nil ?_
    refine OJ.appl (d := 18) (t := 108) (u := 108) (so := .tmp 15) (xo := .tmp 17) (j := 0) (b := b15) (l := (cP.arr 1).enc (⟨[r14.2], rfl⟩ : Vec (Option Addr) 1)) (n := 1) (k := 1) [r14.2] (owed := []) Ty100 (by rfl) (Cod.arr_enc _ _ _) (by rfl) (fun r16 => ?_)
    refine OW.nil ?_
    refine OJ.go 1 [(3, Sl.v r16)] ?_
    refine OJ.nil ?_
    refine SJ.inBlock ?_
    refine SJ.forget (List.Sublist.cons _ List.Sublist.slnil) ?_
    exact SJ.at_ [3, 10] rfl
  · refine SJ.exit (id := 0) (by rfl) ?_
    refine SJ.sr 2 ?_
    refine OJ.go 1 [(19, Sl.v s4)] ?_
    refine OJ.call (d := 20) (g := 60) (ats := #[108, 124]) (args := [.tmp 19, .func 61]) (owed := []) F60 (slices_SortFunc_neigh_entry_neigh_entry_ok s4 ⟨.func (.func 61) #[] #[], rfl⟩ (fun (q17 : (Option Addr)) (q18 : (Option Addr)) => neigh_less q17 q18) (fun q17 q18 => RefV.of (first := []) (cap := []) F61 (neigh_less_ok q17 q18))) (fun r19 => ?_)
    refine OW.nil ?_
    refine OJ.nil ?_
    refine SJ.sr 2 ?_
    refine OJ.go 2 [(2, Sl.v s4), (21, Sl.v s4)] ?_
    refine OJ.nil ?_
    exact SJ.ret rfl (Res.run (ys := [Sl.v s4]) (.tmp (by kernel_rfl) .nil) rfl)
noncomputable def neigh_Cache_sorted (a0 : (Option Addr)) : M Sl :=
  nilck a0 >>= fun p1 =>
  ld cM (Addr.add p1 5) >>= fun x2 =>
  mrange x2 >>= fun b3 =>
  loopM (fun s_ : Sl => neigh_Cache_sorted.L1 b3 s_) Sl.nil
theorem neigh_Cache_sorted_ok (a0 : (Option Addr)) : Ref Try.prog 50 [.pointer a0] (neigh_Cache_sorted a0) neigh_Cache_sorted.out := by
  refine Ref.of (cd := neigh_Cache_sorted.B) Try.func50 ?_
  show SJ neigh_Cache_sorted.cx [.code neigh_Cache_sorted.B] [(0, .pointer a0)] [] (neigh_Cache_sorted a0) neigh_Cache_sorted.F0
  unfold neigh_Cache_sorted
  refine SJ.sr 1 ?_
  refine OJ.go 1 [(2, Sl.v Sl.nil)] ?_
  refine OJ.nil ?_
  refine SJ.sr 1 ?_
  refine OJ.go 1 [(3, Sl.v Sl.nil)] ?_
  refine OJ.nil ?_
  refine SJ.seq ?_
  refine SJ.sr 5 ?_
  refine OJ.go 1 [(6, .pointer a0)] ?_
  refine OJ.nilck (d := 7) (y := .tmp 6) (fun p1 => ?_)
  refine OJ.go 1 [(8, .pointer (some (Addr.add p1 5)))] ?_
  refine OJ.ld (d := 9) (y := .tmp 8) (pend2 := fun x2 => []) Ty101 (fun _ => rfl) (fun x2 => ?_)
  refine OJ.mrange (d := 10) (T := 101) (kT := 99) (vT := 100) (x := .tmp 9) (owed := []) (fun b3 => ?_)
  refine OW.nil ?_
  refine OJ.nil ?_
  refine SJ.block (id := 0) ?_
  exact SJ.loop (fun s_ : Sl => [(3, Sl.v s_), (10, .pointer (some (pt b3 0)))]) (fun s_ : Sl => []) [3, 10] rfl (fun _ _ => rfl) (fun s_ => neigh_Cache_sorted.L1_ok b3 s_)
end Go.Proofs.Ytlkhijflgbobjaa.Lx
