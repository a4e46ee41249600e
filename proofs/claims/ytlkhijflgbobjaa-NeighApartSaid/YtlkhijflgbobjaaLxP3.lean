/- Programs of the M-world for Go functions, each with the proof that the Go text does what it says. Printed by lxgen.py. -/
import Derived.Test.YtlkhijflgbobjaaLxT
import Derived.Test.YtlkhijflgbobjaaLxP0
import Derived.Test.YtlkhijflgbobjaaLxP1
import Derived.Test.YtlkhijflgbobjaaLxP2
set_option linter.unusedVariables false
set_option linter.unusedSimpArgs false
namespace Go.Proofs.Ytlkhijflgbobjaa.Lx
open Go Go.Proofs
/-! ### weir/weirlaw3.same: function 52 -/
noncomputable def weirlaw3_same.B : Code := (Try.f52.body).getD .skip
noncomputable def weirlaw3_same.cx : Fx := ⟨Try.prog, 52, Try.f52⟩
noncomputable def weirlaw3_same.out (r_ : Bool) : Value := .bool r_
noncomputable def weirlaw3_same.F0 (r_ : Bool) : Reach := .ret (weirlaw3_same.out r_)
noncomputable def weirlaw3_same.F1 (a0 : Sl) (a1 : Sl) : (LS Int Bool) → Reach := loopF [.inLoop (c1 (c1 (c2 (c1 (c2 (c2 weirlaw3_same.B)))))), .inBlock 0, .code (c2 (c2 (c2 weirlaw3_same.B)))] (fun s_ : Int => [(0, Sl.v a0), (1, Sl.v a1), (5, .int .i64 s_)]) (fun s_ : Int => []) weirlaw3_same.F0
noncomputable def weirlaw3_same.L1 (a0 : Sl) (a1 : Sl) (s1 : Int) : M (LS Int Bool) :=
  if s1 < (a0.len : Int) then
    draw >>= fun _ =>
    idx a0.a a0.len s1 1 >>= fun p8 =>
    ld (cI .i64) p8 >>= fun x9 =>
    idx a1.a a1.len s1 1 >>= fun p10 =>
    ld (cI .i64) p10 >>= fun x11 =>
    if x9 ≠ x11 then
      pure (LS.done false)
    else
      pure (LS.next (IntKind.wrap .i64 (s1 + 1)))
  else
    pure (LS.done true)
theorem weirlaw3_same.L1_ok (a0 : Sl) (a1 : Sl) (s1 : Int) :
    SJ weirlaw3_same.cx [.code (c1 (c1 (c2 (c1 (c2 (c2 weirlaw3_same.B)))))), .inLoop (c1 (c1 (c2 (c1 (c2 (c2 weirlaw3_same.B)))))), .inBlock 0, .code (c2 (c2 (c2 weirlaw3_same.B)))] [(0, Sl.v a0), (1, Sl.v a1), (5, .int .i64 s1)] [] (weirlaw3_same.L1 a0 a1 s1) (weirlaw3_same.F1 a0 a1) := by
  unfold weirlaw3_same.L1
  refine SJ.seq ?_
  refine SJ.sr 4 ?_
  refine OJ.go 4 [(14, .bool (decide (s1 < (a0.len : Int)))), (13, .int .i64 (a0.len : Int)), (12, Sl.v a0), (11, .int .i64 s1)] ?_
  refine OJ.nil ?_
  refine SJ.cond (t := (.tmp 14)) (b := decide (s1 < (a0.len : Int))) decide_eq_true_iff (fun hc13 => ?_) (fun hc13 => ?_)
  · refine SJ.skip ?_
    refine SJ.seq ?_
    refine SJ.block (id := 1) ?_
    refine SJ.seq ?_
    refine SJ.draw (id := 6) (kd := [0, 0, 0, 1, 0, 0, 0, 1, 0]) (bef := [0, 0, 3, 7, 0, 0, 48, 112, 255]) (ord := [0, 1, 2, 3, 4, 5, 6, 7, 8]) mixed ?_
    refine OJ.go 2 [(18, .int .i64 s1), (17, Sl.v a0)] ?_
    refine OJ.idxS (d := 19) (T := 43) (y := .tmp 17) (j := .tmp 18) (E := 3) (cap := a0.cap) (k := .i64) (fun p8 => ?_)
    refine OJ.ld (d := 20) (y := .tmp 19) (pend2 := fun x9 => [⟨3, 3, p8, (cI .i64).val x9⟩]) Ty3 (fun _ => rfl) (fun x9 => ?_)
    refine OJ.go 2 [(22, .int .i64 s1), (21, Sl.v a1)] ?_
    refine OJ.idxS (d := 23) (T := 43) (y := .tmp 21) (j := .tmp 22) (E := 3) (cap := a1.cap) (k := .i64) (fun p10 => ?_)
    refine OJ.ld (d := 24) (y := .tmp 23) (pend2 := fun x11 => [⟨7, 3, p10, (cI .i64).val x11⟩, ⟨3, 3, p8, (cI .i64).val x9⟩]) Ty3 (fun _ => rfl) (fun x11 => ?_)
    refine OJ.go 1 [(25, .bool (x9 != x11))] ?_
    refine OJ.nil ?_
    refine SJ.cond (t := (.tmp 25)) (b := (x9 != x11)) bne_iff_ne (fun hc12 => ?_) (fun hc12 => ?_)
    · refine SJ.sr 1 ?_
      refine OJ.go 1 [(4, .bool false)] ?_
      refine OJ.nil ?_
      exact SJ.ret rfl (Res.run (ys := [.bool false]) (.tmp (by kernel_rfl) .nil) rfl)
    · refine SJ.skip ?_
      refine SJ.inBlock ?_
      refine SJ.rg 3 ?_
      refine OJ.go 3 [(5, .int .i64 (IntKind.wrap .i64 (s1 + 1))), (16, .int .i64 (IntKind.wrap .i64 (s1 + 1))), (15, .int .i64 s1)] ?_
      refine OJ.nil ?_
      exact SJ.at_ [0, 1, 5] rfl
  · refine SJ.exit (id := 0) (by rfl) ?_
    refine SJ.sr 1 ?_
    refine OJ.go 1 [(4, .bool true)] ?_
    refine OJ.nil ?_
    exact SJ.ret rfl (Res.run (ys := [.bool true]) (.tmp (by kernel_rfl) .nil) rfl)
noncomputable def weirlaw3_same (a0 : Sl) (a1 : Sl) : M Bool :=
  if (a0.len : Int) ≠ (a1.len : Int) then
    pure false
  else
    loopM (fun s_ : Int => weirlaw3_same.L1 a0 a1 s_) 0
theorem weirlaw3_same_ok (a0 : Sl) (a1 : Sl) : Ref Try.prog 52 [Sl.v a0, Sl.v a1] (weirlaw3_same a0 a1) weirlaw3_same.out := by
  refine Ref.of (cd := weirlaw3_same.B) Try.func52 ?_
  show SJ weirlaw3_same.cx [.code weirlaw3_same.B] [(0, Sl.v a0), (1, Sl.v a1)] [] (weirlaw3_same a0 a1) weirlaw3_same.F0
  unfold weirlaw3_same
  refine SJ.sr 1 ?_
  refine OJ.go 1 [(4, .bool false)] ?_
  refine OJ.nil ?_
  refine SJ.seq ?_
  refine SJ.sr 5 ?_
  refine OJ.go 5 [(10, .bool ((a0.len : Int) != (a1.len : Int))), (9, .int .i64 (a1.len : Int)), (8, Sl.v a1), (7, .int .i64 (a0.len : Int)), (6, Sl.v a0)] ?_
  refine OJ.nil ?_
  refine SJ.cond (t := (.tmp 10)) (b := ((a0.len : Int) != (a1.len : Int))) bne_iff_ne (fun hc14 => ?_) (fun hc14 => ?_)
  · refine SJ.sr 1 ?_
    refine OJ.go 1 [(4, .bool false)] ?_
    refine OJ.nil ?_
    exact SJ.ret rfl (Res.run (ys := [.bool false]) (.tmp (by kernel_rfl) .nil) rfl)
  · refine SJ.skip ?_
    refine SJ.seq ?_
    refine SJ.sr 1 ?_
    refine OJ.go 1 [(5, .int .i64 0)] ?_
    refine OJ.nil ?_
    refine SJ.block (id := 0) ?_
    exact SJ.loop (fun s_ : Int => [(0, Sl.v a0), (1, Sl.v a1), (5, .int .i64 s_)]) (fun s_ : Int => []) [0, 1, 5] rfl (fun _ _ => rfl) (fun s_ => weirlaw3_same.L1_ok a0 a1 s_)

/-! ### (*weir/weirlaw3.Ints).Untouched: function 30 -/
noncomputable def weirlaw3_Ints_Untouched.B : Code := (Try.f30.body).getD .skip
noncomputable def weirlaw3_Ints_Untouched.cx : Fx := ⟨Try.prog, 30, Try.f30⟩
noncomputable def weirlaw3_Ints_Untouched.out (r_ : Bool) : Value := .bool r_
noncomputable def weirlaw3_Ints_Untouched.F0 (r_ : Bool) : Reach := .ret (weirlaw3_Ints_Untouched.out r_)
noncomputable def weirlaw3_Ints_Untouched.F1 (a0 : (Option Addr)) : (LS Int Bool) → Reach := loopF [.inLoop (c1 (c1 (c2 (c1 (c2 weirlaw3_Ints_Untouched.B))))), .inBlock 0, .code (c2 (c2 weirlaw3_Ints_Untouched.B))] (fun s_ : Int => [(0, .pointer a0), (3, .int .i64 s_)]) (fun s_ : Int => []) weirlaw3_Ints_Untouched.F0
noncomputable def weirlaw3_Ints_Untouched.L1 (a0 : (Option Addr)) (s1 : Int) : M (LS Int Bool) :=
  nilck a0 >>= fun p15 =>
  ld cL p15 >>= fun x16 =>
  if s1 < (x16.len : Int) then
    draw >>= fun _ =>
    nilck a0 >>= fun p17 =>
    ld cL p17 >>= fun x18 =>
    idx x18.a x18.len s1 1 >>= fun p19 =>
    ld cL p19 >>= fun x20 =>
    nilck a0 >>= fun p21 =>
    ld cL (Addr.add p21 1) >>= fun x22 =>
    idx x22.a x22.len s1 1 >>= fun p23 =>
    ld cL p23 >>= fun x24 =>
    weirlaw3_same x20 x24 >>= fun r25 =>
    if ¬ (r25 = true) then
      pure (LS.done false)
    else
      pure (LS.next (IntKind.wrap .i64 (s1 + 1)))
  else
    pure (LS.done true)
theorem weirlaw3_Ints_Untouched.L1_ok (a0 : (Option Addr)) (s1 : Int) :
    SJ weirlaw3_Ints_Untouched.cx [.code (c1 (c1 (c2 (c1 (c2 weirlaw3_Ints_Untouched.B))))), .inLoop (c1 (c1 (c2 (c1 (c2 weirlaw3_Ints_Untouched.B))))), .inBlock 0, .code (c2 (c2 weirlaw3_Ints_Untouched.B))] [(0, .pointer a0), (3, .int .i64 s1)] [] (weirlaw3_Ints_Untouched.L1 a0 s1) (weirlaw3_Ints_Untouched.F1 a0) := by
  unfold weirlaw3_Ints_Untouched.L1
  refine SJ.seq ?_
  refine SJ.sr 7 ?_
  refine OJ.go 2 [(5, .pointer a0), (4, .int .i64 s1)] ?_
  refine OJ.nilck (d := 6) (y := .tmp 5) (fun p15 => ?_)
  refine OJ.go 1 [(7, .pointer (some p15))] ?_
  refine OJ.ld (d := 8) (y := .tmp 7) (pend2 := fun x16 => []) Ty56 (fun _ => rfl) (fun x16 => ?_)
  refine OJ.go 2 [(10, .bool (decide (s1 < (x16.len : Int)))), (9, .int .i64 (x16.len : Int))] ?_
  refine OJ.nil ?_
  refine SJ.cond (t := (.tmp 10)) (b := decide (s1 < (x16.len : Int))) decide_eq_true_iff (fun hc27 => ?_) (fun hc27 => ?_)
  · refine SJ.skip ?_
    refine SJ.seq ?_
    refine SJ.block (id := 1) ?_
    refine SJ.seq ?_
    refine SJ.draw (id := 4) (kd := [0, 0, 0, 1, 0, 0, 1, 0, 0, 0, 1, 0, 0, 1, 2, 0]) (bef := [0, 1, 3, 7, 0, 31, 63, 0, 128, 384, 896, 0, 3968, 8064, 16383, 32767]) (ord := [0, 1, 2, 3, 4, 5, 6, 7, 8, 9, 10, 11, 12, 13, 14, 15]) mixed ?_
    refine OJ.go 1 [(13, .pointer a0)] ?_
    refine OJ.nilck (d := 14) (y := .tmp 13) (fun p17 => ?_)
    refine OJ.go 1 [(15, .pointer (some p17))] ?_
    refine OJ.ld (d := 16) (y := .tmp 15) (pend2 := fun x18 => [⟨3, 56, p17, cL.val x18⟩]) Ty56 (fun _ => rfl) (fun x18 => ?_)
    refine OJ.go 1 [(17, .int .i64 s1)] ?_
    refine OJ.idxS (d := 18) (T := 56) (y := .tmp 16) (j := .tmp 17) (E := 43) (cap := x18.cap) (k := .i64) (fun p19 => ?_)
    refine OJ.ld (d := 19) (y := .tmp 18) (pend2 := fun x20 => [⟨6, 43, p19, cL.val x20⟩, ⟨3, 56, p17, cL.val x18⟩]) Ty43 (fun _ => rfl) (fun x20 => ?_)
    refine OJ.go 1 [(20, .pointer a0)] ?_
    refine OJ.nilck (d := 21) (y := .tmp 20) (fun p21 => ?_)
    refine OJ.go 1 [(22, .pointer (some (Addr.add p21 1)))] ?_
    refine OJ.ld (d := 23) (y := .tmp 22) (pend2 := fun x22 => [⟨10, 56, (Addr.add p21 1), cL.val x22⟩, ⟨6, 43, p19, cL.val x20⟩, ⟨3, 56, p17, cL.val x18⟩]) Ty56 (fun _ => rfl) (fun x22 => ?_)
    refine OJ.go 1 [(24, .int .i64 s1)] ?_
    refine OJ.idxS (d := 25) (T := 56) (y := .tmp 23) (j := .tmp 24) (E := 43) (cap := x22.cap) (k := .i64) (fun p23 => ?_)
    refine OJ.ld (d := 26) (y := .tmp 25) (pend2 := fun x24 => [⟨13, 43, p23, cL.val x24⟩, ⟨10, 56, (Addr.add p21 1), cL.val x22⟩, ⟨6, 43, p19, cL.val x20⟩, ⟨3, 56, p17, cL.val x18⟩]) Ty43 (fun _ => rfl) (fun x24 => ?_)
    refine OJ.call (d := 27) (g := 52) (ats := #[43, 43]) (args := [.tmp 19, .tmp 26]) (owed := []) F52 (weirlaw3_same_ok x20 x24) (fun r25 => ?_)
    refine OW.nil ?_
    refine OJ.go 1 [(28, .bool (!r25))] ?_
    refine OJ.nil ?_
    refine SJ.cond (t := (.tmp 28)) (b := (!r25)) (bnot_iff Iff.rfl) (fun hc26 => ?_) (fun hc26 => ?_)
    · refine SJ.sr 1 ?_
      refine OJ.go 1 [(2, .bool false)] ?_
      refine OJ.nil ?_
      exact SJ.ret rfl (Res.run (ys := [.bool false]) (.tmp (by kernel_rfl) .nil) rfl)
    · refine SJ.skip ?_
      refine SJ.inBlock ?_
      refine SJ.rg 3 ?_
      refine OJ.go 3 [(3, .int .i64 (IntKind.wrap .i64 (s1 + 1))), (12, .int .i64 (IntKind.wrap .i64 (s1 + 1))), (11, .int .i64 s1)] ?_
      refine OJ.nil ?_
      exact SJ.at_ [0, 3] rfl
  · refine SJ.exit (id := 0) (by rfl) ?_
    refine SJ.sr 1 ?_
    refine OJ.go 1 [(2, .bool true)] ?_
    refine OJ.nil ?_
    exact SJ.ret rfl (Res.run (ys := [.bool true]) (.tmp (by kernel_rfl) .nil) rfl)
noncomputable def weirlaw3_Ints_Untouched (a0 : (Option Addr)) : M Bool :=
  loopM (fun s_ : Int => weirlaw3_Ints_Untouched.L1 a0 s_) 0
theorem weirlaw3_Ints_Untouched_ok (a0 : (Option Addr)) : Ref Try.prog 30 [.pointer a0] (weirlaw3_Ints_Untouched a0) weirlaw3_Ints_Untouched.out := by
  refine Ref.of (cd := weirlaw3_Ints_Untouched.B) Try.func30 ?_
  show SJ weirlaw3_Ints_Untouched.cx [.code weirlaw3_Ints_Untouched.B] [(0, .pointer a0)] [] (weirlaw3_Ints_Untouched a0) weirlaw3_Ints_Untouched.F0
  unfold weirlaw3_Ints_Untouched
  refine SJ.sr 1 ?_
  refine OJ.go 1 [(2, .bool false)] ?_
  refine OJ.nil ?_
  refine SJ.seq ?_
  refine SJ.sr 1 ?_
  refine OJ.go 1 [(3, .int .i64 0)] ?_
  refine OJ.nil ?_
  refine SJ.block (id := 0) ?_
  exact SJ.loop (fun s_ : Int => [(0, .pointer a0), (3, .int .i64 s_)]) (fun s_ : Int => []) [0, 3] rfl (fun _ _ => rfl) (fun s_ => weirlaw3_Ints_Untouched.L1_ok a0 s_)

/-! ### (*weir/weirlaw15.Rows).Untouched: function 31 -/
noncomputable def weirlaw15_Rows_Untouched.B : Code := (Try.f31.body).getD .skip
noncomputable def weirlaw15_Rows_Untouched.cx : Fx := ⟨Try.prog, 31, Try.f31⟩
noncomputable def weirlaw15_Rows_Untouched.out (r_ : Bool) : Value := .bool r_
noncomputable def weirlaw15_Rows_Untouched.F0 (r_ : Bool) : Reach := .ret (weirlaw15_Rows_Untouched.out r_)
noncomputable def weirlaw15_Rows_Untouched.F1 (a0 : (Option Addr)) : (LS Int Bool) → Reach := loopF [.inLoop (c1 (c1 (c2 (c1 (c2 (c2 weirlaw15_Rows_Untouched.B)))))), .inBlock 2, .code (c2 (c2 (c2 weirlaw15_Rows_Untouched.B)))] (fun s_ : Int => [(0, .pointer a0), (4, .int .i64 s_)]) (fun s_ : Int => []) weirlaw15_Rows_Untouched.F0
noncomputable def weirlaw15_Rows_Untouched.L1 (a0 : (Option Addr)) (s15 : Int) : M (LS Int Bool) :=
  nilck a0 >>= fun p29 =>
  ld cL (Addr.add p29 2) >>= fun x30 =>
  if s15 < (x30.len : Int) then
    draw >>= fun _ =>
    nilck a0 >>= fun p31 =>
    ld cL (Addr.add p31 2) >>= fun x32 =>
    idx x32.a x32.len s15 1 >>= fun p33 =>
    ld cL p33 >>= fun x34 =>
    nilck a0 >>= fun p35 =>
    ld cL (Addr.add p35 3) >>= fun x36 =>
    idx x36.a x36.len s15 1 >>= fun p37 =>
    ld cL p37 >>= fun x38 =>
    weirlaw15_sameAsks x34 x38 >>= fun r39 =>
    if ¬ (r39 = true) then
      pure (LS.done false)
    else
      pure (LS.next (IntKind.wrap .i64 (s15 + 1)))
  else
    pure (LS.done true)
theorem weirlaw15_Rows_Untouched.L1_ok (a0 : (Option Addr)) (s15 : Int) :
    SJ weirlaw15_Rows_Untouched.cx [.code (c1 (c1 (c2 (c1 (c2 (c2 weirlaw15_Rows_Untouched.B)))))), .inLoop (c1 (c1 (c2 (c1 (c2 (c2 weirlaw15_Rows_Untouched.B)))))), .inBlock 2, .code (c2 (c2 (c2 weirlaw15_Rows_Untouched.B)))] [(0, .pointer a0), (4, .int .i64 s15)] [] (weirlaw15_Rows_Untouched.L1 a0 s15) (weirlaw15_Rows_Untouched.F1 a0) := by
  unfold weirlaw15_Rows_Untouched.L1
  refine SJ.seq ?_
  refine SJ.sr 7 ?_
  refine OJ.go 2 [(31, .pointer a0), (30, .int .i64 s15)] ?_
  refine OJ.nilck (d := 32) (y := .tmp 31) (fun p29 => ?_)
  refine OJ.go 1 [(33, .pointer (some (Addr.add p29 2)))] ?_
  refine OJ.ld (d := 34) (y := .tmp 33) (pend2 := fun x30 => []) Ty61 (fun _ => rfl) (fun x30 => ?_)
  refine OJ.go 2 [(36, .bool (decide (s15 < (x30.len : Int)))), (35, .int .i64 (x30.len : Int))] ?_
  refine OJ.nil ?_
  refine SJ.cond (t := (.tmp 36)) (b := decide (s15 < (x30.len : Int))) decide_eq_true_iff (fun hc41 => ?_) (fun hc41 => ?_)
  · refine SJ.skip ?_
    refine SJ.seq ?_
    refine SJ.block (id := 3) ?_
    refine SJ.seq ?_
    refine SJ.draw (id := 9) (kd := [0, 0, 0, 1, 0, 0, 1, 0, 0, 0, 1, 0, 0, 1, 2, 0]) (bef := [0, 1, 3, 7, 0, 31, 63, 0, 128, 384, 896, 0, 3968, 8064, 16383, 32767]) (ord := [0, 1, 2, 3, 4, 5, 6, 7, 8, 9, 10, 11, 12, 13, 14, 15]) mixed ?_
    refine OJ.go 1 [(39, .pointer a0)] ?_
    refine OJ.nilck (d := 40) (y := .tmp 39) (fun p31 => ?_)
    refine OJ.go 1 [(41, .pointer (some (Addr.add p31 2)))] ?_
    refine OJ.ld (d := 42) (y := .tmp 41) (pend2 := fun x32 => [⟨3, 61, (Addr.add p31 2), cL.val x32⟩]) Ty61 (fun _ => rfl) (fun x32 => ?_)
    refine OJ.go 1 [(43, .int .i64 s15)] ?_
    refine OJ.idxS (d := 44) (T := 61) (y := .tmp 42) (j := .tmp 43) (E := 50) (cap := x32.cap) (k := .i64) (fun p33 => ?_)
    refine OJ.ld (d := 45) (y := .tmp 44) (pend2 := fun x34 => [⟨6, 50, p33, cL.val x34⟩, ⟨3, 61, (Addr.add p31 2), cL.val x32⟩]) Ty50 (fun _ => rfl) (fun x34 => ?_)
    refine OJ.go 1 [(46, .pointer a0)] ?_
    refine OJ.nilck (d := 47) (y := .tmp 46) (fun p35 => ?_)
    refine OJ.go 1 [(48, .pointer (some (Addr.add p35 3)))] ?_
    refine OJ.ld (d := 49) (y := .tmp 48) (pend2 := fun x36 => [⟨10, 61, (Addr.add p35 3), cL.val x36⟩, ⟨6, 50, p33, cL.val x34⟩, ⟨3, 61, (Addr.add p31 2), cL.val x32⟩]) Ty61 (fun _ => rfl) (fun x36 => ?_)
    refine OJ.go 1 [(50, .int .i64 s15)] ?_
    refine OJ.idxS (d := 51) (T := 61) (y := .tmp 49) (j := .tmp 50) (E := 50) (cap := x36.cap) (k := .i64) (fun p37 => ?_)
    refine OJ.ld (d := 52) (y := .tmp 51) (pend2 := fun x38 => [⟨13, 50, p37, cL.val x38⟩, ⟨10, 61, (Addr.add p35 3), cL.val x36⟩, ⟨6, 50, p33, cL.val x34⟩, ⟨3, 61, (Addr.add p31 2), cL.val x32⟩]) Ty50 (fun _ => rfl) (fun x38 => ?_)
    refine OJ.call (d := 53) (g := 25) (ats := #[50, 50]) (args := [.tmp 45, .tmp 52]) (owed := []) F25 (weirlaw15_sameAsks_ok x34 x38) (fun r39 => ?_)
    refine OW.nil ?_
    refine OJ.go 1 [(54, .bool (!r39))] ?_
    refine OJ.nil ?_
    refine SJ.cond (t := (.tmp 54)) (b := (!r39)) (bnot_iff Iff.rfl) (fun hc40 => ?_) (fun hc40 => ?_)
    · refine SJ.sr 1 ?_
      refine OJ.go 1 [(2, .bool false)] ?_
      refine OJ.nil ?_
      exact SJ.ret rfl (Res.run (ys := [.bool false]) (.tmp (by kernel_rfl) .nil) rfl)
    · refine SJ.skip ?_
      refine SJ.inBlock ?_
      refine SJ.rg 3 ?_
      refine OJ.go 3 [(4, .int .i64 (IntKind.wrap .i64 (s15 + 1))), (38, .int .i64 (IntKind.wrap .i64 (s15 + 1))), (37, .int .i64 s15)] ?_
      refine OJ.nil ?_
      exact SJ.at_ [0, 4] rfl
  · refine SJ.exit (id := 2) (by rfl) ?_
    refine SJ.sr 1 ?_
    refine OJ.go 1 [(2, .bool true)] ?_
    refine OJ.nil ?_
    exact SJ.ret rfl (Res.run (ys := [.bool true]) (.tmp (by kernel_rfl) .nil) rfl)
noncomputable def weirlaw15_Rows_Untouched.K1 (a0 : (Option Addr)) : M Bool :=
  loopM (fun s_ : Int => weirlaw15_Rows_Untouched.L1 a0 s_) 0
theorem weirlaw15_Rows_Untouched.K1_ok (a0 : (Option Addr)) :
    SJ weirlaw15_Rows_Untouched.cx [.code (c2 (c2 weirlaw15_Rows_Untouched.B))] [(0, .pointer a0)] [] (weirlaw15_Rows_Untouched.K1 a0) weirlaw15_Rows_Untouched.F0 := by
  unfold weirlaw15_Rows_Untouched.K1
  refine SJ.seq ?_
  refine SJ.sr 1 ?_
  refine OJ.go 1 [(4, .int .i64 0)] ?_
  refine OJ.nil ?_
  refine SJ.block (id := 2) ?_
  exact SJ.loop (fun s_ : Int => [(0, .pointer a0), (4, .int .i64 s_)]) (fun s_ : Int => []) [0, 4] rfl (fun _ _ => rfl) (fun s_ => weirlaw15_Rows_Untouched.L1_ok a0 s_)
noncomputable def weirlaw15_Rows_Untouched.F2 (a0 : (Option Addr)) : (LS Int Bool) → Reach := loopF [.inLoop (c1 (c1 (c2 (c1 (c2 weirlaw15_Rows_Untouched.B))))), .inBlock 0, .code (c2 (c2 weirlaw15_Rows_Untouched.B))] (fun s_ : Int => [(0, .pointer a0), (3, .int .i64 s_)]) (fun s_ : Int => []) weirlaw15_Rows_Untouched.F0
noncomputable def weirlaw15_Rows_Untouched.L2 (a0 : (Option Addr)) (s1 : Int) : M (LS Int Bool) :=
  nilck a0 >>= fun p42 =>
  ld cL p42 >>= fun x43 =>
  if s1 < (x43.len : Int) then
    draw >>= fun _ =>
    nilck a0 >>= fun p44 =>
    ld cL p44 >>= fun x45 =>
    idx x45.a x45.len s1 1 >>= fun p46 =>
    ld cL p46 >>= fun x47 =>
    nilck a0 >>= fun p48 =>
    ld cL (Addr.add p48 1) >>= fun x49 =>
    idx x49.a x49.len s1 1 >>= fun p50 =>
    ld cL p50 >>= fun x51 =>
    weirlaw15_sameAll x47 x51 >>= fun r52 =>
    if ¬ (r52 = true) then
      pure (LS.done false)
    else
      pure (LS.next (IntKind.wrap .i64 (s1 + 1)))
  else
    (weirlaw15_Rows_Untouched.K1 a0) >>= fun b => pure (LS.done b)
theorem weirlaw15_Rows_Untouched.L2_ok (a0 : (Option Addr)) (s1 : Int) :
    SJ weirlaw15_Rows_Untouched.cx [.code (c1 (c1 (c2 (c1 (c2 weirlaw15_Rows_Untouched.B))))), .inLoop (c1 (c1 (c2 (c1 (c2 weirlaw15_Rows_Untouched.B))))), .inBlock 0, .code (c2 (c2 weirlaw15_Rows_Untouched.B))] [(0, .pointer a0), (3, .int .i64 s1)] [] (weirlaw15_Rows_Untouched.L2 a0 s1) (weirlaw15_Rows_Untouched.F2 a0) := by
  unfold weirlaw15_Rows_Untouched.L2
  refine SJ.seq ?_
  refine SJ.sr 7 ?_
  refine OJ.go 2 [(6, .pointer a0), (5, .int .i64 s1)] ?_
  refine OJ.nilck (d := 7) (y := .tmp 6) (fun p42 => ?_)
  refine OJ.go 1 [(8, .pointer (some p42))] ?_
  refine OJ.ld (d := 9) (y := .tmp 8) (pend2 := fun x43 => []) Ty60 (fun _ => rfl) (fun x43 => ?_)
  refine OJ.go 2 [(11, .bool (decide (s1 < (x43.len : Int)))), (10, .int .i64 (x43.len : Int))] ?_
  refine OJ.nil ?_
  refine SJ.cond (t := (.tmp 11)) (b := decide (s1 < (x43.len : Int))) decide_eq_true_iff (fun hc54 => ?_) (fun hc54 => ?_)
  · refine SJ.skip ?_
    refine SJ.seq ?_
    refine SJ.block (id := 1) ?_
    refine SJ.seq ?_
    refine SJ.draw (id := 4) (kd := [0, 0, 0, 1, 0, 0, 1, 0, 0, 0, 1, 0, 0, 1, 2, 0]) (bef := [0, 1, 3, 7, 0, 31, 63, 0, 128, 384, 896, 0, 3968, 8064, 16383, 32767]) (ord := [0, 1, 2, 3, 4, 5, 6, 7, 8, 9, 10, 11, 12, 13, 14, 15]) mixed ?_
    refine OJ.go 1 [(14, .pointer a0)] ?_
    refine OJ.nilck (d := 15) (y := .tmp 14) (fun p44 => ?_)
    refine OJ.go 1 [(16, .pointer (some p44))] ?_
    refine OJ.ld (d := 17) (y := .tmp 16) (pend2 := fun x45 => [⟨3, 60, p44, cL.val x45⟩]) Ty60 (fun _ => rfl) (fun x45 => ?_)
    refine OJ.go 1 [(18, .int .i64 s1)] ?_
    refine OJ.idxS (d := 19) (T := 60) (y := .tmp 17) (j := .tmp 18) (E := 68) (cap := x45.cap) (k := .i64) (fun p46 => ?_)
    refine OJ.ld (d := 20) (y := .tmp 19) (pend2 := fun x47 => [⟨6, 68, p46, cL.val x47⟩, ⟨3, 60, p44, cL.val x45⟩]) Ty68 (fun _ => rfl) (fun x47 => ?_)
    refine OJ.go 1 [(21, .pointer a0)] ?_
    refine OJ.nilck (d := 22) (y := .tmp 21) (fun p48 => ?_)
    refine OJ.go 1 [(23, .pointer (some (Addr.add p48 1)))] ?_
    refine OJ.ld (d := 24) (y := .tmp 23) (pend2 := fun x49 => [⟨10, 60, (Addr.add p48 1), cL.val x49⟩, ⟨6, 68, p46, cL.val x47⟩, ⟨3, 60, p44, cL.val x45⟩]) Ty60 (fun _ => rfl) (fun x49 => ?_)
    refine OJ.go 1 [(25, .int .i64 s1)] ?_
    refine OJ.idxS (d := 26) (T := 60) (y := .tmp 24) (j := .tmp 25) (E := 68) (cap := x49.cap) (k := .i64) (fun p50 => ?_)
    refine OJ.ld (d := 27) (y := .tmp 26) (pend2 := fun x51 => [⟨13, 68, p50, cL.val x51⟩, ⟨10, 60, (Addr.add p48 1), cL.val x49⟩, ⟨6, 68, p46, cL.val x47⟩, ⟨3, 60, p44, cL.val x45⟩]) Ty68 (fun _ => rfl) (fun x51 => ?_)
    refine OJ.call (d := 28) (g := 28) (ats := #[68, 68]) (args := [.tmp 20, .tmp 27]) (owed := []) F28 (weirlaw15_sameAll_ok x47 x51) (fun r52 => ?_)
    refine OW.nil ?_
    refine OJ.go 1 [(29, .bool (!r52))] ?_
    refine OJ.nil ?_
    refine SJ.cond (t := (.tmp 29)) (b := (!r52)) (bnot_iff Iff.rfl) (fun hc53 => ?_) (fun hc53 => ?_)
    · refine SJ.sr 1 ?_
      refine OJ.go 1 [(2, .bool false)] ?_
      refine OJ.nil ?_
      exact SJ.ret rfl (Res.run (ys := [.bool false]) (.tmp (by kernel_rfl) .nil) rfl)
    · refine SJ.skip ?_
      refine SJ.inBlock ?_
      refine SJ.rg 3 ?_
      refine OJ.go 3 [(3, .int .i64 (IntKind.wrap .i64 (s1 + 1))), (13, .int .i64 (IntKind.wrap .i64 (s1 + 1))), (12, .int .i64 s1)] ?_
      refine OJ.nil ?_
      exact SJ.at_ [0, 3] rfl
  · refine SJ.exit (id := 0) (by rfl) ?_
    refine SJ.less [0] (m' := [(0, .pointer a0)]) ?_
    refine SJ.done ?_
    exact weirlaw15_Rows_Untouched.K1_ok a0
noncomputable def weirlaw15_Rows_Untouched (a0 : (Option Addr)) : M Bool :=
  loopM (fun s_ : Int => weirlaw15_Rows_Untouched.L2 a0 s_) 0
theorem weirlaw15_Rows_Untouched_ok (a0 : (Option Addr)) : Ref Try.prog 31 [.pointer a0] (weirlaw15_Rows_Untouched a0) weirlaw15_Rows_Untouched.out := by
  refine Ref.of (cd := weirlaw15_Rows_Untouched.B) Try.func31 ?_
  show SJ weirlaw15_Rows_Untouched.cx [.code weirlaw15_Rows_Untouched.B] [(0, .pointer a0)] [] (weirlaw15_Rows_Untouched a0) weirlaw15_Rows_Untouched.F0
  unfold weirlaw15_Rows_Untouched
  refine SJ.sr 1 ?_
  refine OJ.go 1 [(2, .bool false)] ?_
  refine OJ.nil ?_
  refine SJ.seq ?_
  refine SJ.sr 1 ?_
  refine OJ.go 1 [(3, .int .i64 0)] ?_
  refine OJ.nil ?_
  refine SJ.block (id := 0) ?_
  exact SJ.loop (fun s_ : Int => [(0, .pointer a0), (3, .int .i64 s_)]) (fun s_ : Int => []) [0, 3] rfl (fun _ _ => rfl) (fun s_ => weirlaw15_Rows_Untouched.L2_ok a0 s_)

/-! ### weir/weirlaw3.only: function 53 -/
noncomputable def weirlaw3_only.B : Code := (Try.f53.body).getD .skip
noncomputable def weirlaw3_only.cx : Fx := ⟨Try.prog, 53, Try.f53⟩
noncomputable def weirlaw3_only.out (r_ : Bool) : Value := .bool r_
noncomputable def weirlaw3_only.F0 (r_ : Bool) : Reach := .ret (weirlaw3_only.out r_)
noncomputable def weirlaw3_only.F1 (a0 : Sl) (a1 : Int) : (LS Int Bool) → Reach := loopF [.inLoop (c1 (c1 (c2 (c1 (c2 weirlaw3_only.B))))), .inBlock 0, .code (c2 (c2 weirlaw3_only.B))] (fun s_ : Int => [(0, Sl.v a0), (1, .int .i64 a1), (5, .int .i64 s_)]) (fun s_ : Int => []) weirlaw3_only.F0
noncomputable def weirlaw3_only.L1 (a0 : Sl) (a1 : Int) (s1 : Int) : M (LS Int Bool) :=
  if s1 < (a0.len : Int) then
    idx a0.a a0.len s1 1 >>= fun p6 =>
    ld (cI .i64) p6 >>= fun x7 =>
    if x7 ≠ a1 then
      pure (LS.done false)
    else
      pure (LS.next (IntKind.wrap .i64 (s1 + 1)))
  else
    pure (LS.done true)
theorem weirlaw3_only.L1_ok (a0 : Sl) (a1 : Int) (s1 : Int) :
    SJ weirlaw3_only.cx [.code (c1 (c1 (c2 (c1 (c2 weirlaw3_only.B))))), .inLoop (c1 (c1 (c2 (c1 (c2 weirlaw3_only.B))))), .inBlock 0, .code (c2 (c2 weirlaw3_only.B))] [(0, Sl.v a0), (1, .int .i64 a1), (5, .int .i64 s1)] [] (weirlaw3_only.L1 a0 a1 s1) (weirlaw3_only.F1 a0 a1) := by
  unfold weirlaw3_only.L1
  refine SJ.seq ?_
  refine SJ.sr 4 ?_
  refine OJ.go 4 [(9, .bool (decide (s1 < (a0.len : Int)))), (8, .int .i64 (a0.len : Int)), (7, Sl.v a0), (6, .int .i64 s1)] ?_
  refine OJ.nil ?_
  refine SJ.cond (t := (.tmp 9)) (b := decide (s1 < (a0.len : Int))) decide_eq_true_iff (fun hc9 => ?_) (fun hc9 => ?_)
  · refine SJ.skip ?_
    refine SJ.seq ?_
    refine SJ.block (id := 1) ?_
    refine SJ.sr 6 ?_
    refine OJ.go 2 [(13, .int .i64 s1), (12, Sl.v a0)] ?_
    refine OJ.idxS (d := 14) (T := 43) (y := .tmp 12) (j := .tmp 13) (E := 3) (cap := a0.cap) (k := .i64) (fun p6 => ?_)
    refine OJ.ld (d := 15) (y := .tmp 14) (pend2 := fun x7 => []) Ty3 (fun _ => rfl) (fun x7 => ?_)
    refine OJ.go 2 [(17, .bool (x7 != a1)), (16, .int .i64 a1)] ?_
    refine OJ.nil ?_
    refine SJ.cond (t := (.tmp 17)) (b := (x7 != a1)) bne_iff_ne (fun hc8 => ?_) (fun hc8 => ?_)
    · refine SJ.sr 1 ?_
      refine OJ.go 1 [(4, .bool false)] ?_
      refine OJ.nil ?_
      exact SJ.ret rfl (Res.run (ys := [.bool false]) (.tmp (by kernel_rfl) .nil) rfl)
    · refine SJ.skip ?_
      refine SJ.inBlock ?_
      refine SJ.rg 3 ?_
      refine OJ.go 3 [(5, .int .i64 (IntKind.wrap .i64 (s1 + 1))), (11, .int .i64 (IntKind.wrap .i64 (s1 + 1))), (10, .int .i64 s1)] ?_
      refine OJ.nil ?_
      exact SJ.at_ [0, 1, 5] rfl
  · refine SJ.exit (id := 0) (by rfl) ?_
    refine SJ.sr 1 ?_
    refine OJ.go 1 [(4, .bool true)] ?_
    refine OJ.nil ?_
    exact SJ.ret rfl (Res.run (ys := [.bool true]) (.tmp (by kernel_rfl) .nil) rfl)
noncomputable def weirlaw3_only (a0 : Sl) (a1 : Int) : M Bool :=
  loopM (fun s_ : Int => weirlaw3_only.L1 a0 a1 s_) 0
theorem weirlaw3_only_ok (a0 : Sl) (a1 : Int) : Ref Try.prog 53 [Sl.v a0, .int .i64 a1] (weirlaw3_only a0 a1) weirlaw3_only.out := by
  refine Ref.of (cd := weirlaw3_only.B) Try.func53 ?_
  show SJ weirlaw3_only.cx [.code weirlaw3_only.B] [(0, Sl.v a0), (1, .int .i64 a1)] [] (weirlaw3_only a0 a1) weirlaw3_only.F0
  unfold weirlaw3_only
  refine SJ.sr 1 ?_
  refine OJ.go 1 [(4, .bool false)] ?_
  refine OJ.nil ?_
  refine SJ.seq ?_
  refine SJ.sr 1 ?_
  refine OJ.go 1 [(5, .int .i64 0)] ?_
  refine OJ.nil ?_
  refine SJ.block (id := 0) ?_
  exact SJ.loop (fun s_ : Int => [(0, Sl.v a0), (1, .int .i64 a1), (5, .int .i64 s_)]) (fun s_ : Int => []) [0, 1, 5] rfl (fun _ _ => rfl) (fun s_ => weirlaw3_only.L1_ok a0 a1 s_)

/-! ### (*weir/weirlaw3.Ints).Settle: function 32 -/
noncomputable def weirlaw3_Ints_Settle.B : Code := (Try.f32.body).getD .skip
noncomputable def weirlaw3_Ints_Settle.cx : Fx := ⟨Try.prog, 32, Try.f32⟩
noncomputable def weirlaw3_Ints_Settle.out (r_ : Bool) : Value := .bool r_
noncomputable def weirlaw3_Ints_Settle.F0 (r_ : Bool) : Reach := .ret (weirlaw3_Ints_Settle.out r_)
noncomputable def weirlaw3_Ints_Settle.F1 (a0 : (Option Addr)) (s27 : Sl) : (LS Int Bool) → Reach := loopF [.inLoop (c1 (c1 (c2 (c1 (c2 (c2 (c2 (c2 (c2 weirlaw3_Ints_Settle.B))))))))), .inBlock 8, .code (c2 (c2 (c2 (c2 (c2 (c2 weirlaw3_Ints_Settle.B))))))] (fun s_ : Int => [(0, .pointer a0), (5, Sl.v s27), (9, .int .i64 s_)]) (fun s_ : Int => []) weirlaw3_Ints_Settle.F0
noncomputable def weirlaw3_Ints_Settle.L1 (a0 : (Option Addr)) (s27 : Sl) (s47 : Int) : M (LS Int Bool) :=
  nilck a0 >>= fun p61 =>
  ld cL p61 >>= fun x62 =>
  if s47 < (x62.len : Int) then
    nilck a0 >>= fun p63 =>
    ld cL p63 >>= fun x64 =>
    idx x64.a x64.len s47 1 >>= fun p65 =>
    ld cL p65 >>= fun x66 =>
    weirlaw3_only x66 (IntKind.wrap .i64 ((-1000) - s47)) >>= fun r67 =>
    (if ¬ (r67 = true) then
        pure true
      else
        idx s27.a s27.len s47 1 >>= fun p68 =>
        ld cL p68 >>= fun x69 =>
        weirlaw3_only x69 (IntKind.wrap .i64 ((-1000) - s47)) >>= fun r70 =>
        pure (!r70)) >>= fun y71 =>
    if y71 = true then
      pure (LS.done false)
    else
      pure (LS.next (IntKind.wrap .i64 (s47 + 1)))
  else
    pure (LS.done true)
theorem weirlaw3_Ints_Settle.L1_ok (a0 : (Option Addr)) (s27 : Sl) (s47 : Int) :
    SJ weirlaw3_Ints_Settle.cx [.code (c1 (c1 (c2 (c1 (c2 (c2 (c2 (c2 (c2 weirlaw3_Ints_Settle.B))))))))), .inLoop (c1 (c1 (c2 (c1 (c2 (c2 (c2 (c2 (c2 weirlaw3_Ints_Settle.B))))))))), .inBlock 8, .code (c2 (c2 (c2 (c2 (c2 (c2 weirlaw3_Ints_Settle.B))))))] [(0, .pointer a0), (5, Sl.v s27), (9, .int .i64 s47)] [] (weirlaw3_Ints_Settle.L1 a0 s27 s47) (weirlaw3_Ints_Settle.F1 a0 s27) := by
  unfold weirlaw3_Ints_Settle.L1
  refine SJ.seq ?_
  refine SJ.sr 7 ?_
  refine OJ.go 2 [(79, .pointer a0), (78, .int .i64 s47)] ?_
  refine OJ.nilck (d := 80) (y := .tmp 79) (fun p61 => ?_)
  refine OJ.go 1 [(81, .pointer (some p61))] ?_
  refine OJ.ld (d := 82) (y := .tmp 81) (pend2 := fun x62 => []) Ty56 (fun _ => rfl) (fun x62 => ?_)
  refine OJ.go 2 [(84, .bool (decide (s47 < (x62.len : Int)))), (83, .int .i64 (x62.len : Int))] ?_
  refine OJ.nil ?_
  refine SJ.cond (t := (.tmp 84)) (b := decide (s47 < (x62.len : Int))) decide_eq_true_iff (fun hc73 => ?_) (fun hc73 => ?_)
  · refine SJ.skip ?_
    refine SJ.seq ?_
    refine SJ.block (id := 9) ?_
    refine SJ.sr 21 ?_
    refine OJ.go 1 [(87, .pointer a0)] ?_
    refine OJ.nilck (d := 88) (y := .tmp 87) (fun p63 => ?_)
    refine OJ.go 1 [(89, .pointer (some p63))] ?_
    refine OJ.ld (d := 90) (y := .tmp 89) (pend2 := fun x64 => []) Ty56 (fun _ => rfl) (fun x64 => ?_)
    refine OJ.go 1 [(91, .int .i64 s47)] ?_
    refine OJ.idxS (d := 92) (T := 56) (y := .tmp 90) (j := .tmp 91) (E := 43) (cap := x64.cap) (k := .i64) (fun p65 => ?_)
    refine OJ.ld (d := 93) (y := .tmp 92) (pend2 := fun x66 => []) Ty43 (fun _ => rfl) (fun x66 => ?_)
    refine OJ.go 2 [(95, .int .i64 (IntKind.wrap .i64 ((-1000) - s47))), (94, .int .i64 s47)] ?_
    refine OJ.call (d := 96) (g := 53) (ats := #[43, 3]) (args := [.tmp 93, .tmp 95]) (owed := []) F53 (weirlaw3_only_ok x66 (IntKind.wrap .i64 ((-1000) - s47))) (fun r67 => ?_)
    refine OW.nil ?_
    refine OJ.go 2 [(98, .bool (!r67)), (97, .bool (!r67))] ?_
    refine OJ.join (b := (!r67)) [12, 13, 14, 15, 16, 17, 18, 19, 20] [] [0, 5, 9, 107] (fun y71 => [(0, .pointer a0), (5, Sl.v s27), (9, .int .i64 s47), (107, .bool y71)]) [] [] (t := 98) (bnot_iff Iff.rfl) (fun hp_ => ?_) (fun hp_ => ?_) (fun _ _ _ _ _ _ h_ => h_) (fun y71 => ?_)
    · refine OJ.go 9 [(107, .bool true), (106, undef), (105, undef), (104, undef), (103, undef), (102, undef), (101, undef), (100, undef), (99, undef)] ?_
      exact OJ.nil ⟨(Cov.mem Cov.nil), rfl, _, rfl, by kernel_rfl⟩
    · refine OJ.go 2 [(100, .int .i64 s47), (99, Sl.v s27)] ?_
      refine OJ.idxS (d := 101) (T := 56) (y := .tmp 99) (j := .tmp 100) (E := 43) (cap := s27.cap) (k := .i64) (fun p68 => ?_)
      refine OJ.ld (d := 102) (y := .tmp 101) (pend2 := fun x69 => []) Ty43 (fun _ => rfl) (fun x69 => ?_)
      refine OJ.go 2 [(104, .int .i64 (IntKind.wrap .i64 ((-1000) - s47))), (103, .int .i64 s47)] ?_
      refine OJ.call (d := 105) (g := 53) (ats := #[43, 3]) (args := [.tmp 102, .tmp 104]) (owed := []) F53 (weirlaw3_only_ok x69 (IntKind.wrap .i64 ((-1000) - s47))) (fun r70 => ?_)
      refine OW.nil ?_
      refine OJ.go 2 [(107, .bool (!r70)), (106, .bool (!r70))] ?_
      exact OJ.nil ⟨(Cov.mem Cov.nil), rfl, _, rfl, by kernel_rfl⟩
    · refine OJ.nil ?_
      refine SJ.cond (t := (.tmp 107)) (b := y71) Iff.rfl (fun hc72 => ?_) (fun hc72 => ?_)
      · refine SJ.sr 1 ?_
        refine OJ.go 1 [(2, .bool false)] ?_
        refine OJ.nil ?_
        exact SJ.ret rfl (Res.run (ys := [.bool false]) (.tmp (by kernel_rfl) .nil) rfl)
      · refine SJ.skip ?_
        refine SJ.inBlock ?_
        refine SJ.rg 3 ?_
        refine OJ.go 3 [(9, .int .i64 (IntKind.wrap .i64 (s47 + 1))), (86, .int .i64 (IntKind.wrap .i64 (s47 + 1))), (85, .int .i64 s47)] ?_
        refine OJ.nil ?_
        exact SJ.at_ [0, 5, 9] rfl
  · refine SJ.exit (id := 8) (by rfl) ?_
    refine SJ.sr 1 ?_
    refine OJ.go 1 [(2, .bool true)] ?_
    refine OJ.nil ?_
    exact SJ.ret rfl (Res.run (ys := [.bool true]) (.tmp (by kernel_rfl) .nil) rfl)
noncomputable def weirlaw3_Ints_Settle.K1 (a0 : (Option Addr)) (s27 : Sl) : M Bool :=
  loopM (fun s_ : Int => weirlaw3_Ints_Settle.L1 a0 s27 s_) 0
theorem weirlaw3_Ints_Settle.K1_ok (a0 : (Option Addr)) (s27 : Sl) :
    SJ weirlaw3_Ints_Settle.cx [.code (c2 (c2 (c2 (c2 (c2 weirlaw3_Ints_Settle.B)))))] [(0, .pointer a0), (5, Sl.v s27)] [] (weirlaw3_Ints_Settle.K1 a0 s27) weirlaw3_Ints_Settle.F0 := by
  unfold weirlaw3_Ints_Settle.K1
  refine SJ.seq ?_
  refine SJ.sr 1 ?_
  refine OJ.go 1 [(9, .int .i64 0)] ?_
  refine OJ.nil ?_
  refine SJ.block (id := 8) ?_
  exact SJ.loop (fun s_ : Int => [(0, .pointer a0), (5, Sl.v s27), (9, .int .i64 s_)]) (fun s_ : Int => []) [0, 5, 9] rfl (fun _ _ => rfl) (fun s_ => weirlaw3_Ints_Settle.L1_ok a0 s27 s_)
noncomputable def weirlaw3_Ints_Settle.F2 (a0 : (Option Addr)) : (LS (Sl × Int) Bool) → Reach := loopF [.inLoop (c1 (c1 (c2 (c1 (c2 (c2 (c2 (c2 weirlaw3_Ints_Settle.B)))))))), .inBlock 4, .code (c2 (c2 (c2 (c2 (c2 weirlaw3_Ints_Settle.B)))))] (fun s_ : (Sl × Int) => [(0, .pointer a0), (5, Sl.v s_.1), (6, .int .i64 s_.2)]) (fun s_ : (Sl × Int) => []) weirlaw3_Ints_Settle.F0
noncomputable def weirlaw3_Ints_Settle.F3 (a0 : (Option Addr)) (s27 : Sl) (s28 : Int) (x79 : Sl) : (LS Sl (LS (Sl × Int) Bool)) → Reach := loopF [.inLoop (c1 (c1 (c1 (c2 (c2 (c1 (c1 (c2 (c1 (c1 (c2 (c1 (c2 (c2 (c2 (c2 weirlaw3_Ints_Settle.B)))))))))))))))), .inBlock 6, .code (c2 (c2 (c2 (c1 (c1 (c2 (c1 (c1 (c2 (c1 (c2 (c2 (c2 (c2 weirlaw3_Ints_Settle.B)))))))))))))), .inBlock 5, .code (c2 (c2 (c1 (c1 (c2 (c1 (c2 (c2 (c2 (c2 weirlaw3_Ints_Settle.B)))))))))), .inLoop (c1 (c1 (c2 (c1 (c2 (c2 (c2 (c2 weirlaw3_Ints_Settle.B)))))))), .inBlock 4, .code (c2 (c2 (c2 (c2 (c2 weirlaw3_Ints_Settle.B)))))] (fun s_ : Sl => [(0, .pointer a0), (5, Sl.v s27), (6, .int .i64 s28), (7, Sl.v s_), (8, .int .i64 (IntKind.wrap .i64 ((IntKind.wrap .i64 (2 * (x79.len : Int))) + 70)))]) (fun s_ : Sl => []) (weirlaw3_Ints_Settle.F2 a0)
noncomputable def weirlaw3_Ints_Settle.L3 (s27 : Sl) (s28 : Int) (x79 : Sl) (s80 : Sl) : M (LS Sl (LS (Sl × Int) Bool)) :=
  if (s80.len : Int) < (IntKind.wrap .i64 ((IntKind.wrap .i64 (2 * (x79.len : Int))) + 70)) then
    slot 3 >>= fun b86 =>
    appl (cI .i64) 3 8 0 s80 [IntKind.wrap .i64 ((-1000) - s28)] >>= fun r87 =>
    pure (LS.next r87)
  else
    slot 43 >>= fun b88 =>
    appl cL 43 24 Sl.nil s27 [s80] >>= fun r89 =>
    pure (LS.done (LS.next (r89, IntKind.wrap .i64 (s28 + 1))))
theorem weirlaw3_Ints_Settle.L3_ok (a0 : (Option Addr)) (s27 : Sl) (s28 : Int) (x79 : Sl) (s80 : Sl) :
    SJ weirlaw3_Ints_Settle.cx [.code (c1 (c1 (c1 (c2 (c2 (c1 (c1 (c2 (c1 (c1 (c2 (c1 (c2 (c2 (c2 (c2 weirlaw3_Ints_Settle.B)))))))))))))))), .inLoop (c1 (c1 (c1 (c2 (c2 (c1 (c1 (c2 (c1 (c1 (c2 (c1 (c2 (c2 (c2 (c2 weirlaw3_Ints_Settle.B)))))))))))))))), .inBlock 6, .code (c2 (c2 (c2 (c1 (c1 (c2 (c1 (c1 (c2 (c1 (c2 (c2 (c2 (c2 weirlaw3_Ints_Settle.B)))))))))))))), .inBlock 5, .code (c2 (c2 (c1 (c1 (c2 (c1 (c2 (c2 (c2 (c2 weirlaw3_Ints_Settle.B)))))))))), .inLoop (c1 (c1 (c2 (c1 (c2 (c2 (c2 (c2 weirlaw3_Ints_Settle.B)))))))), .inBlock 4, .code (c2 (c2 (c2 (c2 (c2 weirlaw3_Ints_Settle.B)))))] [(0, .pointer a0), (5, Sl.v s27), (6, .int .i64 s28), (7, Sl.v s80), (8, .int .i64 (IntKind.wrap .i64 ((IntKind.wrap .i64 (2 * (x79.len : Int))) + 70)))] [] (weirlaw3_Ints_Settle.L3 s27 s28 x79 s80) (weirlaw3_Ints_Settle.F3 a0 s27 s28 x79) := by
  unfold weirlaw3_Ints_Settle.L3
  refine SJ.seq ?_
  refine SJ.sr 4 ?_
  refine OJ.go 4 [(68, .bool (decide ((s80.len : Int) < (IntKind.wrap .i64 ((IntKind.wrap .i64 (2 * (x79.len : Int))) + 70))))), (67, .int .i64 (IntKind.wrap .i64 ((IntKind.wrap .i64 (2 * (x79.len : Int))) + 70))), (66, .int .i64 (s80.len : Int)), (65, Sl.v s80)] ?_
  refine OJ.nil ?_
  refine SJ.cond (t := (.tmp 68)) (b := decide ((s80.len : Int) < (IntKind.wrap .i64 ((IntKind.wrap .i64 (2 * (x79.len : Int))) + 70)))) decide_eq_true_iff (fun hc90 => ?_) (fun hc90 => ?_)
  · refine SJ.skip ?_
    refine SJ.block (id := 7) ?_
    refine SJ.rg 6 ?_
    refine OJ.go 3 [(71, .int .i64 (IntKind.wrap .i64 ((-1000) - s28))), (70, .int .i64 s28), (69, Sl.v s80)] ?_
    refine OJ.rowSlot (d := 72) (t := 43) (parts := [(0, .tmp 71)]) (ps := [(0, (cI .i64).val (IntKind.wrap .i64 ((-1000) - s28)))]) (cd := (cI .i64)) (⟨[IntKind.wrap .i64 ((-1000) - s28)], rfl⟩ : Vec Int 1) (owed := []) Ty3 (Filled.cons (cd := (cI .i64)) (q := (IntKind.wrap .i64 ((-1000) - s28))) (o := 0) rfl (Upd.arr (i := 0) (by decide) (by decide)) Filled.nil) (fun b86 => ?_)
    refine OW.nil ?_
    refine OJ.appl (d := 73) (t := 43) (u := 43) (so := .tmp 69) (xo := .tmp 72) (j := 0) (b := b86) (l := ((cI .i64).arr 1).enc (⟨[IntKind.wrap .i64 ((-1000) - s28)], rfl⟩ : Vec Int 1)) (n := 1) (k := 1) [IntKind.wrap .i64 ((-1000) - s28)] (owed := []) Ty3 (by rfl) (Cod.arr_enc _ _ _) (by rfl) (fun r87 => ?_)
    refine OW.nil ?_
    refine OJ.go 1 [(7, Sl.v r87)] ?_
    refine OJ.nil ?_
    refine SJ.inBlock ?_
    refine SJ.forget (List.Sublist.cons _ List.Sublist.slnil) ?_
    exact SJ.at_ [0, 5, 6, 7, 8] rfl
  · refine SJ.exit (id := 6) (by rfl) ?_
    refine SJ.rg 5 ?_
    refine OJ.go 2 [(75, Sl.v s80), (74, Sl.v s27)] ?_
    refine OJ.rowSlot (d := 76) (t := 56) (parts := [(0, .tmp 75)]) (ps := [(0, cL.val s80)]) (cd := cL) (⟨[s80], rfl⟩ : Vec Sl 1) (owed := []) Ty43 (Filled.cons (cd := cL) (q := s80) (o := 0) rfl (Upd.arr (i := 0) (by decide) (by decide)) Filled.nil) (fun b88 => ?_)
    refine OW.nil ?_
    refine OJ.appl (d := 77) (t := 56) (u := 56) (so := .tmp 74) (xo := .tmp 76) (j := 0) (b := b88) (l := (cL.arr 1).enc (⟨[s80], rfl⟩ : Vec Sl 1)) (n := 1) (k := 1) [s80] (owed := []) Ty43 (by rfl) (Cod.arr_enc _ _ _) (by rfl) (fun r89 => ?_)
    refine OW.nil ?_
    refine OJ.go 1 [(5, Sl.v r89)] ?_
    refine OJ.nil ?_
    refine SJ.inBlock ?_
    refine SJ.rg 3 ?_
    refine OJ.go 3 [(6, .int .i64 (IntKind.wrap .i64 (s28 + 1))), (53, .int .i64 (IntKind.wrap .i64 (s28 + 1))), (52, .int .i64 s28)] ?_
    refine OJ.nil ?_
    refine SJ.forget (List.Sublist.cons _ List.Sublist.slnil) ?_
    exact SJ.at_ [0, 5, 6] rfl
noncomputable def weirlaw3_Ints_Settle.L2 (a0 : (Option Addr)) (s27 : Sl) (s28 : Int) : M (LS (Sl × Int) Bool) :=
  nilck a0 >>= fun p74 =>
  ld cL p74 >>= fun x75 =>
  if s28 < (x75.len : Int) then
    nilck a0 >>= fun p76 =>
    ld cL p76 >>= fun x77 =>
    idx x77.a x77.len s28 1 >>= fun p78 =>
    ld cL p78 >>= fun x79 =>
    loopM (fun s_ : Sl => weirlaw3_Ints_Settle.L3 s27 s28 x79 s_) x79
  else
    (weirlaw3_Ints_Settle.K1 a0 s27) >>= fun b => pure (LS.done b)
theorem weirlaw3_Ints_Settle.L2_ok (a0 : (Option Addr)) (s27 : Sl) (s28 : Int) :
    SJ weirlaw3_Ints_Settle.cx [.code (c1 (c1 (c2 (c1 (c2 (c2 (c2 (c2 weirlaw3_Ints_Settle.B)))))))), .inLoop (c1 (c1 (c2 (c1 (c2 (c2 (c2 (c2 weirlaw3_Ints_Settle.B)))))))), .inBlock 4, .code (c2 (c2 (c2 (c2 (c2 weirlaw3_Ints_Settle.B)))))] [(0, .pointer a0), (5, Sl.v s27), (6, .int .i64 s28)] [] (weirlaw3_Ints_Settle.L2 a0 s27 s28) (weirlaw3_Ints_Settle.F2 a0) := by
  unfold weirlaw3_Ints_Settle.L2
  refine SJ.seq ?_
  refine SJ.sr 7 ?_
  refine OJ.go 2 [(46, .pointer a0), (45, .int .i64 s28)] ?_
  refine OJ.nilck (d := 47) (y := .tmp 46) (fun p74 => ?_)
  refine OJ.go 1 [(48, .pointer (some p74))] ?_
  refine OJ.ld (d := 49) (y := .tmp 48) (pend2 := fun x75 => []) Ty56 (fun _ => rfl) (fun x75 => ?_)
  refine OJ.go 2 [(51, .bool (decide (s28 < (x75.len : Int)))), (50, .int .i64 (x75.len : Int))] ?_
  refine OJ.nil ?_
  refine SJ.cond (t := (.tmp 51)) (b := decide (s28 < (x75.len : Int))) decide_eq_true_iff (fun hc91 => ?_) (fun hc91 => ?_)
  · refine SJ.skip ?_
    refine SJ.seq ?_
    refine SJ.block (id := 5) ?_
    refine SJ.sr 8 ?_
    refine OJ.go 1 [(54, .pointer a0)] ?_
    refine OJ.nilck (d := 55) (y := .tmp 54) (fun p76 => ?_)
    refine OJ.go 1 [(56, .pointer (some p76))] ?_
    refine OJ.ld (d := 57) (y := .tmp 56) (pend2 := fun x77 => []) Ty56 (fun _ => rfl) (fun x77 => ?_)
    refine OJ.go 1 [(58, .int .i64 s28)] ?_
    refine OJ.idxS (d := 59) (T := 56) (y := .tmp 57) (j := .tmp 58) (E := 43) (cap := x77.cap) (k := .i64) (fun p78 => ?_)
    refine OJ.ld (d := 60) (y := .tmp 59) (pend2 := fun x79 => []) Ty43 (fun _ => rfl) (fun x79 => ?_)
    refine OJ.go 1 [(7, Sl.v x79)] ?_
    refine OJ.nil ?_
    refine SJ.sr 5 ?_
    refine OJ.go 5 [(8, .int .i64 (IntKind.wrap .i64 ((IntKind.wrap .i64 (2 * (x79.len : Int))) + 70))), (64, .int .i64 (IntKind.wrap .i64 ((IntKind.wrap .i64 (2 * (x79.len : Int))) + 70))), (63, .int .i64 (IntKind.wrap .i64 (2 * (x79.len : Int)))), (62, .int .i64 (x79.len : Int)), (61, Sl.v x79)] ?_
    refine OJ.nil ?_
    refine SJ.seq ?_
    refine SJ.block (id := 6) ?_
    exact SJ.loop (fun s_ : Sl => [(0, .pointer a0), (5, Sl.v s27), (6, .int .i64 s28), (7, Sl.v s_), (8, .int .i64 (IntKind.wrap .i64 ((IntKind.wrap .i64 (2 * (x79.len : Int))) + 70)))]) (fun s_ : Sl => []) [0, 5, 6, 7, 8] rfl (fun _ _ => rfl) (fun s_ => weirlaw3_Ints_Settle.L3_ok a0 s27 s28 x79 s_)
  · refine SJ.exit (id := 4) (by rfl) ?_
    refine SJ.less [0, 5] (m' := [(0, .pointer a0), (5, Sl.v s27)]) ?_
    refine SJ.done ?_
    exact weirlaw3_Ints_Settle.K1_ok a0 s27
noncomputable def weirlaw3_Ints_Settle.K2 (a0 : (Option Addr)) : M Bool :=
  loopM (fun s_ : (Sl × Int) => weirlaw3_Ints_Settle.L2 a0 s_.1 s_.2) (Sl.nil, 0)
theorem weirlaw3_Ints_Settle.K2_ok (a0 : (Option Addr)) :
    SJ weirlaw3_Ints_Settle.cx [.code (c2 (c2 (c2 weirlaw3_Ints_Settle.B)))] [(0, .pointer a0)] [] (weirlaw3_Ints_Settle.K2 a0) weirlaw3_Ints_Settle.F0 := by
  unfold weirlaw3_Ints_Settle.K2
  refine SJ.sr 1 ?_
  refine OJ.go 1 [(5, Sl.v Sl.nil)] ?_
  refine OJ.nil ?_
  refine SJ.seq ?_
  refine SJ.sr 1 ?_
  refine OJ.go 1 [(6, .int .i64 0)] ?_
  refine OJ.nil ?_
  refine SJ.block (id := 4) ?_
  exact SJ.loop (fun s_ : (Sl × Int) => [(0, .pointer a0), (5, Sl.v s_.1), (6, .int .i64 s_.2)]) (fun s_ : (Sl × Int) => []) [0, 5, 6] rfl (fun _ _ => rfl) (fun s_ => weirlaw3_Ints_Settle.L2_ok a0 s_.1 s_.2)
noncomputable def weirlaw3_Ints_Settle.F4 (a0 : (Option Addr)) : (LS Int Bool) → Reach := loopF [.inLoop (c1 (c1 (c2 (c1 (c2 (c2 weirlaw3_Ints_Settle.B)))))), .inBlock 0, .code (c2 (c2 (c2 weirlaw3_Ints_Settle.B)))] (fun s_ : Int => [(0, .pointer a0), (3, .int .i64 s_)]) (fun s_ : Int => []) weirlaw3_Ints_Settle.F0
noncomputable def weirlaw3_Ints_Settle.F5 (a0 : (Option Addr)) (s2 : Int) : (LS Int (LS Int Bool)) → Reach := loopF [.inLoop (c1 (c1 (c2 (c1 (c1 (c2 (c1 (c1 (c2 (c1 (c2 (c2 weirlaw3_Ints_Settle.B)))))))))))), .inBlock 2, .inBlock 1, .code (c2 (c2 (c1 (c1 (c2 (c1 (c2 (c2 weirlaw3_Ints_Settle.B)))))))), .inLoop (c1 (c1 (c2 (c1 (c2 (c2 weirlaw3_Ints_Settle.B)))))), .inBlock 0, .code (c2 (c2 (c2 weirlaw3_Ints_Settle.B)))] (fun s_ : Int => [(0, .pointer a0), (3, .int .i64 s2), (4, .int .i64 s_)]) (fun s_ : Int => []) (weirlaw3_Ints_Settle.F4 a0)
noncomputable def weirlaw3_Ints_Settle.L5 (a0 : (Option Addr)) (s2 : Int) (s94 : Int) : M (LS Int (LS Int Bool)) :=
  nilck a0 >>= fun p105 =>
  ld cL p105 >>= fun x106 =>
  idx x106.a x106.len s2 1 >>= fun p107 =>
  ld cL p107 >>= fun x108 =>
  if s94 < (x108.len : Int) then
    nilck a0 >>= fun p109 =>
    ld cL p109 >>= fun x110 =>
    idx x110.a x110.len s2 1 >>= fun p111 =>
    ld cL p111 >>= fun x112 =>
    idx x112.a x112.len s94 1 >>= fun p113 =>
    st (cI .i64) p113 (IntKind.wrap .i64 ((-1000) - s2)) >>= fun _ =>
    pure (LS.next (IntKind.wrap .i64 (s94 + 1)))
  else
    pure (LS.done (LS.next (IntKind.wrap .i64 (s2 + 1))))
theorem weirlaw3_Ints_Settle.L5_ok (a0 : (Option Addr)) (s2 : Int) (s94 : Int) :
    SJ weirlaw3_Ints_Settle.cx [.code (c1 (c1 (c2 (c1 (c1 (c2 (c1 (c1 (c2 (c1 (c2 (c2 weirlaw3_Ints_Settle.B)))))))))))), .inLoop (c1 (c1 (c2 (c1 (c1 (c2 (c1 (c1 (c2 (c1 (c2 (c2 weirlaw3_Ints_Settle.B)))))))))))), .inBlock 2, .inBlock 1, .code (c2 (c2 (c1 (c1 (c2 (c1 (c2 (c2 weirlaw3_Ints_Settle.B)))))))), .inLoop (c1 (c1 (c2 (c1 (c2 (c2 weirlaw3_Ints_Settle.B)))))), .inBlock 0, .code (c2 (c2 (c2 weirlaw3_Ints_Settle.B)))] [(0, .pointer a0), (3, .int .i64 s2), (4, .int .i64 s94)] [] (weirlaw3_Ints_Settle.L5 a0 s2 s94) (weirlaw3_Ints_Settle.F5 a0 s2) := by
  unfold weirlaw3_Ints_Settle.L5
  refine SJ.seq ?_
  refine SJ.sr 10 ?_
  refine OJ.go 2 [(23, .pointer a0), (22, .int .i64 s94)] ?_
  refine OJ.nilck (d := 24) (y := .tmp 23) (fun p105 => ?_)
  refine OJ.go 1 [(25, .pointer (some p105))] ?_
  refine OJ.ld (d := 26) (y := .tmp 25) (pend2 := fun x106 => []) Ty56 (fun _ => rfl) (fun x106 => ?_)
  refine OJ.go 1 [(27, .int .i64 s2)] ?_
  refine OJ.idxS (d := 28) (T := 56) (y := .tmp 26) (j := .tmp 27) (E := 43) (cap := x106.cap) (k := .i64) (fun p107 => ?_)
  refine OJ.ld (d := 29) (y := .tmp 28) (pend2 := fun x108 => []) Ty43 (fun _ => rfl) (fun x108 => ?_)
  refine OJ.go 2 [(31, .bool (decide (s94 < (x108.len : Int)))), (30, .int .i64 (x108.len : Int))] ?_
  refine OJ.nil ?_
  refine SJ.cond (t := (.tmp 31)) (b := decide (s94 < (x108.len : Int))) decide_eq_true_iff (fun hc114 => ?_) (fun hc114 => ?_)
  · refine SJ.skip ?_
    refine SJ.seq ?_
    refine SJ.block (id := 3) ?_
    refine SJ.rg 12 ?_
    refine OJ.go 1 [(34, .pointer a0)] ?_
    refine OJ.nilck (d := 35) (y := .tmp 34) (fun p109 => ?_)
    refine OJ.go 1 [(36, .pointer (some p109))] ?_
    refine OJ.ld (d := 37) (y := .tmp 36) (pend2 := fun x110 => []) Ty56 (fun _ => rfl) (fun x110 => ?_)
    refine OJ.go 1 [(38, .int .i64 s2)] ?_
    refine OJ.idxS (d := 39) (T := 56) (y := .tmp 37) (j := .tmp 38) (E := 43) (cap := x110.cap) (k := .i64) (fun p111 => ?_)
    refine OJ.ld (d := 40) (y := .tmp 39) (pend2 := fun x112 => []) Ty43 (fun _ => rfl) (fun x112 => ?_)
    refine OJ.go 3 [(43, .int .i64 (IntKind.wrap .i64 ((-1000) - s2))), (42, .int .i64 s2), (41, .int .i64 s94)] ?_
    refine OJ.idxS (d := 44) (T := 43) (y := .tmp 40) (j := .tmp 41) (E := 3) (cap := x112.cap) (k := .i64) (fun p113 => ?_)
    refine OJ.st (y := .tmp 44) (z := .tmp 43) (owed := []) Ty3 ?_
    refine OW.nil ?_
    refine OJ.nil ?_
    refine SJ.inBlock ?_
    refine SJ.rg 3 ?_
    refine OJ.go 3 [(4, .int .i64 (IntKind.wrap .i64 (s94 + 1))), (33, .int .i64 (IntKind.wrap .i64 (s94 + 1))), (32, .int .i64 s94)] ?_
    refine OJ.nil ?_
    exact SJ.at_ [0, 3, 4] rfl
  · refine SJ.exit (id := 2) (by rfl) ?_
    refine SJ.inBlock ?_
    refine SJ.rg 3 ?_
    refine OJ.go 3 [(3, .int .i64 (IntKind.wrap .i64 (s2 + 1))), (21, .int .i64 (IntKind.wrap .i64 (s2 + 1))), (20, .int .i64 s2)] ?_
    refine OJ.nil ?_
    exact SJ.at_ [0, 3] rfl
noncomputable def weirlaw3_Ints_Settle.L4 (a0 : (Option Addr)) (s2 : Int) : M (LS Int Bool) :=
  nilck a0 >>= fun p92 =>
  ld cL p92 >>= fun x93 =>
  if s2 < (x93.len : Int) then
    loopM (fun s_ : Int => weirlaw3_Ints_Settle.L5 a0 s2 s_) 0
  else
    (weirlaw3_Ints_Settle.K2 a0) >>= fun b => pure (LS.done b)
theorem weirlaw3_Ints_Settle.L4_ok (a0 : (Option Addr)) (s2 : Int) :
    SJ weirlaw3_Ints_Settle.cx [.code (c1 (c1 (c2 (c1 (c2 (c2 weirlaw3_Ints_Settle.B)))))), .inLoop (c1 (c1 (c2 (c1 (c2 (c2 weirlaw3_Ints_Settle.B)))))), .inBlock 0, .code (c2 (c2 (c2 weirlaw3_Ints_Settle.B)))] [(0, .pointer a0), (3, .int .i64 s2)] [] (weirlaw3_Ints_Settle.L4 a0 s2) (weirlaw3_Ints_Settle.F4 a0) := by
  unfold weirlaw3_Ints_Settle.L4
  refine SJ.seq ?_
  refine SJ.sr 7 ?_
  refine OJ.go 2 [(14, .pointer a0), (13, .int .i64 s2)] ?_
  refine OJ.nilck (d := 15) (y := .tmp 14) (fun p92 => ?_)
  refine OJ.go 1 [(16, .pointer (some p92))] ?_
  refine OJ.ld (d := 17) (y := .tmp 16) (pend2 := fun x93 => []) Ty56 (fun _ => rfl) (fun x93 => ?_)
  refine OJ.go 2 [(19, .bool (decide (s2 < (x93.len : Int)))), (18, .int .i64 (x93.len : Int))] ?_
  refine OJ.nil ?_
  refine SJ.cond (t := (.tmp 19)) (b := decide (s2 < (x93.len : Int))) decide_eq_true_iff (fun hc115 => ?_) (fun hc115 => ?_)
  · refine SJ.skip ?_
    refine SJ.seq ?_
    refine SJ.block (id := 1) ?_
    refine SJ.sr 1 ?_
    refine OJ.go 1 [(4, .int .i64 0)] ?_
    refine OJ.nil ?_
    refine SJ.block (id := 2) ?_
    exact SJ.loop (fun s_ : Int => [(0, .pointer a0), (3, .int .i64 s2), (4, .int .i64 s_)]) (fun s_ : Int => []) [0, 3, 4] rfl (fun _ _ => rfl) (fun s_ => weirlaw3_Ints_Settle.L5_ok a0 s2 s_)
  · refine SJ.exit (id := 0) (by rfl) ?_
    refine SJ.less [0] (m' := [(0, .pointer a0)]) ?_
    refine SJ.done ?_
    exact weirlaw3_Ints_Settle.K2_ok a0
noncomputable def weirlaw3_Ints_Settle (a0 : (Option Addr)) : M Bool :=
  weirlaw3_Ints_Untouched a0 >>= fun r1 =>
  if ¬ (r1 = true) then
    pure false
  else
    loopM (fun s_ : Int => weirlaw3_Ints_Settle.L4 a0 s_) 0
theorem weirlaw3_Ints_Settle_ok (a0 : (Option Addr)) : Ref Try.prog 32 [.pointer a0] (weirlaw3_Ints_Settle a0) weirlaw3_Ints_Settle.out := by
  refine Ref.of (cd := weirlaw3_Ints_Settle.B) Try.func32 ?_
  show SJ weirlaw3_Ints_Settle.cx [.code weirlaw3_Ints_Settle.B] [(0, .pointer a0)] [] (weirlaw3_Ints_Settle a0) weirlaw3_Ints_Settle.F0
  unfold weirlaw3_Ints_Settle
  refine SJ.sr 1 ?_
  refine OJ.go 1 [(2, .bool false)] ?_
  refine OJ.nil ?_
  refine SJ.seq ?_
  refine SJ.sr 3 ?_
  refine OJ.go 1 [(10, .pointer a0)] ?_
  refine OJ.call (d := 11) (g := 30) (ats := #[55]) (args := [.tmp 10]) (owed := []) F30 (weirlaw3_Ints_Untouched_ok a0) (fun r1 => ?_)
  refine OW.nil ?_
  refine OJ.go 1 [(12, .bool (!r1))] ?_
  refine OJ.nil ?_
  refine SJ.cond (t := (.tmp 12)) (b := (!r1)) (bnot_iff Iff.rfl) (fun hc116 => ?_) (fun hc116 => ?_)
  · refine SJ.sr 1 ?_
    refine OJ.go 1 [(2, .bool false)] ?_
    refine OJ.nil ?_
    exact SJ.ret rfl (Res.run (ys := [.bool false]) (.tmp (by kernel_rfl) .nil) rfl)
  · refine SJ.skip ?_
    refine SJ.seq ?_
    refine SJ.sr 1 ?_
    refine OJ.go 1 [(3, .int .i64 0)] ?_
    refine OJ.nil ?_
    refine SJ.block (id := 0) ?_
    exact SJ.loop (fun s_ : Int => [(0, .pointer a0), (3, .int .i64 s_)]) (fun s_ : Int => []) [0, 3] rfl (fun _ _ => rfl) (fun s_ => weirlaw3_Ints_Settle.L4_ok a0 s_)

/-! ### weir/weirlaw15.onlyN: function 54 -/
noncomputable def weirlaw15_onlyN.B : Code := (Try.f54.body).getD .skip
noncomputable def weirlaw15_onlyN.cx : Fx := ⟨Try.prog, 54, Try.f54⟩
noncomputable def weirlaw15_onlyN.out (r_ : Bool) : Value := .bool r_
noncomputable def weirlaw15_onlyN.F0 (r_ : Bool) : Reach := .ret (weirlaw15_onlyN.out r_)
noncomputable def weirlaw15_onlyN.F1 (a0 : Sl) (a1 : Int) : (LS Int Bool) → Reach := loopF [.inLoop (c1 (c1 (c2 (c1 (c2 weirlaw15_onlyN.B))))), .inBlock 0, .code (c2 (c2 weirlaw15_onlyN.B))] (fun s_ : Int => [(0, Sl.v a0), (1, .int .i64 a1), (5, .int .i64 s_)]) (fun s_ : Int => []) weirlaw15_onlyN.F0
noncomputable def weirlaw15_onlyN.L1 (a0 : Sl) (a1 : Int) (s1 : Int) : M (LS Int Bool) :=
  if s1 < (a0.len : Int) then
    idx a0.a a0.len s1 28 >>= fun p6 =>
    ld c_api_Neighbour p6 >>= fun x7 =>
    if ¬ (x7 = (⟨a1, z_api_Neighbour.IP, z_api_Neighbour.Mac, z_api_Neighbour.State, z_api_Neighbour.Age, z_api_Neighbour.Tries, z_api_Neighbour.Waiting⟩ : api_Neighbour)) then
      pure (LS.done false)
    else
      pure (LS.next (IntKind.wrap .i64 (s1 + 1)))
  else
    pure (LS.done true)
theorem weirlaw15_onlyN.L1_ok (a0 : Sl) (a1 : Int) (s1 : Int) :
    SJ weirlaw15_onlyN.cx [.code (c1 (c1 (c2 (c1 (c2 weirlaw15_onlyN.B))))), .inLoop (c1 (c1 (c2 (c1 (c2 weirlaw15_onlyN.B))))), .inBlock 0, .code (c2 (c2 weirlaw15_onlyN.B))] [(0, Sl.v a0), (1, .int .i64 a1), (5, .int .i64 s1)] [] (weirlaw15_onlyN.L1 a0 a1 s1) (weirlaw15_onlyN.F1 a0 a1) := by
  unfold weirlaw15_onlyN.L1
  refine SJ.seq ?_
  refine SJ.sr 4 ?_
  refine OJ.go 4 [(9, .bool (decide (s1 < (a0.len : Int)))), (8, .int .i64 (a0.len : Int)), (7, Sl.v a0), (6, .int .i64 s1)] ?_
  refine OJ.nil ?_
  refine SJ.cond (t := (.tmp 9)) (b := decide (s1 < (a0.len : Int))) decide_eq_true_iff (fun hc9 => ?_) (fun hc9 => ?_)
  · refine SJ.skip ?_
    refine SJ.seq ?_
    refine SJ.block (id := 1) ?_
    refine SJ.sr 7 ?_
    refine OJ.go 2 [(13, .int .i64 s1), (12, Sl.v a0)] ?_
    refine OJ.idxS (d := 14) (T := 68) (y := .tmp 12) (j := .tmp 13) (E := 77) (cap := a0.cap) (k := .i64) (fun p6 => ?_)
    refine OJ.ld (d := 15) (y := .tmp 14) (pend2 := fun x7 => []) Ty77 (fun _ => rfl) (fun x7 => ?_)
    refine OJ.go 1 [(16, .int .i64 a1)] ?_
    refine OJ.build (d := 17) (T := 77) (parts := [(0, .tmp 16)]) (ps := [(0, (cI .i64).val a1)]) (cd := c_api_Neighbour) (z0 := z_api_Neighbour) (⟨a1, z_api_Neighbour.IP, z_api_Neighbour.Mac, z_api_Neighbour.State, z_api_Neighbour.Age, z_api_Neighbour.Tries, z_api_Neighbour.Waiting⟩ : api_Neighbour) Ty77 rfl (Filled.cons (cd := (cI .i64)) (q := a1) (o := 0) (by kernel_rfl) (Up_api_Neighbour_Port z_api_Neighbour a1) Filled.nil) ?_
    refine OJ.neq (d := 18) (T := 77) (yT := 77) (y := .tmp 15) (z := .tmp 17) (cd := c_api_Neighbour) (p := x7) (q := (⟨a1, z_api_Neighbour.IP, z_api_Neighbour.Mac, z_api_Neighbour.State, z_api_Neighbour.Age, z_api_Neighbour.Tries, z_api_Neighbour.Waiting⟩ : api_Neighbour)) rfl Eq77 ?_
    refine OJ.nil ?_
    refine SJ.cond (t := (.tmp 18)) (b := (!eqv x7 (⟨a1, z_api_Neighbour.IP, z_api_Neighbour.Mac, z_api_Neighbour.State, z_api_Neighbour.Age, z_api_Neighbour.Tries, z_api_Neighbour.Waiting⟩ : api_Neighbour))) (bnot_iff eqv_iff) (fun hc8 => ?_) (fun hc8 => ?_)
    · refine SJ.sr 1 ?_
      refine OJ.go 1 [(4, .bool false)] ?_
      refine OJ.nil ?_
      exact SJ.ret rfl (Res.run (ys := [.bool false]) (.tmp (by kernel_rfl) .nil) rfl)
    · refine SJ.skip ?_
      refine SJ.inBlock ?_
      refine SJ.rg 3 ?_
      refine OJ.go 3 [(5, .int .i64 (IntKind.wrap .i64 (s1 + 1))), (11, .int .i64 (IntKind.wrap .i64 (s1 + 1))), (10, .int .i64 s1)] ?_
      refine OJ.nil ?_
      exact SJ.at_ [0, 1, 5] rfl
  · refine SJ.exit (id := 0) (by rfl) ?_
    refine SJ.sr 1 ?_
    refine OJ.go 1 [(4, .bool true)] ?_
    refine OJ.nil ?_
    exact SJ.ret rfl (Res.run (ys := [.bool true]) (.tmp (by kernel_rfl) .nil) rfl)
noncomputable def weirlaw15_onlyN (a0 : Sl) (a1 : Int) : M Bool :=
  loopM (fun s_ : Int => weirlaw15_onlyN.L1 a0 a1 s_) 0
theorem weirlaw15_onlyN_ok (a0 : Sl) (a1 : Int) : Ref Try.prog 54 [Sl.v a0, .int .i64 a1] (weirlaw15_onlyN a0 a1) weirlaw15_onlyN.out := by
  refine Ref.of (cd := weirlaw15_onlyN.B) Try.func54 ?_
  show SJ weirlaw15_onlyN.cx [.code weirlaw15_onlyN.B] [(0, Sl.v a0), (1, .int .i64 a1)] [] (weirlaw15_onlyN a0 a1) weirlaw15_onlyN.F0
  unfold weirlaw15_onlyN
  refine SJ.sr 1 ?_
  refine OJ.go 1 [(4, .bool false)] ?_
  refine OJ.nil ?_
  refine SJ.seq ?_
  refine SJ.sr 1 ?_
  refine OJ.go 1 [(5, .int .i64 0)] ?_
  refine OJ.nil ?_
  refine SJ.block (id := 0) ?_
  exact SJ.loop (fun s_ : Int => [(0, Sl.v a0), (1, .int .i64 a1), (5, .int .i64 s_)]) (fun s_ : Int => []) [0, 1, 5] rfl (fun _ _ => rfl) (fun s_ => weirlaw15_onlyN.L1_ok a0 a1 s_)

/-! ### weir/weirlaw15.onlyA: function 55 -/
noncomputable def weirlaw15_onlyA.B : Code := (Try.f55.body).getD .skip
noncomputable def weirlaw15_onlyA.cx : Fx := ⟨Try.prog, 55, Try.f55⟩
noncomputable def weirlaw15_onlyA.out (r_ : Bool) : Value := .bool r_
noncomputable def weirlaw15_onlyA.F0 (r_ : Bool) : Reach := .ret (weirlaw15_onlyA.out r_)
noncomputable def weirlaw15_onlyA.F1 (a0 : Sl) (a1 : Int) : (LS Int Bool) → Reach := loopF [.inLoop (c1 (c1 (c2 (c1 (c2 weirlaw15_onlyA.B))))), .inBlock 0, .code (c2 (c2 weirlaw15_onlyA.B))] (fun s_ : Int => [(0, Sl.v a0), (1, .int .i64 a1), (5, .int .i64 s_)]) (fun s_ : Int => []) weirlaw15_onlyA.F0
noncomputable def weirlaw15_onlyA.L1 (a0 : Sl) (a1 : Int) (s1 : Int) : M (LS Int Bool) :=
  if s1 < (a0.len : Int) then
    idx a0.a a0.len s1 25 >>= fun p6 =>
    ld c_api_Ask p6 >>= fun x7 =>
    if ¬ (x7 = (⟨a1, z_api_Ask.IP, z_api_Ask.Mac, z_api_Ask.Try⟩ : api_Ask)) then
      pure (LS.done false)
    else
      pure (LS.next (IntKind.wrap .i64 (s1 + 1)))
  else
    pure (LS.done true)
theorem weirlaw15_onlyA.L1_ok (a0 : Sl) (a1 : Int) (s1 : Int) :
    SJ weirlaw15_onlyA.cx [.code (c1 (c1 (c2 (c1 (c2 weirlaw15_onlyA.B))))), .inLoop (c1 (c1 (c2 (c1 (c2 weirlaw15_onlyA.B))))), .inBlock 0, .code (c2 (c2 weirlaw15_onlyA.B))] [(0, Sl.v a0), (1, .int .i64 a1), (5, .int .i64 s1)] [] (weirlaw15_onlyA.L1 a0 a1 s1) (weirlaw15_onlyA.F1 a0 a1) := by
  unfold weirlaw15_onlyA.L1
  refine SJ.seq ?_
  refine SJ.sr 4 ?_
  refine OJ.go 4 [(9, .bool (decide (s1 < (a0.len : Int)))), (8, .int .i64 (a0.len : Int)), (7, Sl.v a0), (6, .int .i64 s1)] ?_
  refine OJ.nil ?_
  refine SJ.cond (t := (.tmp 9)) (b := decide (s1 < (a0.len : Int))) decide_eq_true_iff (fun hc9 => ?_) (fun hc9 => ?_)
  · refine SJ.skip ?_
    refine SJ.seq ?_
    refine SJ.block (id := 1) ?_
    refine SJ.sr 7 ?_
    refine OJ.go 2 [(13, .int .i64 s1), (12, Sl.v a0)] ?_
    refine OJ.idxS (d := 14) (T := 50) (y := .tmp 12) (j := .tmp 13) (E := 111) (cap := a0.cap) (k := .i64) (fun p6 => ?_)
    refine OJ.ld (d := 15) (y := .tmp 14) (pend2 := fun x7 => []) Ty111 (fun _ => rfl) (fun x7 => ?_)
    refine OJ.go 1 [(16, .int .i64 a1)] ?_
    refine OJ.build (d := 17) (T := 111) (parts := [(0, .tmp 16)]) (ps := [(0, (cI .i64).val a1)]) (cd := c_api_Ask) (z0 := z_api_Ask) (⟨a1, z_api_Ask.IP, z_api_Ask.Mac, z_api_Ask.Try⟩ : api_Ask) Ty111 rfl (Filled.cons (cd := (cI .i64)) (q := a1) (o := 0) (by kernel_rfl) (Up_api_Ask_Port z_api_Ask a1) Filled.nil) ?_
    refine OJ.neq (d := 18) (T := 111) (yT := 111) (y := .tmp 15) (z := .tmp 17) (cd := c_api_Ask) (p := x7) (q := (⟨a1, z_api_Ask.IP, z_api_Ask.Mac, z_api_Ask.Try⟩ : api_Ask)) rfl Eq111 ?_
    refine OJ.nil ?_
    refine SJ.cond (t := (.tmp 18)) (b := (!eqv x7 (⟨a1, z_api_Ask.IP, z_api_Ask.Mac, z_api_Ask.Try⟩ : api_Ask))) (bnot_iff eqv_iff) (fun hc8 => ?_) (fun hc8 => ?_)
    · refine SJ.sr 1 ?_
      refine OJ.go 1 [(4, .bool false)] ?_
      refine OJ.nil ?_
      exact SJ.ret rfl (Res.run (ys := [.bool false]) (.tmp (by kernel_rfl) .nil) rfl)
    · refine SJ.skip ?_
      refine SJ.inBlock ?_
      refine SJ.rg 3 ?_
      refine OJ.go 3 [(5, .int .i64 (IntKind.wrap .i64 (s1 + 1))), (11, .int .i64 (IntKind.wrap .i64 (s1 + 1))), (10, .int .i64 s1)] ?_
      refine OJ.nil ?_
      exact SJ.at_ [0, 1, 5] rfl
  · refine SJ.exit (id := 0) (by rfl) ?_
    refine SJ.sr 1 ?_
    refine OJ.go 1 [(4, .bool true)] ?_
    refine OJ.nil ?_
    exact SJ.ret rfl (Res.run (ys := [.bool true]) (.tmp (by kernel_rfl) .nil) rfl)
noncomputable def weirlaw15_onlyA (a0 : Sl) (a1 : Int) : M Bool :=
  loopM (fun s_ : Int => weirlaw15_onlyA.L1 a0 a1 s_) 0
theorem weirlaw15_onlyA_ok (a0 : Sl) (a1 : Int) : Ref Try.prog 55 [Sl.v a0, .int .i64 a1] (weirlaw15_onlyA a0 a1) weirlaw15_onlyA.out := by
  refine Ref.of (cd := weirlaw15_onlyA.B) Try.func55 ?_
  show SJ weirlaw15_onlyA.cx [.code weirlaw15_onlyA.B] [(0, Sl.v a0), (1, .int .i64 a1)] [] (weirlaw15_onlyA a0 a1) weirlaw15_onlyA.F0
  unfold weirlaw15_onlyA
  refine SJ.sr 1 ?_
  refine OJ.go 1 [(4, .bool false)] ?_
  refine OJ.nil ?_
  refine SJ.seq ?_
  refine SJ.sr 1 ?_
  refine OJ.go 1 [(5, .int .i64 0)] ?_
  refine OJ.nil ?_
  refine SJ.block (id := 0) ?_
  exact SJ.loop (fun s_ : Int => [(0, Sl.v a0), (1, .int .i64 a1), (5, .int .i64 s_)]) (fun s_ : Int => []) [0, 1, 5] rfl (fun _ _ => rfl) (fun s_ => weirlaw15_onlyA.L1_ok a0 a1 s_)

/-! ### (*weir/weirlaw15.Rows).Settle: function 33 -/
noncomputable def weirlaw15_Rows_Settle.B : Code := (Try.f33.body).getD .skip
noncomputable def weirlaw15_Rows_Settle.cx : Fx := ⟨Try.prog, 33, Try.f33⟩
noncomputable def weirlaw15_Rows_Settle.out (r_ : Bool) : Value := .bool r_
noncomputable def weirlaw15_Rows_Settle.F0 (r_ : Bool) : Reach := .ret (weirlaw15_Rows_Settle.out r_)
noncomputable def weirlaw15_Rows_Settle.F1 (a0 : (Option Addr)) (s81 : Sl) : (LS Int Bool) → Reach := loopF [.inLoop (c1 (c1 (c2 (c1 (c2 (c2 (c2 (c2 (c2 (c2 (c2 (c2 (c2 weirlaw15_Rows_Settle.B))))))))))))), .inBlock 18, .code (c2 (c2 (c2 (c2 (c2 (c2 (c2 (c2 (c2 (c2 weirlaw15_Rows_Settle.B))))))))))] (fun s_ : Int => [(0, .pointer a0), (11, Sl.v s81), (16, .int .i64 s_)]) (fun s_ : Int => []) weirlaw15_Rows_Settle.F0
noncomputable def weirlaw15_Rows_Settle.L1 (a0 : (Option Addr)) (s81 : Sl) (s124 : Int) : M (LS Int Bool) :=
  nilck a0 >>= fun p138 =>
  ld cL (Addr.add p138 2) >>= fun x139 =>
  if s124 < (x139.len : Int) then
    nilck a0 >>= fun p140 =>
    ld cL (Addr.add p140 2) >>= fun x141 =>
    idx x141.a x141.len s124 1 >>= fun p142 =>
    ld cL p142 >>= fun x143 =>
    weirlaw15_onlyA x143 (IntKind.wrap .i64 ((-1000) - s124)) >>= fun r144 =>
    (if ¬ (r144 = true) then
        pure true
      else
        idx s81.a s81.len s124 1 >>= fun p145 =>
        ld cL p145 >>= fun x146 =>
        weirlaw15_onlyA x146 (IntKind.wrap .i64 ((-1000) - s124)) >>= fun r147 =>
        pure (!r147)) >>= fun y148 =>
    if y148 = true then
      pure (LS.done false)
    else
      pure (LS.next (IntKind.wrap .i64 (s124 + 1)))
  else
    pure (LS.done true)
theorem weirlaw15_Rows_Settle.L1_ok (a0 : (Option Addr)) (s81 : Sl) (s124 : Int) :
    SJ weirlaw15_Rows_Settle.cx [.code (c1 (c1 (c2 (c1 (c2 (c2 (c2 (c2 (c2 (c2 (c2 (c2 (c2 weirlaw15_Rows_Settle.B))))))))))))), .inLoop (c1 (c1 (c2 (c1 (c2 (c2 (c2 (c2 (c2 (c2 (c2 (c2 (c2 weirlaw15_Rows_Settle.B))))))))))))), .inBlock 18, .code (c2 (c2 (c2 (c2 (c2 (c2 (c2 (c2 (c2 (c2 weirlaw15_Rows_Settle.B))))))))))] [(0, .pointer a0), (11, Sl.v s81), (16, .int .i64 s124)] [] (weirlaw15_Rows_Settle.L1 a0 s81 s124) (weirlaw15_Rows_Settle.F1 a0 s81) := by
  unfold weirlaw15_Rows_Settle.L1
  refine SJ.seq ?_
  refine SJ.sr 7 ?_
  refine OJ.go 2 [(195, .pointer a0), (194, .int .i64 s124)] ?_
  refine OJ.nilck (d := 196) (y := .tmp 195) (fun p138 => ?_)
  refine OJ.go 1 [(197, .pointer (some (Addr.add p138 2)))] ?_
  refine OJ.ld (d := 198) (y := .tmp 197) (pend2 := fun x139 => []) Ty61 (fun _ => rfl) (fun x139 => ?_)
  refine OJ.go 2 [(200, .bool (decide (s124 < (x139.len : Int)))), (199, .int .i64 (x139.len : Int))] ?_
  refine OJ.nil ?_
  refine SJ.cond (t := (.tmp 200)) (b := decide (s124 < (x139.len : Int))) decide_eq_true_iff (fun hc150 => ?_) (fun hc150 => ?_)
  · refine SJ.skip ?_
    refine SJ.seq ?_
    refine SJ.block (id := 19) ?_
    refine SJ.sr 21 ?_
    refine OJ.go 1 [(203, .pointer a0)] ?_
    refine OJ.nilck (d := 204) (y := .tmp 203) (fun p140 => ?_)
    refine OJ.go 1 [(205, .pointer (some (Addr.add p140 2)))] ?_
    refine OJ.ld (d := 206) (y := .tmp 205) (pend2 := fun x141 => []) Ty61 (fun _ => rfl) (fun x141 => ?_)
    refine OJ.go 1 [(207, .int .i64 s124)] ?_
    refine OJ.idxS (d := 208) (T := 61) (y := .tmp 206) (j := .tmp 207) (E := 50) (cap := x141.cap) (k := .i64) (fun p142 => ?_)
    refine OJ.ld (d := 209) (y := .tmp 208) (pend2 := fun x143 => []) Ty50 (fun _ => rfl) (fun x143 => ?_)
    refine OJ.go 2 [(211, .int .i64 (IntKind.wrap .i64 ((-1000) - s124))), (210, .int .i64 s124)] ?_
    refine OJ.call (d := 212) (g := 55) (ats := #[50, 3]) (args := [.tmp 209, .tmp 211]) (owed := []) F55 (weirlaw15_onlyA_ok x143 (IntKind.wrap .i64 ((-1000) - s124))) (fun r144 => ?_)
    refine OW.nil ?_
    refine OJ.go 2 [(214, .bool (!r144)), (213, .bool (!r144))] ?_
    refine OJ.join (b := (!r144)) [12, 13, 14, 15, 16, 17, 18, 19, 20] [] [0, 11, 16, 223] (fun y148 => [(0, .pointer a0), (11, Sl.v s81), (16, .int .i64 s124), (223, .bool y148)]) [] [] (t := 214) (bnot_iff Iff.rfl) (fun hp_ => ?_) (fun hp_ => ?_) (fun _ _ _ _ _ _ h_ => h_) (fun y148 => ?_)
    · refine OJ.go 9 [(223, .bool true), (222, undef), (221, undef), (220, undef), (219, undef), (218, undef), (217, undef), (216, undef), (215, undef)] ?_
      exact OJ.nil ⟨(Cov.mem Cov.nil), rfl, _, rfl, by kernel_rfl⟩
    · refine OJ.go 2 [(216, .int .i64 s124), (215, Sl.v s81)] ?_
      refine OJ.idxS (d := 217) (T := 61) (y := .tmp 215) (j := .tmp 216) (E := 50) (cap := s81.cap) (k := .i64) (fun p145 => ?_)
      refine OJ.ld (d := 218) (y := .tmp 217) (pend2 := fun x146 => []) Ty50 (fun _ => rfl) (fun x146 => ?_)
      refine OJ.go 2 [(220, .int .i64 (IntKind.wrap .i64 ((-1000) - s124))), (219, .int .i64 s124)] ?_
      refine OJ.call (d := 221) (g := 55) (ats := #[50, 3]) (args := [.tmp 218, .tmp 220]) (owed := []) F55 (weirlaw15_onlyA_ok x146 (IntKind.wrap .i64 ((-1000) - s124))) (fun r147 => ?_)
      refine OW.nil ?_
      refine OJ.go 2 [(223, .bool (!r147)), (222, .bool (!r147))] ?_
      exact OJ.nil ⟨(Cov.mem Cov.nil), rfl, _, rfl, by kernel_rfl⟩
    · refine OJ.nil ?_
      refine SJ.cond (t := (.tmp 223)) (b := y148) Iff.rfl (fun hc149 => ?_) (fun hc149 => ?_)
      · refine SJ.sr 1 ?_
        refine OJ.go 1 [(2, .bool false)] ?_
        refine OJ.nil ?_
        exact SJ.ret rfl (Res.run (ys := [.bool false]) (.tmp (by kernel_rfl) .nil) rfl)
      · refine SJ.skip ?_
        refine SJ.inBlock ?_
        refine SJ.rg 3 ?_
        refine OJ.go 3 [(16, .int .i64 (IntKind.wrap .i64 (s124 + 1))), (202, .int .i64 (IntKind.wrap .i64 (s124 + 1))), (201, .int .i64 s124)] ?_
        refine OJ.nil ?_
        exact SJ.at_ [0, 11, 16] rfl
  · refine SJ.exit (id := 18) (by rfl) ?_
    refine SJ.sr 1 ?_
    refine OJ.go 1 [(2, .bool true)] ?_
    refine OJ.nil ?_
    exact SJ.ret rfl (Res.run (ys := [.bool true]) (.tmp (by kernel_rfl) .nil) rfl)
noncomputable def weirlaw15_Rows_Settle.K1 (a0 : (Option Addr)) (s81 : Sl) : M Bool :=
  loopM (fun s_ : Int => weirlaw15_Rows_Settle.L1 a0 s81 s_) 0
theorem weirlaw15_Rows_Settle.K1_ok (a0 : (Option Addr)) (s81 : Sl) :
    SJ weirlaw15_Rows_Settle.cx [.code (c2 (c2 (c2 (c2 (c2 (c2 (c2 (c2 (c2 weirlaw15_Rows_Settle.B)))))))))] [(0, .pointer a0), (11, Sl.v s81)] [] (weirlaw15_Rows_Settle.K1 a0 s81) weirlaw15_Rows_Settle.F0 := by
  unfold weirlaw15_Rows_Settle.K1
  refine SJ.seq ?_
  refine SJ.sr 1 ?_
  refine OJ.go 1 [(16, .int .i64 0)] ?_
  refine OJ.nil ?_
  refine SJ.block (id := 18) ?_
  exact SJ.loop (fun s_ : Int => [(0, .pointer a0), (11, Sl.v s81), (16, .int .i64 s_)]) (fun s_ : Int => []) [0, 11, 16] rfl (fun _ _ => rfl) (fun s_ => weirlaw15_Rows_Settle.L1_ok a0 s81 s_)
noncomputable def weirlaw15_Rows_Settle.F2 (a0 : (Option Addr)) (s52 : Sl) (s81 : Sl) : (LS Int Bool) → Reach := loopF [.inLoop (c1 (c1 (c2 (c1 (c2 (c2 (c2 (c2 (c2 (c2 (c2 (c2 weirlaw15_Rows_Settle.B)))))))))))), .inBlock 16, .code (c2 (c2 (c2 (c2 (c2 (c2 (c2 (c2 (c2 weirlaw15_Rows_Settle.B)))))))))] (fun s_ : Int => [(0, .pointer a0), (7, Sl.v s52), (11, Sl.v s81), (15, .int .i64 s_)]) (fun s_ : Int => []) weirlaw15_Rows_Settle.F0
noncomputable def weirlaw15_Rows_Settle.L2 (a0 : (Option Addr)) (s52 : Sl) (s81 : Sl) (s110 : Int) : M (LS Int Bool) :=
  nilck a0 >>= fun p151 =>
  ld cL p151 >>= fun x152 =>
  if s110 < (x152.len : Int) then
    nilck a0 >>= fun p153 =>
    ld cL p153 >>= fun x154 =>
    idx x154.a x154.len s110 1 >>= fun p155 =>
    ld cL p155 >>= fun x156 =>
    weirlaw15_onlyN x156 (IntKind.wrap .i64 ((-1000) - s110)) >>= fun r157 =>
    (if ¬ (r157 = true) then
        pure true
      else
        idx s52.a s52.len s110 1 >>= fun p158 =>
        ld cL p158 >>= fun x159 =>
        weirlaw15_onlyN x159 (IntKind.wrap .i64 ((-1000) - s110)) >>= fun r160 =>
        pure (!r160)) >>= fun y161 =>
    if y161 = true then
      pure (LS.done false)
    else
      pure (LS.next (IntKind.wrap .i64 (s110 + 1)))
  else
    (weirlaw15_Rows_Settle.K1 a0 s81) >>= fun b => pure (LS.done b)
theorem weirlaw15_Rows_Settle.L2_ok (a0 : (Option Addr)) (s52 : Sl) (s81 : Sl) (s110 : Int) :
    SJ weirlaw15_Rows_Settle.cx [.code (c1 (c1 (c2 (c1 (c2 (c2 (c2 (c2 (c2 (c2 (c2 (c2 weirlaw15_Rows_Settle.B)))))))))))), .inLoop (c1 (c1 (c2 (c1 (c2 (c2 (c2 (c2 (c2 (c2 (c2 (c2 weirlaw15_Rows_Settle.B)))))))))))), .inBlock 16, .code (c2 (c2 (c2 (c2 (c2 (c2 (c2 (c2 (c2 weirlaw15_Rows_Settle.B)))))))))] [(0, .pointer a0), (7, Sl.v s52), (11, Sl.v s81), (15, .int .i64 s110)] [] (weirlaw15_Rows_Settle.L2 a0 s52 s81 s110) (weirlaw15_Rows_Settle.F2 a0 s52 s81) := by
  unfold weirlaw15_Rows_Settle.L2
  refine SJ.seq ?_
  refine SJ.sr 7 ?_
  refine OJ.go 2 [(165, .pointer a0), (164, .int .i64 s110)] ?_
  refine OJ.nilck (d := 166) (y := .tmp 165) (fun p151 => ?_)
  refine OJ.go 1 [(167, .pointer (some p151))] ?_
  refine OJ.ld (d := 168) (y := .tmp 167) (pend2 := fun x152 => []) Ty60 (fun _ => rfl) (fun x152 => ?_)
  refine OJ.go 2 [(170, .bool (decide (s110 < (x152.len : Int)))), (169, .int .i64 (x152.len : Int))] ?_
  refine OJ.nil ?_
  refine SJ.cond (t := (.tmp 170)) (b := decide (s110 < (x152.len : Int))) decide_eq_true_iff (fun hc163 => ?_) (fun hc163 => ?_)
  · refine SJ.skip ?_
    refine SJ.seq ?_
    refine SJ.block (id := 17) ?_
    refine SJ.sr 21 ?_
    refine OJ.go 1 [(173, .pointer a0)] ?_
    refine OJ.nilck (d := 174) (y := .tmp 173) (fun p153 => ?_)
    refine OJ.go 1 [(175, .pointer (some p153))] ?_
    refine OJ.ld (d := 176) (y := .tmp 175) (pend2 := fun x154 => []) Ty60 (fun _ => rfl) (fun x154 => ?_)
    refine OJ.go 1 [(177, .int .i64 s110)] ?_
    refine OJ.idxS (d := 178) (T := 60) (y := .tmp 176) (j := .tmp 177) (E := 68) (cap := x154.cap) (k := .i64) (fun p155 => ?_)
    refine OJ.ld (d := 179) (y := .tmp 178) (pend2 := fun x156 => []) Ty68 (fun _ => rfl) (fun x156 => ?_)
    refine OJ.go 2 [(181, .int .i64 (IntKind.wrap .i64 ((-1000) - s110))), (180, .int .i64 s110)] ?_
    refine OJ.call (d := 182) (g := 54) (ats := #[68, 3]) (args := [.tmp 179, .tmp 181]) (owed := []) F54 (weirlaw15_onlyN_ok x156 (IntKind.wrap .i64 ((-1000) - s110))) (fun r157 => ?_)
    refine OW.nil ?_
    refine OJ.go 2 [(184, .bool (!r157)), (183, .bool (!r157))] ?_
    refine OJ.join (b := (!r157)) [12, 13, 14, 15, 16, 17, 18, 19, 20] [] [0, 7, 11, 15, 193] (fun y161 => [(0, .pointer a0), (7, Sl.v s52), (11, Sl.v s81), (15, .int .i64 s110), (193, .bool y161)]) [] [] (t := 184) (bnot_iff Iff.rfl) (fun hp_ => ?_) (fun hp_ => ?_) (fun _ _ _ _ _ _ h_ => h_) (fun y161 => ?_)
    · refine OJ.go 9 [(193, .bool true), (192, undef), (191, undef), (190, undef), (189, undef), (188, undef), (187, undef), (186, undef), (185, undef)] ?_
      exact OJ.nil ⟨(Cov.mem Cov.nil), rfl, _, rfl, by kernel_rfl⟩
    · refine OJ.go 2 [(186, .int .i64 s110), (185, Sl.v s52)] ?_
      refine OJ.idxS (d := 187) (T := 60) (y := .tmp 185) (j := .tmp 186) (E := 68) (cap := s52.cap) (k := .i64) (fun p158 => ?_)
      refine OJ.ld (d := 188) (y := .tmp 187) (pend2 := fun x159 => []) Ty68 (fun _ => rfl) (fun x159 => ?_)
      refine OJ.go 2 [(190, .int .i64 (IntKind.wrap .i64 ((-1000) - s110))), (189, .int .i64 s110)] ?_
      refine OJ.call (d := 191) (g := 54) (ats := #[68, 3]) (args := [.tmp 188, .tmp 190]) (owed := []) F54 (weirlaw15_onlyN_ok x159 (IntKind.wrap .i64 ((-1000) - s110))) (fun r160 => ?_)
      refine OW.nil ?_
      refine OJ.go 2 [(193, .bool (!r160)), (192, .bool (!r160))] ?_
      exact OJ.nil ⟨(Cov.mem Cov.nil), rfl, _, rfl, by kernel_rfl⟩
    · refine OJ.nil ?_
      refine SJ.cond (t := (.tmp 193)) (b := y161) Iff.rfl (fun hc162 => ?_) (fun hc162 => ?_)
      · refine SJ.sr 1 ?_
        refine OJ.go 1 [(2, .bool false)] ?_
        refine OJ.nil ?_
        exact SJ.ret rfl (Res.run (ys := [.bool false]) (.tmp (by kernel_rfl) .nil) rfl)
      · refine SJ.skip ?_
        refine SJ.inBlock ?_
        refine SJ.rg 3 ?_
        refine OJ.go 3 [(15, .int .i64 (IntKind.wrap .i64 (s110 + 1))), (172, .int .i64 (IntKind.wrap .i64 (s110 + 1))), (171, .int .i64 s110)] ?_
        refine OJ.nil ?_
        exact SJ.at_ [0, 7, 11, 15] rfl
  · refine SJ.exit (id := 16) (by rfl) ?_
    refine SJ.less [0, 11] (m' := [(0, .pointer a0), (11, Sl.v s81)]) ?_
    refine SJ.done ?_
    exact weirlaw15_Rows_Settle.K1_ok a0 s81
noncomputable def weirlaw15_Rows_Settle.K2 (a0 : (Option Addr)) (s52 : Sl) (s81 : Sl) : M Bool :=
  loopM (fun s_ : Int => weirlaw15_Rows_Settle.L2 a0 s52 s81 s_) 0
theorem weirlaw15_Rows_Settle.K2_ok (a0 : (Option Addr)) (s52 : Sl) (s81 : Sl) :
    SJ weirlaw15_Rows_Settle.cx [.code (c2 (c2 (c2 (c2 (c2 (c2 (c2 (c2 weirlaw15_Rows_Settle.B))))))))] [(0, .pointer a0), (7, Sl.v s52), (11, Sl.v s81)] [] (weirlaw15_Rows_Settle.K2 a0 s52 s81) weirlaw15_Rows_Settle.F0 := by
  unfold weirlaw15_Rows_Settle.K2
  refine SJ.seq ?_
  refine SJ.sr 1 ?_
  refine OJ.go 1 [(15, .int .i64 0)] ?_
  refine OJ.nil ?_
  refine SJ.block (id := 16) ?_
  exact SJ.loop (fun s_ : Int => [(0, .pointer a0), (7, Sl.v s52), (11, Sl.v s81), (15, .int .i64 s_)]) (fun s_ : Int => []) [0, 7, 11, 15] rfl (fun _ _ => rfl) (fun s_ => weirlaw15_Rows_Settle.L2_ok a0 s52 s81 s_)
noncomputable def weirlaw15_Rows_Settle.F3 (a0 : (Option Addr)) (s52 : Sl) : (LS (Sl × Int) Bool) → Reach := loopF [.inLoop (c1 (c1 (c2 (c1 (c2 (c2 (c2 (c2 (c2 (c2 (c2 weirlaw15_Rows_Settle.B))))))))))), .inBlock 12, .code (c2 (c2 (c2 (c2 (c2 (c2 (c2 (c2 weirlaw15_Rows_Settle.B))))))))] (fun s_ : (Sl × Int) => [(0, .pointer a0), (7, Sl.v s52), (11, Sl.v s_.1), (12, .int .i64 s_.2)]) (fun s_ : (Sl × Int) => []) weirlaw15_Rows_Settle.F0
noncomputable def weirlaw15_Rows_Settle.F4 (a0 : (Option Addr)) (s52 : Sl) (s81 : Sl) (s82 : Int) : (LS (Sl × Int) (LS (Sl × Int) Bool)) → Reach := loopF [.inLoop (c1 (c1 (c2 (c1 (c2 (c1 (c1 (c2 (c1 (c1 (c2 (c1 (c2 (c2 (c2 (c2 (c2 (c2 (c2 weirlaw15_Rows_Settle.B))))))))))))))))))), .inBlock 14, .code (c2 (c2 (c1 (c1 (c2 (c1 (c1 (c2 (c1 (c2 (c2 (c2 (c2 (c2 (c2 (c2 weirlaw15_Rows_Settle.B)))))))))))))))), .inBlock 13, .code (c2 (c2 (c1 (c1 (c2 (c1 (c2 (c2 (c2 (c2 (c2 (c2 (c2 weirlaw15_Rows_Settle.B))))))))))))), .inLoop (c1 (c1 (c2 (c1 (c2 (c2 (c2 (c2 (c2 (c2 (c2 weirlaw15_Rows_Settle.B))))))))))), .inBlock 12, .code (c2 (c2 (c2 (c2 (c2 (c2 (c2 (c2 weirlaw15_Rows_Settle.B))))))))] (fun s_ : (Sl × Int) => [(0, .pointer a0), (7, Sl.v s52), (11, Sl.v s81), (12, .int .i64 s82), (13, Sl.v s_.1), (14, .int .i64 s_.2)]) (fun s_ : (Sl × Int) => []) (weirlaw15_Rows_Settle.F3 a0 s52)
noncomputable def weirlaw15_Rows_Settle.L4 (a0 : (Option Addr)) (s81 : Sl) (s82 : Int) (s170 : Sl) (s171 : Int) : M (LS (Sl × Int) (LS (Sl × Int) Bool)) :=
  nilck a0 >>= fun p179 =>
  ld cL (Addr.add p179 2) >>= fun x180 =>
  idx x180.a x180.len s82 1 >>= fun p181 =>
  ld cL p181 >>= fun x182 =>
  if s171 < (IntKind.wrap .i64 ((x182.len : Int) + 20)) then
    slot 111 >>= fun b185 =>
    appl c_api_Ask 111 48 z_api_Ask s170 [(⟨IntKind.wrap .i64 ((-1000) - s82), z_api_Ask.IP, z_api_Ask.Mac, z_api_Ask.Try⟩ : api_Ask)] >>= fun r186 =>
    pure (LS.next (r186, IntKind.wrap .i64 (s171 + 1)))
  else
    slot 50 >>= fun b187 =>
    appl cL 50 24 Sl.nil s81 [s170] >>= fun r188 =>
    pure (LS.done (LS.next (r188, IntKind.wrap .i64 (s82 + 1))))
theorem weirlaw15_Rows_Settle.L4_ok (a0 : (Option Addr)) (s52 : Sl) (s81 : Sl) (s82 : Int) (s170 : Sl) (s171 : Int) :
    SJ weirlaw15_Rows_Settle.cx [.code (c1 (c1 (c2 (c1 (c2 (c1 (c1 (c2 (c1 (c1 (c2 (c1 (c2 (c2 (c2 (c2 (c2 (c2 (c2 weirlaw15_Rows_Settle.B))))))))))))))))))), .inLoop (c1 (c1 (c2 (c1 (c2 (c1 (c1 (c2 (c1 (c1 (c2 (c1 (c2 (c2 (c2 (c2 (c2 (c2 (c2 weirlaw15_Rows_Settle.B))))))))))))))))))), .inBlock 14, .code (c2 (c2 (c1 (c1 (c2 (c1 (c1 (c2 (c1 (c2 (c2 (c2 (c2 (c2 (c2 (c2 weirlaw15_Rows_Settle.B)))))))))))))))), .inBlock 13, .code (c2 (c2 (c1 (c1 (c2 (c1 (c2 (c2 (c2 (c2 (c2 (c2 (c2 weirlaw15_Rows_Settle.B))))))))))))), .inLoop (c1 (c1 (c2 (c1 (c2 (c2 (c2 (c2 (c2 (c2 (c2 weirlaw15_Rows_Settle.B))))))))))), .inBlock 12, .code (c2 (c2 (c2 (c2 (c2 (c2 (c2 (c2 weirlaw15_Rows_Settle.B))))))))] [(0, .pointer a0), (7, Sl.v s52), (11, Sl.v s81), (12, .int .i64 s82), (13, Sl.v s170), (14, .int .i64 s171)] [] (weirlaw15_Rows_Settle.L4 a0 s81 s82 s170 s171) (weirlaw15_Rows_Settle.F4 a0 s52 s81 s82) := by
  unfold weirlaw15_Rows_Settle.L4
  refine SJ.seq ?_
  refine SJ.sr 11 ?_
  refine OJ.go 2 [(142, .pointer a0), (141, .int .i64 s171)] ?_
  refine OJ.nilck (d := 143) (y := .tmp 142) (fun p179 => ?_)
  refine OJ.go 1 [(144, .pointer (some (Addr.add p179 2)))] ?_
  refine OJ.ld (d := 145) (y := .tmp 144) (pend2 := fun x180 => []) Ty61 (fun _ => rfl) (fun x180 => ?_)
  refine OJ.go 1 [(146, .int .i64 s82)] ?_
  refine OJ.idxS (d := 147) (T := 61) (y := .tmp 145) (j := .tmp 146) (E := 50) (cap := x180.cap) (k := .i64) (fun p181 => ?_)
  refine OJ.ld (d := 148) (y := .tmp 147) (pend2 := fun x182 => []) Ty50 (fun _ => rfl) (fun x182 => ?_)
  refine OJ.go 3 [(151, .bool (decide (s171 < (IntKind.wrap .i64 ((x182.len : Int) + 20))))), (150, .int .i64 (IntKind.wrap .i64 ((x182.len : Int) + 20))), (149, .int .i64 (x182.len : Int))] ?_
  refine OJ.nil ?_
  refine SJ.cond (t := (.tmp 151)) (b := decide (s171 < (IntKind.wrap .i64 ((x182.len : Int) + 20)))) decide_eq_true_iff (fun hc189 => ?_) (fun hc189 => ?_)
  · refine SJ.skip ?_
    refine SJ.seq ?_
    refine SJ.block (id := 15) ?_
    refine SJ.rg 7 ?_
    refine OJ.go 3 [(156, .int .i64 (IntKind.wrap .i64 ((-1000) - s82))), (155, .int .i64 s82), (154, Sl.v s170)] ?_
    refine OJ.build (d := 157) (T := 111) (parts := [(0, .tmp 156)]) (ps := [(0, (cI .i64).val (IntKind.wrap .i64 ((-1000) - s82)))]) (cd := c_api_Ask) (z0 := z_api_Ask) (⟨IntKind.wrap .i64 ((-1000) - s82), z_api_Ask.IP, z_api_Ask.Mac, z_api_Ask.Try⟩ : api_Ask) Ty111 rfl (Filled.cons (cd := (cI .i64)) (q := (IntKind.wrap .i64 ((-1000) - s82))) (o := 0) (by kernel_rfl) (Up_api_Ask_Port z_api_Ask (IntKind.wrap .i64 ((-1000) - s82))) Filled.nil) ?_
    refine OJ.rowSlot (d := 158) (t := 50) (parts := [(0, .tmp 157)]) (ps := [(0, c_api_Ask.val (⟨IntKind.wrap .i64 ((-1000) - s82), z_api_Ask.IP, z_api_Ask.Mac, z_api_Ask.Try⟩ : api_Ask))]) (cd := c_api_Ask) (⟨[(⟨IntKind.wrap .i64 ((-1000) - s82), z_api_Ask.IP, z_api_Ask.Mac, z_api_Ask.Try⟩ : api_Ask)], rfl⟩ : Vec api_Ask 1) (owed := []) Ty111 (Filled.cons (cd := c_api_Ask) (q := (⟨IntKind.wrap .i64 ((-1000) - s82), z_api_Ask.IP, z_api_Ask.Mac, z_api_Ask.Try⟩ : api_Ask)) (o := 0) rfl (Upd.arr (i := 0) (by decide) (by decide)) Filled.nil) (fun b185 => ?_)
    refine OW.nil ?_
    refine OJ.appl (d := 159) (t := 50) (u := 50) (so := .tmp 154) (xo := .tmp 158) (j := 0) (b := b185) (l := (c_api_Ask.arr 1).enc (⟨[(⟨IntKind.wrap .i64 ((-1000) - s82), z_api_Ask.IP, z_api_Ask.Mac, z_api_Ask.Try⟩ : api_Ask)], rfl⟩ : Vec api_Ask 1)) (n := 1) (k := 1) [(⟨IntKind.wrap .i64 ((-1000) - s82), z_api_Ask.IP, z_api_Ask.Mac, z_api_Ask.Try⟩ : api_Ask)] (owed := []) Ty111 (by rfl) (Cod.arr_enc _ _ _) (by rfl) (fun r186 => ?_)
    refine OW.nil ?_
    refine OJ.go 1 [(13, Sl.v r186)] ?_
    refine OJ.nil ?_
    refine SJ.inBlock ?_
    refine SJ.rg 3 ?_
    refine OJ.go 3 [(14, .int .i64 (IntKind.wrap .i64 (s171 + 1))), (153, .int .i64 (IntKind.wrap .i64 (s171 + 1))), (152, .int .i64 s171)] ?_
    refine OJ.nil ?_
    refine SJ.forget (List.Sublist.cons _ List.Sublist.slnil) ?_
    exact SJ.at_ [0, 7, 11, 12, 13, 14] rfl
  · refine SJ.exit (id := 14) (by rfl) ?_
    refine SJ.rg 5 ?_
    refine OJ.go 2 [(161, Sl.v s170), (160, Sl.v s81)] ?_
    refine OJ.rowSlot (d := 162) (t := 61) (parts := [(0, .tmp 161)]) (ps := [(0, cL.val s170)]) (cd := cL) (⟨[s170], rfl⟩ : Vec Sl 1) (owed := []) Ty50 (Filled.cons (cd := cL) (q := s170) (o := 0) rfl (Upd.arr (i := 0) (by decide) (by decide)) Filled.nil) (fun b187 => ?_)
    refine OW.nil ?_
    refine OJ.appl (d := 163) (t := 61) (u := 61) (so := .tmp 160) (xo := .tmp 162) (j := 0) (b := b187) (l := (cL.arr 1).enc (⟨[s170], rfl⟩ : Vec Sl 1)) (n := 1) (k := 1) [s170] (owed := []) Ty50 (by rfl) (Cod.arr_enc _ _ _) (by rfl) (fun r188 => ?_)
    refine OW.nil ?_
    refine OJ.go 1 [(11, Sl.v r188)] ?_
    refine OJ.nil ?_
    refine SJ.inBlock ?_
    refine SJ.rg 3 ?_
    refine OJ.go 3 [(12, .int .i64 (IntKind.wrap .i64 (s82 + 1))), (133, .int .i64 (IntKind.wrap .i64 (s82 + 1))), (132, .int .i64 s82)] ?_
    refine OJ.nil ?_
    refine SJ.forget (List.Sublist.cons _ List.Sublist.slnil) ?_
    exact SJ.at_ [0, 7, 11, 12] rfl
noncomputable def weirlaw15_Rows_Settle.L3 (a0 : (Option Addr)) (s52 : Sl) (s81 : Sl) (s82 : Int) : M (LS (Sl × Int) Bool) :=
  nilck a0 >>= fun p164 =>
  ld cL (Addr.add p164 2) >>= fun x165 =>
  if s82 < (x165.len : Int) then
    nilck a0 >>= fun p166 =>
    ld cL (Addr.add p166 2) >>= fun x167 =>
    idx x167.a x167.len s82 1 >>= fun p168 =>
    ld cL p168 >>= fun x169 =>
    loopM (fun s_ : (Sl × Int) => weirlaw15_Rows_Settle.L4 a0 s81 s82 s_.1 s_.2) (x169, 0)
  else
    (weirlaw15_Rows_Settle.K2 a0 s52 s81) >>= fun b => pure (LS.done b)
theorem weirlaw15_Rows_Settle.L3_ok (a0 : (Option Addr)) (s52 : Sl) (s81 : Sl) (s82 : Int) :
    SJ weirlaw15_Rows_Settle.cx [.code (c1 (c1 (c2 (c1 (c2 (c2 (c2 (c2 (c2 (c2 (c2 weirlaw15_Rows_Settle.B))))))))))), .inLoop (c1 (c1 (c2 (c1 (c2 (c2 (c2 (c2 (c2 (c2 (c2 weirlaw15_Rows_Settle.B))))))))))), .inBlock 12, .code (c2 (c2 (c2 (c2 (c2 (c2 (c2 (c2 weirlaw15_Rows_Settle.B))))))))] [(0, .pointer a0), (7, Sl.v s52), (11, Sl.v s81), (12, .int .i64 s82)] [] (weirlaw15_Rows_Settle.L3 a0 s52 s81 s82) (weirlaw15_Rows_Settle.F3 a0 s52) := by
  unfold weirlaw15_Rows_Settle.L3
  refine SJ.seq ?_
  refine SJ.sr 7 ?_
  refine OJ.go 2 [(126, .pointer a0), (125, .int .i64 s82)] ?_
  refine OJ.nilck (d := 127) (y := .tmp 126) (fun p164 => ?_)
  refine OJ.go 1 [(128, .pointer (some (Addr.add p164 2)))] ?_
  refine OJ.ld (d := 129) (y := .tmp 128) (pend2 := fun x165 => []) Ty61 (fun _ => rfl) (fun x165 => ?_)
  refine OJ.go 2 [(131, .bool (decide (s82 < (x165.len : Int)))), (130, .int .i64 (x165.len : Int))] ?_
  refine OJ.nil ?_
  refine SJ.cond (t := (.tmp 131)) (b := decide (s82 < (x165.len : Int))) decide_eq_true_iff (fun hc190 => ?_) (fun hc190 => ?_)
  · refine SJ.skip ?_
    refine SJ.seq ?_
    refine SJ.block (id := 13) ?_
    refine SJ.sr 8 ?_
    refine OJ.go 1 [(134, .pointer a0)] ?_
    refine OJ.nilck (d := 135) (y := .tmp 134) (fun p166 => ?_)
    refine OJ.go 1 [(136, .pointer (some (Addr.add p166 2)))] ?_
    refine OJ.ld (d := 137) (y := .tmp 136) (pend2 := fun x167 => []) Ty61 (fun _ => rfl) (fun x167 => ?_)
    refine OJ.go 1 [(138, .int .i64 s82)] ?_
    refine OJ.idxS (d := 139) (T := 61) (y := .tmp 137) (j := .tmp 138) (E := 50) (cap := x167.cap) (k := .i64) (fun p168 => ?_)
    refine OJ.ld (d := 140) (y := .tmp 139) (pend2 := fun x169 => []) Ty50 (fun _ => rfl) (fun x169 => ?_)
    refine OJ.go 1 [(13, Sl.v x169)] ?_
    refine OJ.nil ?_
    refine SJ.seq ?_
    refine SJ.sr 1 ?_
    refine OJ.go 1 [(14, .int .i64 0)] ?_
    refine OJ.nil ?_
    refine SJ.block (id := 14) ?_
    exact SJ.loop (fun s_ : (Sl × Int) => [(0, .pointer a0), (7, Sl.v s52), (11, Sl.v s81), (12, .int .i64 s82), (13, Sl.v s_.1), (14, .int .i64 s_.2)]) (fun s_ : (Sl × Int) => []) [0, 7, 11, 12, 13, 14] rfl (fun _ _ => rfl) (fun s_ => weirlaw15_Rows_Settle.L4_ok a0 s52 s81 s82 s_.1 s_.2)
  · refine SJ.exit (id := 12) (by rfl) ?_
    refine SJ.less [0, 7, 11] (m' := [(0, .pointer a0), (7, Sl.v s52), (11, Sl.v s81)]) ?_
    refine SJ.done ?_
    exact weirlaw15_Rows_Settle.K2_ok a0 s52 s81
noncomputable def weirlaw15_Rows_Settle.K3 (a0 : (Option Addr)) (s52 : Sl) : M Bool :=
  loopM (fun s_ : (Sl × Int) => weirlaw15_Rows_Settle.L3 a0 s52 s_.1 s_.2) (Sl.nil, 0)
theorem weirlaw15_Rows_Settle.K3_ok (a0 : (Option Addr)) (s52 : Sl) :
    SJ weirlaw15_Rows_Settle.cx [.code (c2 (c2 (c2 (c2 (c2 (c2 weirlaw15_Rows_Settle.B))))))] [(0, .pointer a0), (7, Sl.v s52)] [] (weirlaw15_Rows_Settle.K3 a0 s52) weirlaw15_Rows_Settle.F0 := by
  unfold weirlaw15_Rows_Settle.K3
  refine SJ.sr 1 ?_
  refine OJ.go 1 [(11, Sl.v Sl.nil)] ?_
  refine OJ.nil ?_
  refine SJ.seq ?_
  refine SJ.sr 1 ?_
  refine OJ.go 1 [(12, .int .i64 0)] ?_
  refine OJ.nil ?_
  refine SJ.block (id := 12) ?_
  exact SJ.loop (fun s_ : (Sl × Int) => [(0, .pointer a0), (7, Sl.v s52), (11, Sl.v s_.1), (12, .int .i64 s_.2)]) (fun s_ : (Sl × Int) => []) [0, 7, 11, 12] rfl (fun _ _ => rfl) (fun s_ => weirlaw15_Rows_Settle.L3_ok a0 s52 s_.1 s_.2)
noncomputable def weirlaw15_Rows_Settle.F5 (a0 : (Option Addr)) : (LS (Sl × Int) Bool) → Reach := loopF [.inLoop (c1 (c1 (c2 (c1 (c2 (c2 (c2 (c2 (c2 weirlaw15_Rows_Settle.B))))))))), .inBlock 8, .code (c2 (c2 (c2 (c2 (c2 (c2 weirlaw15_Rows_Settle.B))))))] (fun s_ : (Sl × Int) => [(0, .pointer a0), (7, Sl.v s_.1), (8, .int .i64 s_.2)]) (fun s_ : (Sl × Int) => []) weirlaw15_Rows_Settle.F0
noncomputable def weirlaw15_Rows_Settle.F6 (a0 : (Option Addr)) (s52 : Sl) (s53 : Int) : (LS (Sl × Int) (LS (Sl × Int) Bool)) → Reach := loopF [.inLoop (c1 (c1 (c2 (c1 (c2 (c1 (c1 (c2 (c1 (c1 (c2 (c1 (c2 (c2 (c2 (c2 (c2 weirlaw15_Rows_Settle.B))))))))))))))))), .inBlock 10, .code (c2 (c2 (c1 (c1 (c2 (c1 (c1 (c2 (c1 (c2 (c2 (c2 (c2 (c2 weirlaw15_Rows_Settle.B)))))))))))))), .inBlock 9, .code (c2 (c2 (c1 (c1 (c2 (c1 (c2 (c2 (c2 (c2 (c2 weirlaw15_Rows_Settle.B))))))))))), .inLoop (c1 (c1 (c2 (c1 (c2 (c2 (c2 (c2 (c2 weirlaw15_Rows_Settle.B))))))))), .inBlock 8, .code (c2 (c2 (c2 (c2 (c2 (c2 weirlaw15_Rows_Settle.B))))))] (fun s_ : (Sl × Int) => [(0, .pointer a0), (7, Sl.v s52), (8, .int .i64 s53), (9, Sl.v s_.1), (10, .int .i64 s_.2)]) (fun s_ : (Sl × Int) => []) (weirlaw15_Rows_Settle.F5 a0)
noncomputable def weirlaw15_Rows_Settle.L6 (a0 : (Option Addr)) (s52 : Sl) (s53 : Int) (s197 : Sl) (s198 : Int) : M (LS (Sl × Int) (LS (Sl × Int) Bool)) :=
  nilck a0 >>= fun p206 =>
  ld cL p206 >>= fun x207 =>
  idx x207.a x207.len s53 1 >>= fun p208 =>
  ld cL p208 >>= fun x209 =>
  if s198 < (IntKind.wrap .i64 ((x209.len : Int) + 20)) then
    slot 77 >>= fun b212 =>
    appl c_api_Neighbour 77 72 z_api_Neighbour s197 [(⟨IntKind.wrap .i64 ((-1000) - s53), z_api_Neighbour.IP, z_api_Neighbour.Mac, z_api_Neighbour.State, z_api_Neighbour.Age, z_api_Neighbour.Tries, z_api_Neighbour.Waiting⟩ : api_Neighbour)] >>= fun r213 =>
    pure (LS.next (r213, IntKind.wrap .i64 (s198 + 1)))
  else
    slot 68 >>= fun b214 =>
    appl cL 68 24 Sl.nil s52 [s197] >>= fun r215 =>
    pure (LS.done (LS.next (r215, IntKind.wrap .i64 (s53 + 1))))
theorem weirlaw15_Rows_Settle.L6_ok (a0 : (Option Addr)) (s52 : Sl) (s53 : Int) (s197 : Sl) (s198 : Int) :
    SJ weirlaw15_Rows_Settle.cx [.code (c1 (c1 (c2 (c1 (c2 (c1 (c1 (c2 (c1 (c1 (c2 (c1 (c2 (c2 (c2 (c2 (c2 weirlaw15_Rows_Settle.B))))))))))))))))), .inLoop (c1 (c1 (c2 (c1 (c2 (c1 (c1 (c2 (c1 (c1 (c2 (c1 (c2 (c2 (c2 (c2 (c2 weirlaw15_Rows_Settle.B))))))))))))))))), .inBlock 10, .code (c2 (c2 (c1 (c1 (c2 (c1 (c1 (c2 (c1 (c2 (c2 (c2 (c2 (c2 weirlaw15_Rows_Settle.B)))))))))))))), .inBlock 9, .code (c2 (c2 (c1 (c1 (c2 (c1 (c2 (c2 (c2 (c2 (c2 weirlaw15_Rows_Settle.B))))))))))), .inLoop (c1 (c1 (c2 (c1 (c2 (c2 (c2 (c2 (c2 weirlaw15_Rows_Settle.B))))))))), .inBlock 8, .code (c2 (c2 (c2 (c2 (c2 (c2 weirlaw15_Rows_Settle.B))))))] [(0, .pointer a0), (7, Sl.v s52), (8, .int .i64 s53), (9, Sl.v s197), (10, .int .i64 s198)] [] (weirlaw15_Rows_Settle.L6 a0 s52 s53 s197 s198) (weirlaw15_Rows_Settle.F6 a0 s52 s53) := by
  unfold weirlaw15_Rows_Settle.L6
  refine SJ.seq ?_
  refine SJ.sr 11 ?_
  refine OJ.go 2 [(103, .pointer a0), (102, .int .i64 s198)] ?_
  refine OJ.nilck (d := 104) (y := .tmp 103) (fun p206 => ?_)
  refine OJ.go 1 [(105, .pointer (some p206))] ?_
  refine OJ.ld (d := 106) (y := .tmp 105) (pend2 := fun x207 => []) Ty60 (fun _ => rfl) (fun x207 => ?_)
  refine OJ.go 1 [(107, .int .i64 s53)] ?_
  refine OJ.idxS (d := 108) (T := 60) (y := .tmp 106) (j := .tmp 107) (E := 68) (cap := x207.cap) (k := .i64) (fun p208 => ?_)
  refine OJ.ld (d := 109) (y := .tmp 108) (pend2 := fun x209 => []) Ty68 (fun _ => rfl) (fun x209 => ?_)
  refine OJ.go 3 [(112, .bool (decide (s198 < (IntKind.wrap .i64 ((x209.len : Int) + 20))))), (111, .int .i64 (IntKind.wrap .i64 ((x209.len : Int) + 20))), (110, .int .i64 (x209.len : Int))] ?_
  refine OJ.nil ?_
  refine SJ.cond (t := (.tmp 112)) (b := decide (s198 < (IntKind.wrap .i64 ((x209.len : Int) + 20)))) decide_eq_true_iff (fun hc216 => ?_) (fun hc216 => ?_)
  · refine SJ.skip ?_
    refine SJ.seq ?_
    refine SJ.block (id := 11) ?_
    refine SJ.rg 7 ?_
    refine OJ.go 3 [(117, .int .i64 (IntKind.wrap .i64 ((-1000) - s53))), (116, .int .i64 s53), (115, Sl.v s197)] ?_
    refine OJ.build (d := 118) (T := 77) (parts := [(0, .tmp 117)]) (ps := [(0, (cI .i64).val (IntKind.wrap .i64 ((-1000) - s53)))]) (cd := c_api_Neighbour) (z0 := z_api_Neighbour) (⟨IntKind.wrap .i64 ((-1000) - s53), z_api_Neighbour.IP, z_api_Neighbour.Mac, z_api_Neighbour.State, z_api_Neighbour.Age, z_api_Neighbour.Tries, z_api_Neighbour.Waiting⟩ : api_Neighbour) Ty77 rfl (Filled.cons (cd := (cI .i64)) (q := (IntKind.wrap .i64 ((-1000) - s53))) (o := 0) (by kernel_rfl) (Up_api_Neighbour_Port z_api_Neighbour (IntKind.wrap .i64 ((-1000) - s53))) Filled.nil) ?_
    refine OJ.rowSlot (d := 119) (t := 68) (parts := [(0, .tmp 118)]) (ps := [(0, c_api_Neighbour.val (⟨IntKind.wrap .i64 ((-1000) - s53), z_api_Neighbour.IP, z_api_Neighbour.Mac, z_api_Neighbour.State, z_api_Neighbour.Age, z_api_Neighbour.Tries, z_api_Neighbour.Waiting⟩ : api_Neighbour))]) (cd := c_api_Neighbour) (⟨[(⟨IntKind.wrap .i64 ((-1000) - s53), z_api_Neighbour.IP, z_api_Neighbour.Mac, z_api_Neighbour.State, z_api_Neighbour.Age, z_api_Neighbour.Tries, z_api_Neighbour.Waiting⟩ : api_Neighbour)], rfl⟩ : Vec api_Neighbour 1) (owed := []) Ty77 (Filled.cons (cd := c_api_Neighbour) (q := (⟨IntKind.wrap .i64 ((-1000) - s53), z_api_Neighbour.IP, z_api_Neighbour.Mac, z_api_Neighbour.State, z_api_Neighbour.Age, z_api_Neighbour.Tries, z_api_Neighbour.Waiting⟩ : api_Neighbour)) (o := 0) rfl (Upd.arr (i := 0) (by decide) (by decide)) Filled.nil) (fun b212 => ?_)
    refine OW.nil ?_
    refine OJ.appl (d := 120) (t := 68) (u := 68) (so := .tmp 115) (xo := .tmp 119) (j := 0) (b := b212) (l := (c_api_Neighbour.arr 1).enc (⟨[(⟨IntKind.wrap .i64 ((-1000) - s53), z_api_Neighbour.IP, z_api_Neighbour.Mac, z_api_Neighbour.State, z_api_Neighbour.Age, z_api_Neighbour.Tries, z_api_Neighbour.Waiting⟩ : api_Neighbour)], rfl⟩ : Vec api_Neighbour 1)) (n := 1) (k := 1) [(⟨IntKind.wrap .i64 ((-1000) - s53), z_api_Neighbour.IP, z_api_Neighbour.Mac, z_api_Neighbour.State, z_api_Neighbour.Age, z_api_Neighbour.Tries, z_api_Neighbour.Waiting⟩ : api_Neighbour)] (owed := []) Ty77 (by rfl) (Cod.arr_enc _ _ _) (by rfl) (fun r213 => ?_)
    refine OW.nil ?_
    refine OJ.go 1 [(9, Sl.v r213)] ?_
    refine OJ.nil ?_
    refine SJ.inBlock ?_
    refine SJ.rg 3 ?_
    refine OJ.go 3 [(10, .int .i64 (IntKind.wrap .i64 (s198 + 1))), (114, .int .i64 (IntKind.wrap .i64 (s198 + 1))), (113, .int .i64 s198)] ?_
    refine OJ.nil ?_
    refine SJ.forget (List.Sublist.cons _ List.Sublist.slnil) ?_
    exact SJ.at_ [0, 7, 8, 9, 10] rfl
  · refine SJ.exit (id := 10) (by rfl) ?_
    refine SJ.rg 5 ?_
    refine OJ.go 2 [(122, Sl.v s197), (121, Sl.v s52)] ?_
    refine OJ.rowSlot (d := 123) (t := 60) (parts := [(0, .tmp 122)]) (ps := [(0, cL.val s197)]) (cd := cL) (⟨[s197], rfl⟩ : Vec Sl 1) (owed := []) Ty68 (Filled.cons (cd := cL) (q := s197) (o := 0) rfl (Upd.arr (i := 0) (by decide) (by decide)) Filled.nil) (fun b214 => ?_)
    refine OW.nil ?_
    refine OJ.appl (d := 124) (t := 60) (u := 60) (so := .tmp 121) (xo := .tmp 123) (j := 0) (b := b214) (l := (cL.arr 1).enc (⟨[s197], rfl⟩ : Vec Sl 1)) (n := 1) (k := 1) [s197] (owed := []) Ty68 (by rfl) (Cod.arr_enc _ _ _) (by rfl) (fun r215 => ?_)
    refine OW.nil ?_
    refine OJ.go 1 [(7, Sl.v r215)] ?_
    refine OJ.nil ?_
    refine SJ.inBlock ?_
    refine SJ.rg 3 ?_
    refine OJ.go 3 [(8, .int .i64 (IntKind.wrap .i64 (s53 + 1))), (94, .int .i64 (IntKind.wrap .i64 (s53 + 1))), (93, .int .i64 s53)] ?_
    refine OJ.nil ?_
    refine SJ.forget (List.Sublist.cons _ List.Sublist.slnil) ?_
    exact SJ.at_ [0, 7, 8] rfl
noncomputable def weirlaw15_Rows_Settle.L5 (a0 : (Option Addr)) (s52 : Sl) (s53 : Int) : M (LS (Sl × Int) Bool) :=
  nilck a0 >>= fun p191 =>
  ld cL p191 >>= fun x192 =>
  if s53 < (x192.len : Int) then
    nilck a0 >>= fun p193 =>
    ld cL p193 >>= fun x194 =>
    idx x194.a x194.len s53 1 >>= fun p195 =>
    ld cL p195 >>= fun x196 =>
    loopM (fun s_ : (Sl × Int) => weirlaw15_Rows_Settle.L6 a0 s52 s53 s_.1 s_.2) (x196, 0)
  else
    (weirlaw15_Rows_Settle.K3 a0 s52) >>= fun b => pure (LS.done b)
theorem weirlaw15_Rows_Settle.L5_ok (a0 : (Option Addr)) (s52 : Sl) (s53 : Int) :
    SJ weirlaw15_Rows_Settle.cx [.code (c1 (c1 (c2 (c1 (c2 (c2 (c2 (c2 (c2 weirlaw15_Rows_Settle.B))))))))), .inLoop (c1 (c1 (c2 (c1 (c2 (c2 (c2 (c2 (c2 weirlaw15_Rows_Settle.B))))))))), .inBlock 8, .code (c2 (c2 (c2 (c2 (c2 (c2 weirlaw15_Rows_Settle.B))))))] [(0, .pointer a0), (7, Sl.v s52), (8, .int .i64 s53)] [] (weirlaw15_Rows_Settle.L5 a0 s52 s53) (weirlaw15_Rows_Settle.F5 a0) := by
  unfold weirlaw15_Rows_Settle.L5
  refine SJ.seq ?_
  refine SJ.sr 7 ?_
  refine OJ.go 2 [(87, .pointer a0), (86, .int .i64 s53)] ?_
  refine OJ.nilck (d := 88) (y := .tmp 87) (fun p191 => ?_)
  refine OJ.go 1 [(89, .pointer (some p191))] ?_
  refine OJ.ld (d := 90) (y := .tmp 89) (pend2 := fun x192 => []) Ty60 (fun _ => rfl) (fun x192 => ?_)
  refine OJ.go 2 [(92, .bool (decide (s53 < (x192.len : Int)))), (91, .int .i64 (x192.len : Int))] ?_
  refine OJ.nil ?_
  refine SJ.cond (t := (.tmp 92)) (b := decide (s53 < (x192.len : Int))) decide_eq_true_iff (fun hc217 => ?_) (fun hc217 => ?_)
  · refine SJ.skip ?_
    refine SJ.seq ?_
    refine SJ.block (id := 9) ?_
    refine SJ.sr 8 ?_
    refine OJ.go 1 [(95, .pointer a0)] ?_
    refine OJ.nilck (d := 96) (y := .tmp 95) (fun p193 => ?_)
    refine OJ.go 1 [(97, .pointer (some p193))] ?_
    refine OJ.ld (d := 98) (y := .tmp 97) (pend2 := fun x194 => []) Ty60 (fun _ => rfl) (fun x194 => ?_)
    refine OJ.go 1 [(99, .int .i64 s53)] ?_
    refine OJ.idxS (d := 100) (T := 60) (y := .tmp 98) (j := .tmp 99) (E := 68) (cap := x194.cap) (k := .i64) (fun p195 => ?_)
    refine OJ.ld (d := 101) (y := .tmp 100) (pend2 := fun x196 => []) Ty68 (fun _ => rfl) (fun x196 => ?_)
    refine OJ.go 1 [(9, Sl.v x196)] ?_
    refine OJ.nil ?_
    refine SJ.seq ?_
    refine SJ.sr 1 ?_
    refine OJ.go 1 [(10, .int .i64 0)] ?_
    refine OJ.nil ?_
    refine SJ.block (id := 10) ?_
    exact SJ.loop (fun s_ : (Sl × Int) => [(0, .pointer a0), (7, Sl.v s52), (8, .int .i64 s53), (9, Sl.v s_.1), (10, .int .i64 s_.2)]) (fun s_ : (Sl × Int) => []) [0, 7, 8, 9, 10] rfl (fun _ _ => rfl) (fun s_ => weirlaw15_Rows_Settle.L6_ok a0 s52 s53 s_.1 s_.2)
  · refine SJ.exit (id := 8) (by rfl) ?_
    refine SJ.less [0, 7] (m' := [(0, .pointer a0), (7, Sl.v s52)]) ?_
    refine SJ.done ?_
    exact weirlaw15_Rows_Settle.K3_ok a0 s52
noncomputable def weirlaw15_Rows_Settle.K4 (a0 : (Option Addr)) : M Bool :=
  loopM (fun s_ : (Sl × Int) => weirlaw15_Rows_Settle.L5 a0 s_.1 s_.2) (Sl.nil, 0)
theorem weirlaw15_Rows_Settle.K4_ok (a0 : (Option Addr)) :
    SJ weirlaw15_Rows_Settle.cx [.code (c2 (c2 (c2 (c2 weirlaw15_Rows_Settle.B))))] [(0, .pointer a0)] [] (weirlaw15_Rows_Settle.K4 a0) weirlaw15_Rows_Settle.F0 := by
  unfold weirlaw15_Rows_Settle.K4
  refine SJ.sr 1 ?_
  refine OJ.go 1 [(7, Sl.v Sl.nil)] ?_
  refine OJ.nil ?_
  refine SJ.seq ?_
  refine SJ.sr 1 ?_
  refine OJ.go 1 [(8, .int .i64 0)] ?_
  refine OJ.nil ?_
  refine SJ.block (id := 8) ?_
  exact SJ.loop (fun s_ : (Sl × Int) => [(0, .pointer a0), (7, Sl.v s_.1), (8, .int .i64 s_.2)]) (fun s_ : (Sl × Int) => []) [0, 7, 8] rfl (fun _ _ => rfl) (fun s_ => weirlaw15_Rows_Settle.L5_ok a0 s_.1 s_.2)
noncomputable def weirlaw15_Rows_Settle.F7 (a0 : (Option Addr)) : (LS Int Bool) → Reach := loopF [.inLoop (c1 (c1 (c2 (c1 (c2 (c2 (c2 weirlaw15_Rows_Settle.B))))))), .inBlock 4, .code (c2 (c2 (c2 (c2 weirlaw15_Rows_Settle.B))))] (fun s_ : Int => [(0, .pointer a0), (5, .int .i64 s_)]) (fun s_ : Int => []) weirlaw15_Rows_Settle.F0
noncomputable def weirlaw15_Rows_Settle.F8 (a0 : (Option Addr)) (s27 : Int) : (LS Int (LS Int Bool)) → Reach := loopF [.inLoop (c1 (c1 (c2 (c1 (c1 (c2 (c1 (c1 (c2 (c1 (c2 (c2 (c2 weirlaw15_Rows_Settle.B))))))))))))), .inBlock 6, .inBlock 5, .code (c2 (c2 (c1 (c1 (c2 (c1 (c2 (c2 (c2 weirlaw15_Rows_Settle.B))))))))), .inLoop (c1 (c1 (c2 (c1 (c2 (c2 (c2 weirlaw15_Rows_Settle.B))))))), .inBlock 4, .code (c2 (c2 (c2 (c2 weirlaw15_Rows_Settle.B))))] (fun s_ : Int => [(0, .pointer a0), (5, .int .i64 s27), (6, .int .i64 s_)]) (fun s_ : Int => []) (weirlaw15_Rows_Settle.F7 a0)
noncomputable def weirlaw15_Rows_Settle.L8 (a0 : (Option Addr)) (s27 : Int) (s220 : Int) : M (LS Int (LS Int Bool)) :=
  nilck a0 >>= fun p231 =>
  ld cL (Addr.add p231 2) >>= fun x232 =>
  idx x232.a x232.len s27 1 >>= fun p233 =>
  ld cL p233 >>= fun x234 =>
  if s220 < (x234.len : Int) then
    nilck a0 >>= fun p235 =>
    ld cL (Addr.add p235 2) >>= fun x236 =>
    idx x236.a x236.len s27 1 >>= fun p237 =>
    ld cL p237 >>= fun x238 =>
    idx x238.a x238.len s220 25 >>= fun p239 =>
    st c_api_Ask p239 (⟨IntKind.wrap .i64 ((-1000) - s27), z_api_Ask.IP, z_api_Ask.Mac, z_api_Ask.Try⟩ : api_Ask) >>= fun _ =>
    pure (LS.next (IntKind.wrap .i64 (s220 + 1)))
  else
    pure (LS.done (LS.next (IntKind.wrap .i64 (s27 + 1))))
theorem weirlaw15_Rows_Settle.L8_ok (a0 : (Option Addr)) (s27 : Int) (s220 : Int) :
    SJ weirlaw15_Rows_Settle.cx [.code (c1 (c1 (c2 (c1 (c1 (c2 (c1 (c1 (c2 (c1 (c2 (c2 (c2 weirlaw15_Rows_Settle.B))))))))))))), .inLoop (c1 (c1 (c2 (c1 (c1 (c2 (c1 (c1 (c2 (c1 (c2 (c2 (c2 weirlaw15_Rows_Settle.B))))))))))))), .inBlock 6, .inBlock 5, .code (c2 (c2 (c1 (c1 (c2 (c1 (c2 (c2 (c2 weirlaw15_Rows_Settle.B))))))))), .inLoop (c1 (c1 (c2 (c1 (c2 (c2 (c2 weirlaw15_Rows_Settle.B))))))), .inBlock 4, .code (c2 (c2 (c2 (c2 weirlaw15_Rows_Settle.B))))] [(0, .pointer a0), (5, .int .i64 s27), (6, .int .i64 s220)] [] (weirlaw15_Rows_Settle.L8 a0 s27 s220) (weirlaw15_Rows_Settle.F8 a0 s27) := by
  unfold weirlaw15_Rows_Settle.L8
  refine SJ.seq ?_
  refine SJ.sr 10 ?_
  refine OJ.go 2 [(63, .pointer a0), (62, .int .i64 s220)] ?_
  refine OJ.nilck (d := 64) (y := .tmp 63) (fun p231 => ?_)
  refine OJ.go 1 [(65, .pointer (some (Addr.add p231 2)))] ?_
  refine OJ.ld (d := 66) (y := .tmp 65) (pend2 := fun x232 => []) Ty61 (fun _ => rfl) (fun x232 => ?_)
  refine OJ.go 1 [(67, .int .i64 s27)] ?_
  refine OJ.idxS (d := 68) (T := 61) (y := .tmp 66) (j := .tmp 67) (E := 50) (cap := x232.cap) (k := .i64) (fun p233 => ?_)
  refine OJ.ld (d := 69) (y := .tmp 68) (pend2 := fun x234 => []) Ty50 (fun _ => rfl) (fun x234 => ?_)
  refine OJ.go 2 [(71, .bool (decide (s220 < (x234.len : Int)))), (70, .int .i64 (x234.len : Int))] ?_
  refine OJ.nil ?_
  refine SJ.cond (t := (.tmp 71)) (b := decide (s220 < (x234.len : Int))) decide_eq_true_iff (fun hc240 => ?_) (fun hc240 => ?_)
  · refine SJ.skip ?_
    refine SJ.seq ?_
    refine SJ.block (id := 7) ?_
    refine SJ.rg 13 ?_
    refine OJ.go 1 [(74, .pointer a0)] ?_
    refine OJ.nilck (d := 75) (y := .tmp 74) (fun p235 => ?_)
    refine OJ.go 1 [(76, .pointer (some (Addr.add p235 2)))] ?_
    refine OJ.ld (d := 77) (y := .tmp 76) (pend2 := fun x236 => []) Ty61 (fun _ => rfl) (fun x236 => ?_)
    refine OJ.go 1 [(78, .int .i64 s27)] ?_
    refine OJ.idxS (d := 79) (T := 61) (y := .tmp 77) (j := .tmp 78) (E := 50) (cap := x236.cap) (k := .i64) (fun p237 => ?_)
    refine OJ.ld (d := 80) (y := .tmp 79) (pend2 := fun x238 => []) Ty50 (fun _ => rfl) (fun x238 => ?_)
    refine OJ.go 3 [(83, .int .i64 (IntKind.wrap .i64 ((-1000) - s27))), (82, .int .i64 s27), (81, .int .i64 s220)] ?_
    refine OJ.build (d := 84) (T := 111) (parts := [(0, .tmp 83)]) (ps := [(0, (cI .i64).val (IntKind.wrap .i64 ((-1000) - s27)))]) (cd := c_api_Ask) (z0 := z_api_Ask) (⟨IntKind.wrap .i64 ((-1000) - s27), z_api_Ask.IP, z_api_Ask.Mac, z_api_Ask.Try⟩ : api_Ask) Ty111 rfl (Filled.cons (cd := (cI .i64)) (q := (IntKind.wrap .i64 ((-1000) - s27))) (o := 0) (by kernel_rfl) (Up_api_Ask_Port z_api_Ask (IntKind.wrap .i64 ((-1000) - s27))) Filled.nil) ?_
    refine OJ.idxS (d := 85) (T := 50) (y := .tmp 80) (j := .tmp 81) (E := 111) (cap := x238.cap) (k := .i64) (fun p239 => ?_)
    refine OJ.st (y := .tmp 85) (z := .tmp 84) (owed := []) Ty111 ?_
    refine OW.nil ?_
    refine OJ.nil ?_
    refine SJ.inBlock ?_
    refine SJ.rg 3 ?_
    refine OJ.go 3 [(6, .int .i64 (IntKind.wrap .i64 (s220 + 1))), (73, .int .i64 (IntKind.wrap .i64 (s220 + 1))), (72, .int .i64 s220)] ?_
    refine OJ.nil ?_
    exact SJ.at_ [0, 5, 6] rfl
  · refine SJ.exit (id := 6) (by rfl) ?_
    refine SJ.inBlock ?_
    refine SJ.rg 3 ?_
    refine OJ.go 3 [(5, .int .i64 (IntKind.wrap .i64 (s27 + 1))), (61, .int .i64 (IntKind.wrap .i64 (s27 + 1))), (60, .int .i64 s27)] ?_
    refine OJ.nil ?_
    exact SJ.at_ [0, 5] rfl
noncomputable def weirlaw15_Rows_Settle.L7 (a0 : (Option Addr)) (s27 : Int) : M (LS Int Bool) :=
  nilck a0 >>= fun p218 =>
  ld cL (Addr.add p218 2) >>= fun x219 =>
  if s27 < (x219.len : Int) then
    loopM (fun s_ : Int => weirlaw15_Rows_Settle.L8 a0 s27 s_) 0
  else
    (weirlaw15_Rows_Settle.K4 a0) >>= fun b => pure (LS.done b)
theorem weirlaw15_Rows_Settle.L7_ok (a0 : (Option Addr)) (s27 : Int) :
    SJ weirlaw15_Rows_Settle.cx [.code (c1 (c1 (c2 (c1 (c2 (c2 (c2 weirlaw15_Rows_Settle.B))))))), .inLoop (c1 (c1 (c2 (c1 (c2 (c2 (c2 weirlaw15_Rows_Settle.B))))))), .inBlock 4, .code (c2 (c2 (c2 (c2 weirlaw15_Rows_Settle.B))))] [(0, .pointer a0), (5, .int .i64 s27)] [] (weirlaw15_Rows_Settle.L7 a0 s27) (weirlaw15_Rows_Settle.F7 a0) := by
  unfold weirlaw15_Rows_Settle.L7
  refine SJ.seq ?_
  refine SJ.sr 7 ?_
  refine OJ.go 2 [(54, .pointer a0), (53, .int .i64 s27)] ?_
  refine OJ.nilck (d := 55) (y := .tmp 54) (fun p218 => ?_)
  refine OJ.go 1 [(56, .pointer (some (Addr.add p218 2)))] ?_
  refine OJ.ld (d := 57) (y := .tmp 56) (pend2 := fun x219 => []) Ty61 (fun _ => rfl) (fun x219 => ?_)
  refine OJ.go 2 [(59, .bool (decide (s27 < (x219.len : Int)))), (58, .int .i64 (x219.len : Int))] ?_
  refine OJ.nil ?_
  refine SJ.cond (t := (.tmp 59)) (b := decide (s27 < (x219.len : Int))) decide_eq_true_iff (fun hc241 => ?_) (fun hc241 => ?_)
  · refine SJ.skip ?_
    refine SJ.seq ?_
    refine SJ.block (id := 5) ?_
    refine SJ.sr 1 ?_
    refine OJ.go 1 [(6, .int .i64 0)] ?_
    refine OJ.nil ?_
    refine SJ.block (id := 6) ?_
    exact SJ.loop (fun s_ : Int => [(0, .pointer a0), (5, .int .i64 s27), (6, .int .i64 s_)]) (fun s_ : Int => []) [0, 5, 6] rfl (fun _ _ => rfl) (fun s_ => weirlaw15_Rows_Settle.L8_ok a0 s27 s_)
  · refine SJ.exit (id := 4) (by rfl) ?_
    refine SJ.less [0] (m' := [(0, .pointer a0)]) ?_
    refine SJ.done ?_
    exact weirlaw15_Rows_Settle.K4_ok a0
noncomputable def weirlaw15_Rows_Settle.K5 (a0 : (Option Addr)) : M Bool :=
  loopM (fun s_ : Int => weirlaw15_Rows_Settle.L7 a0 s_) 0
theorem weirlaw15_Rows_Settle.K5_ok (a0 : (Option Addr)) :
    SJ weirlaw15_Rows_Settle.cx [.code (c2 (c2 (c2 weirlaw15_Rows_Settle.B)))] [(0, .pointer a0)] [] (weirlaw15_Rows_Settle.K5 a0) weirlaw15_Rows_Settle.F0 := by
  unfold weirlaw15_Rows_Settle.K5
  refine SJ.seq ?_
  refine SJ.sr 1 ?_
  refine OJ.go 1 [(5, .int .i64 0)] ?_
  refine OJ.nil ?_
  refine SJ.block (id := 4) ?_
  exact SJ.loop (fun s_ : Int => [(0, .pointer a0), (5, .int .i64 s_)]) (fun s_ : Int => []) [0, 5] rfl (fun _ _ => rfl) (fun s_ => weirlaw15_Rows_Settle.L7_ok a0 s_)
noncomputable def weirlaw15_Rows_Settle.F9 (a0 : (Option Addr)) : (LS Int Bool) → Reach := loopF [.inLoop (c1 (c1 (c2 (c1 (c2 (c2 weirlaw15_Rows_Settle.B)))))), .inBlock 0, .code (c2 (c2 (c2 weirlaw15_Rows_Settle.B)))] (fun s_ : Int => [(0, .pointer a0), (3, .int .i64 s_)]) (fun s_ : Int => []) weirlaw15_Rows_Settle.F0
noncomputable def weirlaw15_Rows_Settle.F10 (a0 : (Option Addr)) (s2 : Int) : (LS Int (LS Int Bool)) → Reach := loopF [.inLoop (c1 (c1 (c2 (c1 (c1 (c2 (c1 (c1 (c2 (c1 (c2 (c2 weirlaw15_Rows_Settle.B)))))))))))), .inBlock 2, .inBlock 1, .code (c2 (c2 (c1 (c1 (c2 (c1 (c2 (c2 weirlaw15_Rows_Settle.B)))))))), .inLoop (c1 (c1 (c2 (c1 (c2 (c2 weirlaw15_Rows_Settle.B)))))), .inBlock 0, .code (c2 (c2 (c2 weirlaw15_Rows_Settle.B)))] (fun s_ : Int => [(0, .pointer a0), (3, .int .i64 s2), (4, .int .i64 s_)]) (fun s_ : Int => []) (weirlaw15_Rows_Settle.F9 a0)
noncomputable def weirlaw15_Rows_Settle.L10 (a0 : (Option Addr)) (s2 : Int) (s244 : Int) : M (LS Int (LS Int Bool)) :=
  nilck a0 >>= fun p255 =>
  ld cL p255 >>= fun x256 =>
  idx x256.a x256.len s2 1 >>= fun p257 =>
  ld cL p257 >>= fun x258 =>
  if s244 < (x258.len : Int) then
    nilck a0 >>= fun p259 =>
    ld cL p259 >>= fun x260 =>
    idx x260.a x260.len s2 1 >>= fun p261 =>
    ld cL p261 >>= fun x262 =>
    idx x262.a x262.len s244 28 >>= fun p263 =>
    st c_api_Neighbour p263 (⟨IntKind.wrap .i64 ((-1000) - s2), z_api_Neighbour.IP, z_api_Neighbour.Mac, z_api_Neighbour.State, z_api_Neighbour.Age, z_api_Neighbour.Tries, z_api_Neighbour.Waiting⟩ : api_Neighbour) >>= fun _ =>
    pure (LS.next (IntKind.wrap .i64 (s244 + 1)))
  else
    pure (LS.done (LS.next (IntKind.wrap .i64 (s2 + 1))))
theorem weirlaw15_Rows_Settle.L10_ok (a0 : (Option Addr)) (s2 : Int) (s244 : Int) :
    SJ weirlaw15_Rows_Settle.cx [.code (c1 (c1 (c2 (c1 (c1 (c2 (c1 (c1 (c2 (c1 (c2 (c2 weirlaw15_Rows_Settle.B)))))))))))), .inLoop (c1 (c1 (c2 (c1 (c1 (c2 (c1 (c1 (c2 (c1 (c2 (c2 weirlaw15_Rows_Settle.B)))))))))))), .inBlock 2, .inBlock 1, .code (c2 (c2 (c1 (c1 (c2 (c1 (c2 (c2 weirlaw15_Rows_Settle.B)))))))), .inLoop (c1 (c1 (c2 (c1 (c2 (c2 weirlaw15_Rows_Settle.B)))))), .inBlock 0, .code (c2 (c2 (c2 weirlaw15_Rows_Settle.B)))] [(0, .pointer a0), (3, .int .i64 s2), (4, .int .i64 s244)] [] (weirlaw15_Rows_Settle.L10 a0 s2 s244) (weirlaw15_Rows_Settle.F10 a0 s2) := by
  unfold weirlaw15_Rows_Settle.L10
  refine SJ.seq ?_
  refine SJ.sr 10 ?_
  refine OJ.go 2 [(30, .pointer a0), (29, .int .i64 s244)] ?_
  refine OJ.nilck (d := 31) (y := .tmp 30) (fun p255 => ?_)
  refine OJ.go 1 [(32, .pointer (some p255))] ?_
  refine OJ.ld (d := 33) (y := .tmp 32) (pend2 := fun x256 => []) Ty60 (fun _ => rfl) (fun x256 => ?_)
  refine OJ.go 1 [(34, .int .i64 s2)] ?_
  refine OJ.idxS (d := 35) (T := 60) (y := .tmp 33) (j := .tmp 34) (E := 68) (cap := x256.cap) (k := .i64) (fun p257 => ?_)
  refine OJ.ld (d := 36) (y := .tmp 35) (pend2 := fun x258 => []) Ty68 (fun _ => rfl) (fun x258 => ?_)
  refine OJ.go 2 [(38, .bool (decide (s244 < (x258.len : Int)))), (37, .int .i64 (x258.len : Int))] ?_
  refine OJ.nil ?_
  refine SJ.cond (t := (.tmp 38)) (b := decide (s244 < (x258.len : Int))) decide_eq_true_iff (fun hc264 => ?_) (fun hc264 => ?_)
  · refine SJ.skip ?_
    refine SJ.seq ?_
    refine SJ.block (id := 3) ?_
    refine SJ.rg 13 ?_
    refine OJ.go 1 [(41, .pointer a0)] ?_
    refine OJ.nilck (d := 42) (y := .tmp 41) (fun p259 => ?_)
    refine OJ.go 1 [(43, .pointer (some p259))] ?_
    refine OJ.ld (d := 44) (y := .tmp 43) (pend2 := fun x260 => []) Ty60 (fun _ => rfl) (fun x260 => ?_)
    refine OJ.go 1 [(45, .int .i64 s2)] ?_
    refine OJ.idxS (d := 46) (T := 60) (y := .tmp 44) (j := .tmp 45) (E := 68) (cap := x260.cap) (k := .i64) (fun p261 => ?_)
    refine OJ.ld (d := 47) (y := .tmp 46) (pend2 := fun x262 => []) Ty68 (fun _ => rfl) (fun x262 => ?_)
    refine OJ.go 3 [(50, .int .i64 (IntKind.wrap .i64 ((-1000) - s2))), (49, .int .i64 s2), (48, .int .i64 s244)] ?_
    refine OJ.build (d := 51) (T := 77) (parts := [(0, .tmp 50)]) (ps := [(0, (cI .i64).val (IntKind.wrap .i64 ((-1000) - s2)))]) (cd := c_api_Neighbour) (z0 := z_api_Neighbour) (⟨IntKind.wrap .i64 ((-1000) - s2), z_api_Neighbour.IP, z_api_Neighbour.Mac, z_api_Neighbour.State, z_api_Neighbour.Age, z_api_Neighbour.Tries, z_api_Neighbour.Waiting⟩ : api_Neighbour) Ty77 rfl (Filled.cons (cd := (cI .i64)) (q := (IntKind.wrap .i64 ((-1000) - s2))) (o := 0) (by kernel_rfl) (Up_api_Neighbour_Port z_api_Neighbour (IntKind.wrap .i64 ((-1000) - s2))) Filled.nil) ?_
    refine OJ.idxS (d := 52) (T := 68) (y := .tmp 47) (j := .tmp 48) (E := 77) (cap := x262.cap) (k := .i64) (fun p263 => ?_)
    refine OJ.st (y := .tmp 52) (z := .tmp 51) (owed := []) Ty77 ?_
    refine OW.nil ?_
    refine OJ.nil ?_
    refine SJ.inBlock ?_
    refine SJ.rg 3 ?_
    refine OJ.go 3 [(4, .int .i64 (IntKind.wrap .i64 (s244 + 1))), (40, .int .i64 (IntKind.wrap .i64 (s244 + 1))), (39, .int .i64 s244)] ?_
    refine OJ.nil ?_
    exact SJ.at_ [0, 3, 4] rfl
  · refine SJ.exit (id := 2) (by rfl) ?_
    refine SJ.inBlock ?_
    refine SJ.rg 3 ?_
    refine OJ.go 3 [(3, .int .i64 (IntKind.wrap .i64 (s2 + 1))), (28, .int .i64 (IntKind.wrap .i64 (s2 + 1))), (27, .int .i64 s2)] ?_
    refine OJ.nil ?_
    exact SJ.at_ [0, 3] rfl
noncomputable def weirlaw15_Rows_Settle.L9 (a0 : (Option Addr)) (s2 : Int) : M (LS Int Bool) :=
  nilck a0 >>= fun p242 =>
  ld cL p242 >>= fun x243 =>
  if s2 < (x243.len : Int) then
    loopM (fun s_ : Int => weirlaw15_Rows_Settle.L10 a0 s2 s_) 0
  else
    (weirlaw15_Rows_Settle.K5 a0) >>= fun b => pure (LS.done b)
theorem weirlaw15_Rows_Settle.L9_ok (a0 : (Option Addr)) (s2 : Int) :
    SJ weirlaw15_Rows_Settle.cx [.code (c1 (c1 (c2 (c1 (c2 (c2 weirlaw15_Rows_Settle.B)))))), .inLoop (c1 (c1 (c2 (c1 (c2 (c2 weirlaw15_Rows_Settle.B)))))), .inBlock 0, .code (c2 (c2 (c2 weirlaw15_Rows_Settle.B)))] [(0, .pointer a0), (3, .int .i64 s2)] [] (weirlaw15_Rows_Settle.L9 a0 s2) (weirlaw15_Rows_Settle.F9 a0) := by
  unfold weirlaw15_Rows_Settle.L9
  refine SJ.seq ?_
  refine SJ.sr 7 ?_
  refine OJ.go 2 [(21, .pointer a0), (20, .int .i64 s2)] ?_
  refine OJ.nilck (d := 22) (y := .tmp 21) (fun p242 => ?_)
  refine OJ.go 1 [(23, .pointer (some p242))] ?_
  refine OJ.ld (d := 24) (y := .tmp 23) (pend2 := fun x243 => []) Ty60 (fun _ => rfl) (fun x243 => ?_)
  refine OJ.go 2 [(26, .bool (decide (s2 < (x243.len : Int)))), (25, .int .i64 (x243.len : Int))] ?_
  refine OJ.nil ?_
  refine SJ.cond (t := (.tmp 26)) (b := decide (s2 < (x243.len : Int))) decide_eq_true_iff (fun hc265 => ?_) (fun hc265 => ?_)
  · refine SJ.skip ?_
    refine SJ.seq ?_
    refine SJ.block (id := 1) ?_
    refine SJ.sr 1 ?_
    refine OJ.go 1 [(4, .int .i64 0)] ?_
    refine OJ.nil ?_
    refine SJ.block (id := 2) ?_
    exact SJ.loop (fun s_ : Int => [(0, .pointer a0), (3, .int .i64 s2), (4, .int .i64 s_)]) (fun s_ : Int => []) [0, 3, 4] rfl (fun _ _ => rfl) (fun s_ => weirlaw15_Rows_Settle.L10_ok a0 s2 s_)
  · refine SJ.exit (id := 0) (by rfl) ?_
    refine SJ.less [0] (m' := [(0, .pointer a0)]) ?_
    refine SJ.done ?_
    exact weirlaw15_Rows_Settle.K5_ok a0
noncomputable def weirlaw15_Rows_Settle (a0 : (Option Addr)) : M Bool :=
  weirlaw15_Rows_Untouched a0 >>= fun r1 =>
  if ¬ (r1 = true) then
    pure false
  else
    loopM (fun s_ : Int => weirlaw15_Rows_Settle.L9 a0 s_) 0
theorem weirlaw15_Rows_Settle_ok (a0 : (Option Addr)) : Ref Try.prog 33 [.pointer a0] (weirlaw15_Rows_Settle a0) weirlaw15_Rows_Settle.out := by
  refine Ref.of (cd := weirlaw15_Rows_Settle.B) Try.func33 ?_
  show SJ weirlaw15_Rows_Settle.cx [.code weirlaw15_Rows_Settle.B] [(0, .pointer a0)] [] (weirlaw15_Rows_Settle a0) weirlaw15_Rows_Settle.F0
  unfold weirlaw15_Rows_Settle
  refine SJ.sr 1 ?_
  refine OJ.go 1 [(2, .bool false)] ?_
  refine OJ.nil ?_
  refine SJ.seq ?_
  refine SJ.sr 3 ?_
  refine OJ.go 1 [(17, .pointer a0)] ?_
  refine OJ.call (d := 18) (g := 31) (ats := #[59]) (args := [.tmp 17]) (owed := []) F31 (weirlaw15_Rows_Untouched_ok a0) (fun r1 => ?_)
  refine OW.nil ?_
  refine OJ.go 1 [(19, .bool (!r1))] ?_
  refine OJ.nil ?_
  refine SJ.cond (t := (.tmp 19)) (b := (!r1)) (bnot_iff Iff.rfl) (fun hc266 => ?_) (fun hc266 => ?_)
  · refine SJ.sr 1 ?_
    refine OJ.go 1 [(2, .bool false)] ?_
    refine OJ.nil ?_
    exact SJ.ret rfl (Res.run (ys := [.bool false]) (.tmp (by kernel_rfl) .nil) rfl)
  · refine SJ.skip ?_
    refine SJ.seq ?_
    refine SJ.sr 1 ?_
    refine OJ.go 1 [(3, .int .i64 0)] ?_
    refine OJ.nil ?_
    refine SJ.block (id := 0) ?_
    exact SJ.loop (fun s_ : Int => [(0, .pointer a0), (3, .int .i64 s_)]) (fun s_ : Int => []) [0, 3] rfl (fun _ _ => rfl) (fun s_ => weirlaw15_Rows_Settle.L9_ok a0 s_)
end Go.Proofs.Ytlkhijflgbobjaa.Lx
