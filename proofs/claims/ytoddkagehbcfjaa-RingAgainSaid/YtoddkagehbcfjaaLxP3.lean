/- Programs of the M-world for Go functions, each with the proof that the Go text does what it says. Printed by lxgen.py. -/
import Derived.Test.YtoddkagehbcfjaaLxT
import Derived.Test.YtoddkagehbcfjaaLxP0
import Derived.Test.YtoddkagehbcfjaaLxP1
import Derived.Test.YtoddkagehbcfjaaLxP2
set_option linter.unusedVariables false
set_option linter.unusedSimpArgs false
namespace Go.Proofs.Ytoddkagehbcfjaa.Lx
open Go Go.Proofs
/-! ### (*weir/weirlaw3.Desk).Lend: function 41 -/
noncomputable def weirlaw3_Desk_Lend.B : Code := (Try.f41.body).getD .skip
noncomputable def weirlaw3_Desk_Lend.cx : Fx := ⟨Try.prog, 41, Try.f41⟩
noncomputable def weirlaw3_Desk_Lend.out (r_ : Sl) : Value := Sl.v r_
noncomputable def weirlaw3_Desk_Lend.F0 (r_ : Sl) : Reach := .ret (weirlaw3_Desk_Lend.out r_)
noncomputable def weirlaw3_Desk_Lend.K1 (a0 : (Option Addr)) (a1 : Sl) : M Sl :=
  nilck a0 >>= fun p13 =>
  ld cL p13 >>= fun x14 =>
  cpyS (cI .u8) x14 a1 >>= fun r15 =>
  nilck a0 >>= fun p16 =>
  st (cI .i64) (Addr.add p16 1) (a1.len : Int) >>= fun _ =>
  nilck a0 >>= fun p17 =>
  ld cL p17 >>= fun x18 =>
  cut 1 x18 none (some (a1.len : Int)) none >>= fun r19 =>
  pure r19
theorem weirlaw3_Desk_Lend.K1_ok (a0 : (Option Addr)) (a1 : Sl) :
    SJ weirlaw3_Desk_Lend.cx [.code (c2 (c2 (c2 weirlaw3_Desk_Lend.B)))] [(0, .pointer a0), (1, Sl.v a1)] [] (weirlaw3_Desk_Lend.K1 a0 a1) weirlaw3_Desk_Lend.F0 := by
  unfold weirlaw3_Desk_Lend.K1
  refine SJ.sr 6 ?_
  refine OJ.go 1 [(41, .pointer a0)] ?_
  refine OJ.nilck (d := 42) (y := .tmp 41) (fun p13 => ?_)
  refine OJ.go 1 [(43, .pointer (some p13))] ?_
  refine OJ.ld (d := 44) (y := .tmp 43) (pend2 := fun x14 => []) Ty22 (fun _ => rfl) (fun x14 => ?_)
  refine OJ.go 1 [(45, Sl.v a1)] ?_
  refine OJ.cpy1 (n := 46) (t := 22) (u := 22) (so := .tmp 44) (xo := .tmp 45) (owed := []) Ty5 (fun r15 => ?_)
  refine OW.nil ?_
  refine OJ.nil ?_
  refine SJ.sr 6 ?_
  refine OJ.go 3 [(49, .int .i64 (a1.len : Int)), (48, Sl.v a1), (47, .pointer a0)] ?_
  refine OJ.nilck (d := 50) (y := .tmp 47) (fun p16 => ?_)
  refine OJ.go 1 [(51, .pointer (some (Addr.add p16 1)))] ?_
  refine OJ.st (y := .tmp 51) (z := .tmp 49) (owed := []) Ty3 ?_
  refine OW.nil ?_
  refine OJ.nil ?_
  refine SJ.sr 8 ?_
  refine OJ.go 1 [(52, .pointer a0)] ?_
  refine OJ.nilck (d := 53) (y := .tmp 52) (fun p17 => ?_)
  refine OJ.go 1 [(54, .pointer (some p17))] ?_
  refine OJ.ld (d := 55) (y := .tmp 54) (pend2 := fun x18 => []) Ty22 (fun _ => rfl) (fun x18 => ?_)
  refine OJ.go 2 [(57, .int .i64 (a1.len : Int)), (56, Sl.v a1)] ?_
  refine OJ.cut (d := 58) (t := 22) (E := 5) (y := .tmp 55) (lo := none) (hi := (some (.tmp 57))) (mx := none) (lo' := none) (hi' := some (.i64, (a1.len : Int))) (mx' := none) (fun h => by cases h) (fun r19 => ?_)
  refine OJ.go 1 [(4, Sl.v r19)] ?_
  refine OJ.nil ?_
  exact SJ.ret rfl (Res.run (ys := [Sl.v r19]) (.tmp (by kernel_rfl) .nil) rfl)
noncomputable def weirlaw3_Desk_Lend.F1 (a0 : (Option Addr)) (a1 : Sl) : (LS Int Sl) → Reach := loopF [.inLoop (c1 (c1 (c2 (c1 (c2 (c2 weirlaw3_Desk_Lend.B)))))), .inBlock 0, .code (c2 (c2 (c2 weirlaw3_Desk_Lend.B)))] (fun s_ : Int => [(0, .pointer a0), (1, Sl.v a1), (5, .int .i64 s_)]) (fun s_ : Int => []) weirlaw3_Desk_Lend.F0
noncomputable def weirlaw3_Desk_Lend.L1 (a0 : (Option Addr)) (a1 : Sl) (s5 : Int) : M (LS Int Sl) :=
  nilck a0 >>= fun p20 =>
  ld cL p20 >>= fun x21 =>
  if s5 < (x21.len : Int) then
    draw >>= fun _ =>
    nilck a0 >>= fun p22 =>
    ld cL p22 >>= fun x23 =>
    weirlaw3_mark s5 >>= fun r24 =>
    same cL p22 x23 >>= fun _ =>
    idx x23.a x23.len s5 1 >>= fun p25 =>
    st (cI .u8) p25 r24 >>= fun _ =>
    pure (LS.next (IntKind.wrap .i64 (s5 + 1)))
  else
    (weirlaw3_Desk_Lend.K1 a0 a1) >>= fun b => pure (LS.done b)
theorem weirlaw3_Desk_Lend.L1_ok (a0 : (Option Addr)) (a1 : Sl) (s5 : Int) :
    SJ weirlaw3_Desk_Lend.cx [.code (c1 (c1 (c2 (c1 (c2 (c2 weirlaw3_Desk_Lend.B)))))), .inLoop (c1 (c1 (c2 (c1 (c2 (c2 weirlaw3_Desk_Lend.B)))))), .inBlock 0, .code (c2 (c2 (c2 weirlaw3_Desk_Lend.B)))] [(0, .pointer a0), (1, Sl.v a1), (5, .int .i64 s5)] [] (weirlaw3_Desk_Lend.L1 a0 a1 s5) (weirlaw3_Desk_Lend.F1 a0 a1) := by
  unfold weirlaw3_Desk_Lend.L1
  refine SJ.seq ?_
  refine SJ.sr 7 ?_
  refine OJ.go 2 [(25, .pointer a0), (24, .int .i64 s5)] ?_
  refine OJ.nilck (d := 26) (y := .tmp 25) (fun p20 => ?_)
  refine OJ.go 1 [(27, .pointer (some p20))] ?_
  refine OJ.ld (d := 28) (y := .tmp 27) (pend2 := fun x21 => []) Ty22 (fun _ => rfl) (fun x21 => ?_)
  refine OJ.go 2 [(30, .bool (decide (s5 < (x21.len : Int)))), (29, .int .i64 (x21.len : Int))] ?_
  refine OJ.nil ?_
  refine SJ.cond (t := (.tmp 30)) (b := decide (s5 < (x21.len : Int))) decide_eq_true_iff (fun hc26 => ?_) (fun hc26 => ?_)
  · refine SJ.skip ?_
    refine SJ.seq ?_
    refine SJ.block (id := 1) ?_
    refine SJ.draw (id := 6) (kd := [0, 0, 0, 1, 0, 0, 2, 0, 2]) (bef := [0, 1, 3, 7, 0, 0, 32, 127, 255]) (ord := [0, 1, 2, 3, 4, 5, 6, 7, 8]) mixed ?_
    refine OJ.go 1 [(33, .pointer a0)] ?_
    refine OJ.nilck (d := 34) (y := .tmp 33) (fun p22 => ?_)
    refine OJ.go 1 [(35, .pointer (some p22))] ?_
    refine OJ.ld (d := 36) (y := .tmp 35) (pend2 := fun x23 => [⟨3, 22, p22, cL.val x23⟩]) Ty22 (fun _ => rfl) (fun x23 => ?_)
    refine OJ.go 2 [(38, .int .i64 s5), (37, .int .i64 s5)] ?_
    refine OJ.call (d := 39) (g := 56) (ats := #[3]) (args := [.tmp 38]) (owed := [⟨3, 22, p22, cL.val x23⟩]) F56 (weirlaw3_mark_ok s5) (fun r24 => ?_)
    refine OW.same Ty22 ?_
    refine OW.nil ?_
    refine OJ.idxS (d := 40) (T := 22) (y := .tmp 36) (j := .tmp 37) (E := 5) (cap := x23.cap) (k := .i64) (fun p25 => ?_)
    refine OJ.st (y := .tmp 40) (z := .tmp 39) (owed := []) Ty5 ?_
    refine OW.nil ?_
    refine OJ.nil ?_
    refine SJ.inBlock ?_
    refine SJ.rg 3 ?_
    refine OJ.go 3 [(5, .int .i64 (IntKind.wrap .i64 (s5 + 1))), (32, .int .i64 (IntKind.wrap .i64 (s5 + 1))), (31, .int .i64 s5)] ?_
    refine OJ.nil ?_
    exact SJ.at_ [0, 1, 5] rfl
  · refine SJ.exit (id := 0) (by rfl) ?_
    refine SJ.less [0, 1] (m' := [(0, .pointer a0), (1, Sl.v a1)]) ?_
    refine SJ.done ?_
    exact weirlaw3_Desk_Lend.K1_ok a0 a1
noncomputable def weirlaw3_Desk_Lend.K2 (a0 : (Option Addr)) (a1 : Sl) : M Sl :=
  loopM (fun s_ : Int => weirlaw3_Desk_Lend.L1 a0 a1 s_) 0
theorem weirlaw3_Desk_Lend.K2_ok (a0 : (Option Addr)) (a1 : Sl) :
    SJ weirlaw3_Desk_Lend.cx [.code (c2 (c2 weirlaw3_Desk_Lend.B))] [(0, .pointer a0), (1, Sl.v a1)] [] (weirlaw3_Desk_Lend.K2 a0 a1) weirlaw3_Desk_Lend.F0 := by
  unfold weirlaw3_Desk_Lend.K2
  refine SJ.seq ?_
  refine SJ.sr 1 ?_
  refine OJ.go 1 [(5, .int .i64 0)] ?_
  refine OJ.nil ?_
  refine SJ.block (id := 0) ?_
  exact SJ.loop (fun s_ : Int => [(0, .pointer a0), (1, Sl.v a1), (5, .int .i64 s_)]) (fun s_ : Int => []) [0, 1, 5] rfl (fun _ _ => rfl) (fun s_ => weirlaw3_Desk_Lend.L1_ok a0 a1 s_)
noncomputable def weirlaw3_Desk_Lend (a0 : (Option Addr)) (a1 : Sl) : M Sl :=
  nilck a0 >>= fun p1 =>
  ld cL p1 >>= fun x2 =>
  if (x2.len : Int) < (IntKind.wrap .i64 ((IntKind.wrap .i64 (2 * (a1.len : Int))) + 70)) then
    mkS (cI .u8) 5 1 0 (IntKind.wrap .i64 ((IntKind.wrap .i64 (2 * (a1.len : Int))) + 512)) (IntKind.wrap .i64 ((IntKind.wrap .i64 (2 * (a1.len : Int))) + 512)) >>= fun r27 =>
    nilck a0 >>= fun p28 =>
    st cL p28 r27 >>= fun _ =>
    weirlaw3_Desk_Lend.K2 a0 a1
  else
    weirlaw3_Desk_Lend.K2 a0 a1
theorem weirlaw3_Desk_Lend_ok (a0 : (Option Addr)) (a1 : Sl) : Ref Try.prog 41 [.pointer a0, Sl.v a1] (weirlaw3_Desk_Lend a0 a1) weirlaw3_Desk_Lend.out := by
  refine Ref.of (cd := weirlaw3_Desk_Lend.B) Try.func41 ?_
  show SJ weirlaw3_Desk_Lend.cx [.code weirlaw3_Desk_Lend.B] [(0, .pointer a0), (1, Sl.v a1)] [] (weirlaw3_Desk_Lend a0 a1) weirlaw3_Desk_Lend.F0
  unfold weirlaw3_Desk_Lend
  refine SJ.sr 1 ?_
  refine OJ.go 1 [(4, Sl.v Sl.nil)] ?_
  refine OJ.nil ?_
  refine SJ.seq ?_
  refine SJ.sr 10 ?_
  refine OJ.go 1 [(6, .pointer a0)] ?_
  refine OJ.nilck (d := 7) (y := .tmp 6) (fun p1 => ?_)
  refine OJ.go 1 [(8, .pointer (some p1))] ?_
  refine OJ.ld (d := 9) (y := .tmp 8) (pend2 := fun x2 => []) Ty22 (fun _ => rfl) (fun x2 => ?_)
  refine OJ.go 6 [(15, .bool (decide ((x2.len : Int) < (IntKind.wrap .i64 ((IntKind.wrap .i64 (2 * (a1.len : Int))) + 70))))), (14, .int .i64 (IntKind.wrap .i64 ((IntKind.wrap .i64 (2 * (a1.len : Int))) + 70))), (13, .int .i64 (IntKind.wrap .i64 (2 * (a1.len : Int)))), (12, .int .i64 (a1.len : Int)), (11, Sl.v a1), (10, .int .i64 (x2.len : Int))] ?_
  refine OJ.nil ?_
  refine SJ.cond (t := (.tmp 15)) (b := decide ((x2.len : Int) < (IntKind.wrap .i64 ((IntKind.wrap .i64 (2 * (a1.len : Int))) + 70)))) decide_eq_true_iff (fun hc29 => ?_) (fun hc29 => ?_)
  · refine SJ.rg 9 ?_
    refine OJ.go 5 [(20, .int .i64 (IntKind.wrap .i64 ((IntKind.wrap .i64 (2 * (a1.len : Int))) + 512))), (19, .int .i64 (IntKind.wrap .i64 (2 * (a1.len : Int)))), (18, .int .i64 (a1.len : Int)), (17, Sl.v a1), (16, .pointer a0)] ?_
    refine OJ.mk (d := 21) (t := 22) (lo := .tmp 20) (ko := .tmp 20) (k1 := .i64) (k2 := .i64) (owed := []) Ty5 (fun r27 => ?_)
    refine OW.nil ?_
    refine OJ.nilck (d := 22) (y := .tmp 16) (fun p28 => ?_)
    refine OJ.go 1 [(23, .pointer (some p28))] ?_
    refine OJ.st (y := .tmp 23) (z := .tmp 21) (owed := []) Ty22 ?_
    refine OW.nil ?_
    refine OJ.nil ?_
    refine SJ.less [0, 1] (m' := [(0, .pointer a0), (1, Sl.v a1)]) ?_
    exact weirlaw3_Desk_Lend.K2_ok a0 a1
  · refine SJ.skip ?_
    refine SJ.less [0, 1] (m' := [(0, .pointer a0), (1, Sl.v a1)]) ?_
    exact weirlaw3_Desk_Lend.K2_ok a0 a1

/-! ### (*weir/weirlaw3.Desk).Back: function 42 -/
noncomputable def weirlaw3_Desk_Back.B : Code := (Try.f42.body).getD .skip
noncomputable def weirlaw3_Desk_Back.cx : Fx := ⟨Try.prog, 42, Try.f42⟩
noncomputable def weirlaw3_Desk_Back.out (r_ : Bool) : Value := .bool r_
noncomputable def weirlaw3_Desk_Back.F0 (r_ : Bool) : Reach := .ret (weirlaw3_Desk_Back.out r_)
noncomputable def weirlaw3_Desk_Back.F1 (a0 : (Option Addr)) : (LS Int Bool) → Reach := loopF [.inLoop (c1 (c1 (c2 (c1 (c2 (c2 weirlaw3_Desk_Back.B)))))), .inBlock 0, .code (c2 (c2 (c2 weirlaw3_Desk_Back.B)))] (fun s_ : Int => [(0, .pointer a0), (5, .int .i64 s_)]) (fun s_ : Int => []) weirlaw3_Desk_Back.F0
noncomputable def weirlaw3_Desk_Back.L1 (a0 : (Option Addr)) (s12 : Int) : M (LS Int Bool) :=
  nilck a0 >>= fun p22 =>
  ld cL p22 >>= fun x23 =>
  if s12 < (x23.len : Int) then
    draw >>= fun _ =>
    nilck a0 >>= fun p24 =>
    ld cL p24 >>= fun x25 =>
    idx x25.a x25.len s12 1 >>= fun p26 =>
    ld (cI .u8) p26 >>= fun x27 =>
    weirlaw3_mark s12 >>= fun r28 =>
    same (cI .u8) p26 x27 >>= fun _ =>
    same cL p24 x25 >>= fun _ =>
    if x27 ≠ r28 then
      pure (LS.done false)
    else
      pure (LS.next (IntKind.wrap .i64 (s12 + 1)))
  else
    pure (LS.done true)
theorem weirlaw3_Desk_Back.L1_ok (a0 : (Option Addr)) (s12 : Int) :
    SJ weirlaw3_Desk_Back.cx [.code (c1 (c1 (c2 (c1 (c2 (c2 weirlaw3_Desk_Back.B)))))), .inLoop (c1 (c1 (c2 (c1 (c2 (c2 weirlaw3_Desk_Back.B)))))), .inBlock 0, .code (c2 (c2 (c2 weirlaw3_Desk_Back.B)))] [(0, .pointer a0), (5, .int .i64 s12)] [] (weirlaw3_Desk_Back.L1 a0 s12) (weirlaw3_Desk_Back.F1 a0) := by
  unfold weirlaw3_Desk_Back.L1
  refine SJ.seq ?_
  refine SJ.sr 7 ?_
  refine OJ.go 2 [(32, .pointer a0), (31, .int .i64 s12)] ?_
  refine OJ.nilck (d := 33) (y := .tmp 32) (fun p22 => ?_)
  refine OJ.go 1 [(34, .pointer (some p22))] ?_
  refine OJ.ld (d := 35) (y := .tmp 34) (pend2 := fun x23 => []) Ty22 (fun _ => rfl) (fun x23 => ?_)
  refine OJ.go 2 [(37, .bool (decide (s12 < (x23.len : Int)))), (36, .int .i64 (x23.len : Int))] ?_
  refine OJ.nil ?_
  refine SJ.cond (t := (.tmp 37)) (b := decide (s12 < (x23.len : Int))) decide_eq_true_iff (fun hc30 => ?_) (fun hc30 => ?_)
  · refine SJ.skip ?_
    refine SJ.seq ?_
    refine SJ.block (id := 1) ?_
    refine SJ.seq ?_
    refine SJ.draw (id := 6) (kd := [0, 0, 0, 1, 0, 0, 1, 0, 2, 0]) (bef := [0, 1, 3, 7, 0, 31, 63, 0, 128, 511]) (ord := [0, 1, 2, 3, 4, 5, 6, 7, 8, 9]) mixed ?_
    refine OJ.go 1 [(40, .pointer a0)] ?_
    refine OJ.nilck (d := 41) (y := .tmp 40) (fun p24 => ?_)
    refine OJ.go 1 [(42, .pointer (some p24))] ?_
    refine OJ.ld (d := 43) (y := .tmp 42) (pend2 := fun x25 => [⟨3, 22, p24, cL.val x25⟩]) Ty22 (fun _ => rfl) (fun x25 => ?_)
    refine OJ.go 1 [(44, .int .i64 s12)] ?_
    refine OJ.idxS (d := 45) (T := 22) (y := .tmp 43) (j := .tmp 44) (E := 5) (cap := x25.cap) (k := .i64) (fun p26 => ?_)
    refine OJ.ld (d := 46) (y := .tmp 45) (pend2 := fun x27 => [⟨6, 5, p26, (cI .u8).val x27⟩, ⟨3, 22, p24, cL.val x25⟩]) Ty5 (fun _ => rfl) (fun x27 => ?_)
    refine OJ.go 1 [(47, .int .i64 s12)] ?_
    refine OJ.call (d := 48) (g := 56) (ats := #[3]) (args := [.tmp 47]) (owed := [⟨6, 5, p26, (cI .u8).val x27⟩, ⟨3, 22, p24, cL.val x25⟩]) F56 (weirlaw3_mark_ok s12) (fun r28 => ?_)
    refine OW.same Ty5 ?_
    refine OW.same Ty22 ?_
    refine OW.nil ?_
    refine OJ.go 1 [(49, .bool (x27 != r28))] ?_
    refine OJ.nil ?_
    refine SJ.cond (t := (.tmp 49)) (b := (x27 != r28)) bne_iff_ne (fun hc29 => ?_) (fun hc29 => ?_)
    · refine SJ.sr 1 ?_
      refine OJ.go 1 [(4, .bool false)] ?_
      refine OJ.nil ?_
      exact SJ.ret rfl (Res.run (ys := [.bool false]) (.tmp (by kernel_rfl) .nil) rfl)
    · refine SJ.skip ?_
      refine SJ.inBlock ?_
      refine SJ.rg 3 ?_
      refine OJ.go 3 [(5, .int .i64 (IntKind.wrap .i64 (s12 + 1))), (39, .int .i64 (IntKind.wrap .i64 (s12 + 1))), (38, .int .i64 s12)] ?_
      refine OJ.nil ?_
      exact SJ.at_ [0, 5] rfl
  · refine SJ.exit (id := 0) (by rfl) ?_
    refine SJ.sr 1 ?_
    refine OJ.go 1 [(4, .bool true)] ?_
    refine OJ.nil ?_
    exact SJ.ret rfl (Res.run (ys := [.bool true]) (.tmp (by kernel_rfl) .nil) rfl)
noncomputable def weirlaw3_Desk_Back (a0 : (Option Addr)) (a1 : Sl) : M Bool :=
  draw >>= fun _ =>
  nilck a0 >>= fun p1 =>
  ld (cI .i64) (Addr.add p1 1) >>= fun x2 =>
  (if x2 ≠ (a1.len : Int) then
      pure true
    else
      nilck a0 >>= fun p3 =>
      ld cL p3 >>= fun x4 =>
      nilck a0 >>= fun p5 =>
      ld (cI .i64) (Addr.add p5 1) >>= fun x6 =>
      cut 1 x4 none (some x6) none >>= fun r7 =>
      weirlaw3_alike r7 a1 >>= fun r8 =>
      pure (!r8)) >>= fun y9 =>
  if y9 = true then
    pure false
  else
    nilck a0 >>= fun p10 =>
    ld (cI .i64) (Addr.add p10 1) >>= fun x11 =>
    loopM (fun s_ : Int => weirlaw3_Desk_Back.L1 a0 s_) x11
theorem weirlaw3_Desk_Back_ok (a0 : (Option Addr)) (a1 : Sl) : Ref Try.prog 42 [.pointer a0, Sl.v a1] (weirlaw3_Desk_Back a0 a1) weirlaw3_Desk_Back.out := by
  refine Ref.of (cd := weirlaw3_Desk_Back.B) Try.func42 ?_
  show SJ weirlaw3_Desk_Back.cx [.code weirlaw3_Desk_Back.B] [(0, .pointer a0), (1, Sl.v a1)] [] (weirlaw3_Desk_Back a0 a1) weirlaw3_Desk_Back.F0
  unfold weirlaw3_Desk_Back
  refine SJ.sr 1 ?_
  refine OJ.go 1 [(4, .bool false)] ?_
  refine OJ.nil ?_
  refine SJ.seq ?_
  refine SJ.seq ?_
  refine SJ.draw (id := 1) (kd := [0, 0, 0, 1, 0, 0, 0, 0, 0, 0, 0, 1, 0, 0, 0, 1, 0, 0, 2, 0, 0]) (bef := [0, 1, 3, 7, 0, 16, 63, 127, 255, 511, 1023, 2047, 255, 4351, 12543, 28927, 65535, 255, 262143, 524287, 1048575]) (ord := [0, 1, 2, 3, 4, 5, 6, 7, 8, 9, 10, 11, 12, 13, 14, 15, 16, 17, 18, 19, 20]) mixed ?_
  refine OJ.go 1 [(6, .pointer a0)] ?_
  refine OJ.nilck (d := 7) (y := .tmp 6) (fun p1 => ?_)
  refine OJ.go 1 [(8, .pointer (some (Addr.add p1 1)))] ?_
  refine OJ.ld (d := 9) (y := .tmp 8) (pend2 := fun x2 => [⟨3, 3, (Addr.add p1 1), (cI .i64).val x2⟩]) Ty3 (fun _ => rfl) (fun x2 => ?_)
  refine OJ.go 4 [(13, .bool (x2 != (a1.len : Int))), (12, .bool (x2 != (a1.len : Int))), (11, .int .i64 (a1.len : Int)), (10, Sl.v a1)] ?_
  refine OJ.join (b := (x2 != (a1.len : Int))) [8, 9, 10, 11, 12, 13, 14, 15, 16, 17, 18, 19, 20] [] [0, 26] (fun y9 => [(0, .pointer a0), (26, .bool y9)]) [⟨3, 3, (Addr.add p1 1), (cI .i64).val x2⟩] [11, 15] (t := 13) bne_iff_ne (fun hp_ => ?_) (fun hp_ => ?_) (fun _ _ _ _ _ _ h_ => h_) (fun y9 => ?_)
  · refine OJ.go 13 [(26, .bool true), (25, undef), (24, undef), (23, undef), (22, undef), (21, undef), (20, undef), (19, undef), (18, undef), (17, undef), (16, undef), (15, undef), (14, undef)] ?_
    exact OJ.nil ⟨(Cov.mem (Cov.keep (List.mem_of_getElem? (i := 0) rfl) Cov.nil)), rfl, _, rfl, by kernel_rfl⟩
  · refine OJ.go 1 [(14, .pointer a0)] ?_
    refine OJ.nilck (d := 15) (y := .tmp 14) (fun p3 => ?_)
    refine OJ.go 1 [(16, .pointer (some p3))] ?_
    refine OJ.ld (d := 17) (y := .tmp 16) (pend2 := fun x4 => [⟨11, 22, p3, cL.val x4⟩, ⟨3, 3, (Addr.add p1 1), (cI .i64).val x2⟩]) Ty22 (fun _ => rfl) (fun x4 => ?_)
    refine OJ.go 1 [(18, .pointer a0)] ?_
    refine OJ.nilck (d := 19) (y := .tmp 18) (fun p5 => ?_)
    refine OJ.go 1 [(20, .pointer (some (Addr.add p5 1)))] ?_
    refine OJ.ld (d := 21) (y := .tmp 20) (pend2 := fun x6 => [⟨15, 3, (Addr.add p5 1), (cI .i64).val x6⟩, ⟨11, 22, p3, cL.val x4⟩, ⟨3, 3, (Addr.add p1 1), (cI .i64).val x2⟩]) Ty3 (fun _ => rfl) (fun x6 => ?_)
    refine OJ.cut (d := 22) (t := 22) (E := 5) (y := .tmp 17) (lo := none) (hi := (some (.tmp 21))) (mx := none) (lo' := none) (hi' := some (.i64, x6)) (mx' := none) (fun h => by cases h) (fun r7 => ?_)
    refine OJ.go 1 [(23, Sl.v a1)] ?_
    refine OJ.call (d := 24) (g := 19) (ats := #[22, 22]) (args := [.tmp 22, .tmp 23]) (owed := []) F19 (weirlaw3_alike_ok r7 a1) (fun r8 => ?_)
    refine OW.nil ?_
    refine OJ.go 2 [(26, .bool (!r8)), (25, .bool (!r8))] ?_
    exact OJ.nil ⟨(Cov.mem (Cov.drop (List.mem_of_getElem? (i := 1) rfl) (Cov.drop (List.mem_of_getElem? (i := 0) rfl) (Cov.keep (List.mem_of_getElem? (i := 0) rfl) Cov.nil)))), rfl, _, rfl, by kernel_rfl⟩
  · refine OJ.nil ?_
    refine SJ.cond (t := (.tmp 26)) (b := y9) Iff.rfl (fun hc31 => ?_) (fun hc31 => ?_)
    · refine SJ.sr 1 ?_
      refine OJ.go 1 [(4, .bool false)] ?_
      refine OJ.nil ?_
      exact SJ.ret rfl (Res.run (ys := [.bool false]) (.tmp (by kernel_rfl) .nil) rfl)
    · refine SJ.skip ?_
      refine SJ.seq ?_
      refine SJ.sr 5 ?_
      refine OJ.go 1 [(27, .pointer a0)] ?_
      refine OJ.nilck (d := 28) (y := .tmp 27) (fun p10 => ?_)
      refine OJ.go 1 [(29, .pointer (some (Addr.add p10 1)))] ?_
      refine OJ.ld (d := 30) (y := .tmp 29) (pend2 := fun x11 => []) Ty3 (fun _ => rfl) (fun x11 => ?_)
      refine OJ.go 1 [(5, .int .i64 x11)] ?_
      refine OJ.nil ?_
      refine SJ.block (id := 0) ?_
      exact SJ.loop (fun s_ : Int => [(0, .pointer a0), (5, .int .i64 s_)]) (fun s_ : Int => []) [0, 5] rfl (fun _ _ => rfl) (fun s_ => weirlaw3_Desk_Back.L1_ok a0 s_)

/-! ### (*weir/weirlaw3.Desk).Wipe: function 43 -/
noncomputable def weirlaw3_Desk_Wipe.B : Code := (Try.f43.body).getD .skip
noncomputable def weirlaw3_Desk_Wipe.cx : Fx := ⟨Try.prog, 43, Try.f43⟩
noncomputable def weirlaw3_Desk_Wipe.out (r_ : Unit) : Value := .tuple #[]
noncomputable def weirlaw3_Desk_Wipe.F0 (r_ : Unit) : Reach := .ret (weirlaw3_Desk_Wipe.out r_)
noncomputable def weirlaw3_Desk_Wipe.F1 (a0 : (Option Addr)) : (LS Int Unit) → Reach := loopF [.inLoop (c1 (c1 (c2 weirlaw3_Desk_Wipe.B))), .inBlock 0] (fun s_ : Int => [(0, .pointer a0), (2, .int .i64 s_)]) (fun s_ : Int => []) weirlaw3_Desk_Wipe.F0
noncomputable def weirlaw3_Desk_Wipe.L1 (a0 : (Option Addr)) (s1 : Int) : M (LS Int Unit) :=
  nilck a0 >>= fun p2 =>
  ld (cI .i64) (Addr.add p2 1) >>= fun x3 =>
  if s1 < x3 then
    draw >>= fun _ =>
    nilck a0 >>= fun p4 =>
    ld cL p4 >>= fun x5 =>
    nilck a0 >>= fun p6 =>
    ld cL p6 >>= fun x7 =>
    idx x7.a x7.len s1 1 >>= fun p8 =>
    ld (cI .u8) p8 >>= fun x9 =>
    idx x5.a x5.len s1 1 >>= fun p10 =>
    st (cI .u8) p10 (bxor .u8 x9 255) >>= fun _ =>
    pure (LS.next (IntKind.wrap .i64 (s1 + 1)))
  else
    pure (LS.done ())
theorem weirlaw3_Desk_Wipe.L1_ok (a0 : (Option Addr)) (s1 : Int) :
    SJ weirlaw3_Desk_Wipe.cx [.code (c1 (c1 (c2 weirlaw3_Desk_Wipe.B))), .inLoop (c1 (c1 (c2 weirlaw3_Desk_Wipe.B))), .inBlock 0] [(0, .pointer a0), (2, .int .i64 s1)] [] (weirlaw3_Desk_Wipe.L1 a0 s1) (weirlaw3_Desk_Wipe.F1 a0) := by
  unfold weirlaw3_Desk_Wipe.L1
  refine SJ.seq ?_
  refine SJ.sr 6 ?_
  refine OJ.go 2 [(4, .pointer a0), (3, .int .i64 s1)] ?_
  refine OJ.nilck (d := 5) (y := .tmp 4) (fun p2 => ?_)
  refine OJ.go 1 [(6, .pointer (some (Addr.add p2 1)))] ?_
  refine OJ.ld (d := 7) (y := .tmp 6) (pend2 := fun x3 => []) Ty3 (fun _ => rfl) (fun x3 => ?_)
  refine OJ.go 1 [(8, .bool (decide (s1 < x3)))] ?_
  refine OJ.nil ?_
  refine SJ.cond (t := (.tmp 8)) (b := decide (s1 < x3)) decide_eq_true_iff (fun hc11 => ?_) (fun hc11 => ?_)
  · refine SJ.skip ?_
    refine SJ.seq ?_
    refine SJ.block (id := 1) ?_
    refine SJ.draw (id := 3) (kd := [0, 0, 0, 1, 0, 0, 0, 0, 1, 0, 0, 1, 0, 0, 2]) (bef := [0, 1, 3, 7, 0, 0, 32, 96, 224, 0, 992, 2016, 4064, 8191, 16383]) (ord := [0, 1, 2, 3, 4, 5, 6, 7, 8, 9, 10, 11, 12, 13, 14]) mixed ?_
    refine OJ.go 1 [(11, .pointer a0)] ?_
    refine OJ.nilck (d := 12) (y := .tmp 11) (fun p4 => ?_)
    refine OJ.go 1 [(13, .pointer (some p4))] ?_
    refine OJ.ld (d := 14) (y := .tmp 13) (pend2 := fun x5 => [⟨3, 22, p4, cL.val x5⟩]) Ty22 (fun _ => rfl) (fun x5 => ?_)
    refine OJ.go 2 [(16, .pointer a0), (15, .int .i64 s1)] ?_
    refine OJ.nilck (d := 17) (y := .tmp 16) (fun p6 => ?_)
    refine OJ.go 1 [(18, .pointer (some p6))] ?_
    refine OJ.ld (d := 19) (y := .tmp 18) (pend2 := fun x7 => [⟨8, 22, p6, cL.val x7⟩, ⟨3, 22, p4, cL.val x5⟩]) Ty22 (fun _ => rfl) (fun x7 => ?_)
    refine OJ.go 1 [(20, .int .i64 s1)] ?_
    refine OJ.idxS (d := 21) (T := 22) (y := .tmp 19) (j := .tmp 20) (E := 5) (cap := x7.cap) (k := .i64) (fun p8 => ?_)
    refine OJ.ld (d := 22) (y := .tmp 21) (pend2 := fun x9 => [⟨11, 5, p8, (cI .u8).val x9⟩, ⟨8, 22, p6, cL.val x7⟩, ⟨3, 22, p4, cL.val x5⟩]) Ty5 (fun _ => rfl) (fun x9 => ?_)
    refine OJ.go 1 [(23, .int .u8 (bxor .u8 x9 255))] ?_
    refine OJ.idxS (d := 24) (T := 22) (y := .tmp 14) (j := .tmp 15) (E := 5) (cap := x5.cap) (k := .i64) (fun p10 => ?_)
    refine OJ.st (y := .tmp 24) (z := .tmp 23) (owed := []) Ty5 ?_
    refine OW.nil ?_
    refine OJ.nil ?_
    refine SJ.inBlock ?_
    refine SJ.rg 3 ?_
    refine OJ.go 3 [(2, .int .i64 (IntKind.wrap .i64 (s1 + 1))), (10, .int .i64 (IntKind.wrap .i64 (s1 + 1))), (9, .int .i64 s1)] ?_
    refine OJ.nil ?_
    exact SJ.at_ [0, 2] rfl
  · refine SJ.exit (id := 0) (by rfl) ?_
    exact SJ.end_ rfl (Res.run (ys := []) .nil rfl)
noncomputable def weirlaw3_Desk_Wipe (a0 : (Option Addr)) : M Unit :=
  loopM (fun s_ : Int => weirlaw3_Desk_Wipe.L1 a0 s_) 0
theorem weirlaw3_Desk_Wipe_ok (a0 : (Option Addr)) : Ref Try.prog 43 [.pointer a0] (weirlaw3_Desk_Wipe a0) weirlaw3_Desk_Wipe.out := by
  refine Ref.of (cd := weirlaw3_Desk_Wipe.B) Try.func43 ?_
  show SJ weirlaw3_Desk_Wipe.cx [.code weirlaw3_Desk_Wipe.B] [(0, .pointer a0)] [] (weirlaw3_Desk_Wipe a0) weirlaw3_Desk_Wipe.F0
  unfold weirlaw3_Desk_Wipe
  refine SJ.sr 1 ?_
  refine OJ.go 1 [(2, .int .i64 0)] ?_
  refine OJ.nil ?_
  refine SJ.block (id := 0) ?_
  exact SJ.loop (fun s_ : Int => [(0, .pointer a0), (2, .int .i64 s_)]) (fun s_ : Int => []) [0, 2] rfl (fun _ _ => rfl) (fun s_ => weirlaw3_Desk_Wipe.L1_ok a0 s_)

/-! ### (*weir/weirlaw3.Book).Keep: function 34 -/
noncomputable def weirlaw3_Book_Keep.B : Code := (Try.f34.body).getD .skip
noncomputable def weirlaw3_Book_Keep.cx : Fx := ⟨Try.prog, 34, Try.f34⟩
noncomputable def weirlaw3_Book_Keep.out (r_ : Unit) : Value := .tuple #[]
noncomputable def weirlaw3_Book_Keep.F0 (r_ : Unit) : Reach := .ret (weirlaw3_Book_Keep.out r_)
noncomputable def weirlaw3_Book_Keep (a0 : (Option Addr)) (a1 : Sl) : M Unit :=
  appS (cI .u8) 5 1 0 Sl.nil a1 >>= fun r1 =>
  nilck a0 >>= fun p2 =>
  ld cL p2 >>= fun x3 =>
  slot 22 >>= fun b4 =>
  appl cL 22 24 Sl.nil x3 [a1] >>= fun r5 =>
  nilck a0 >>= fun p6 =>
  st cL p6 r5 >>= fun _ =>
  nilck a0 >>= fun p7 =>
  ld cL (Addr.add p7 1) >>= fun x8 =>
  slot 22 >>= fun b9 =>
  appl cL 22 24 Sl.nil x8 [r1] >>= fun r10 =>
  nilck a0 >>= fun p11 =>
  st cL (Addr.add p11 1) r10 >>= fun _ =>
  pure ()
theorem weirlaw3_Book_Keep_ok (a0 : (Option Addr)) (a1 : Sl) : Ref Try.prog 34 [.pointer a0, Sl.v a1] (weirlaw3_Book_Keep a0 a1) weirlaw3_Book_Keep.out := by
  refine Ref.of (cd := weirlaw3_Book_Keep.B) Try.func34 ?_
  show SJ weirlaw3_Book_Keep.cx [.code weirlaw3_Book_Keep.B] [(0, .pointer a0), (1, Sl.v a1)] [] (weirlaw3_Book_Keep a0 a1) weirlaw3_Book_Keep.F0
  unfold weirlaw3_Book_Keep
  refine SJ.sr 1 ?_
  refine OJ.go 1 [(4, Sl.v Sl.nil)] ?_
  refine OJ.nil ?_
  refine SJ.sr 4 ?_
  refine OJ.go 2 [(6, Sl.v a1), (5, Sl.v Sl.nil)] ?_
  refine OJ.appS (d := 7) (t := 22) (u := 22) (so := .tmp 5) (xo := .tmp 6) (owed := []) Ty5 (fun r1 => ?_)
  refine OW.nil ?_
  refine OJ.go 1 [(4, Sl.v r1)] ?_
  refine OJ.nil ?_
  refine SJ.sr 11 ?_
  refine OJ.go 2 [(9, .pointer a0), (8, .pointer a0)] ?_
  refine OJ.nilck (d := 10) (y := .tmp 9) (fun p2 => ?_)
  refine OJ.go 1 [(11, .pointer (some p2))] ?_
  refine OJ.ld (d := 12) (y := .tmp 11) (pend2 := fun x3 => []) Ty43 (fun _ => rfl) (fun x3 => ?_)
  refine OJ.go 1 [(13, Sl.v a1)] ?_
  refine OJ.rowSlot (d := 14) (t := 43) (parts := [(0, .tmp 13)]) (ps := [(0, cL.val a1)]) (cd := cL) (⟨[a1], rfl⟩ : Vec Sl 1) (owed := []) Ty22 (Filled.cons (cd := cL) (q := a1) (o := 0) rfl (Upd.arr (i := 0) (by decide) (by decide)) Filled.nil) (fun b4 => ?_)
  refine OW.nil ?_
  refine OJ.appl (d := 15) (t := 43) (u := 43) (so := .tmp 12) (xo := .tmp 14) (j := 0) (b := b4) (l := (cL.arr 1).enc (⟨[a1], rfl⟩ : Vec Sl 1)) (n := 1) (k := 1) [a1] (owed := []) Ty22 (by rfl) (Cod.arr_enc _ _ _) (by rfl) (fun r5 => ?_)
  refine OW.nil ?_
  refine OJ.nilck (d := 16) (y := .tmp 8) (fun p6 => ?_)
  refine OJ.go 1 [(17, .pointer (some p6))] ?_
  refine OJ.st (y := .tmp 17) (z := .tmp 15) (owed := []) Ty43 ?_
  refine OW.nil ?_
  refine OJ.nil ?_
  refine SJ.rg 11 ?_
  refine OJ.go 2 [(19, .pointer a0), (18, .pointer a0)] ?_
  refine OJ.nilck (d := 20) (y := .tmp 19) (fun p7 => ?_)
  refine OJ.go 1 [(21, .pointer (some (Addr.add p7 1)))] ?_
  refine OJ.ld (d := 22) (y := .tmp 21) (pend2 := fun x8 => []) Ty43 (fun _ => rfl) (fun x8 => ?_)
  refine OJ.go 1 [(23, Sl.v r1)] ?_
  refine OJ.rowSlot (d := 24) (t := 43) (parts := [(0, .tmp 23)]) (ps := [(0, cL.val r1)]) (cd := cL) (⟨[r1], rfl⟩ : Vec Sl 1) (owed := []) Ty22 (Filled.cons (cd := cL) (q := r1) (o := 0) rfl (Upd.arr (i := 0) (by decide) (by decide)) Filled.nil) (fun b9 => ?_)
  refine OW.nil ?_
  refine OJ.appl (d := 25) (t := 43) (u := 43) (so := .tmp 22) (xo := .tmp 24) (j := 0) (b := b9) (l := (cL.arr 1).enc (⟨[r1], rfl⟩ : Vec Sl 1)) (n := 1) (k := 1) [r1] (owed := []) Ty22 (by rfl) (Cod.arr_enc _ _ _) (by rfl) (fun r10 => ?_)
  refine OW.nil ?_
  refine OJ.nilck (d := 26) (y := .tmp 18) (fun p11 => ?_)
  refine OJ.go 1 [(27, .pointer (some (Addr.add p11 1)))] ?_
  refine OJ.st (y := .tmp 27) (z := .tmp 25) (owed := []) Ty43 ?_
  refine OW.nil ?_
  refine OJ.nil ?_
  exact SJ.end_ rfl (Res.run (ys := []) .nil rfl)

/-! ### (*weir/weirlaw3.Book).Untouched: function 37 -/
noncomputable def weirlaw3_Book_Untouched.B : Code := (Try.f37.body).getD .skip
noncomputable def weirlaw3_Book_Untouched.cx : Fx := ⟨Try.prog, 37, Try.f37⟩
noncomputable def weirlaw3_Book_Untouched.out (r_ : Bool) : Value := .bool r_
noncomputable def weirlaw3_Book_Untouched.F0 (r_ : Bool) : Reach := .ret (weirlaw3_Book_Untouched.out r_)
noncomputable def weirlaw3_Book_Untouched.F1 (a0 : (Option Addr)) : (LS Int Bool) → Reach := loopF [.inLoop (c1 (c1 (c2 (c1 (c2 weirlaw3_Book_Untouched.B))))), .inBlock 0, .code (c2 (c2 weirlaw3_Book_Untouched.B))] (fun s_ : Int => [(0, .pointer a0), (3, .int .i64 s_)]) (fun s_ : Int => []) weirlaw3_Book_Untouched.F0
noncomputable def weirlaw3_Book_Untouched.L1 (a0 : (Option Addr)) (s1 : Int) : M (LS Int Bool) :=
  nilck a0 >>= fun p15 =>
  ld cL p15 >>= fun x16 =>
  if s1 < (x16.len : Int) then
    draw >>= fun _ =>
    nilck a0 >>= fun p17 =>
    ld cL p17 >>= fun x18 =>
    idx x18.a x18.len s1 1 >>= fun p19 =>
    ld cL p19 >>= fun x20 =>
    nilck a0 >>= fun p21 =>
    ld cL (Addr.add p21 1) >>= fun x22 =>
    idx x22.a x22.len s1 1 >>= fun p23 =>
    ld cL p23 >>= fun x24 =>
    weirlaw3_alike x20 x24 >>= fun r25 =>
    if ¬ (r25 = true) then
      pure (LS.done false)
    else
      pure (LS.next (IntKind.wrap .i64 (s1 + 1)))
  else
    pure (LS.done true)
theorem weirlaw3_Book_Untouched.L1_ok (a0 : (Option Addr)) (s1 : Int) :
    SJ weirlaw3_Book_Untouched.cx [.code (c1 (c1 (c2 (c1 (c2 weirlaw3_Book_Untouched.B))))), .inLoop (c1 (c1 (c2 (c1 (c2 weirlaw3_Book_Untouched.B))))), .inBlock 0, .code (c2 (c2 weirlaw3_Book_Untouched.B))] [(0, .pointer a0), (3, .int .i64 s1)] [] (weirlaw3_Book_Untouched.L1 a0 s1) (weirlaw3_Book_Untouched.F1 a0) := by
  unfold weirlaw3_Book_Untouched.L1
  refine SJ.seq ?_
  refine SJ.sr 7 ?_
  refine OJ.go 2 [(5, .pointer a0), (4, .int .i64 s1)] ?_
  refine OJ.nilck (d := 6) (y := .tmp 5) (fun p15 => ?_)
  refine OJ.go 1 [(7, .pointer (some p15))] ?_
  refine OJ.ld (d := 8) (y := .tmp 7) (pend2 := fun x16 => []) Ty43 (fun _ => rfl) (fun x16 => ?_)
  refine OJ.go 2 [(10, .bool (decide (s1 < (x16.len : Int)))), (9, .int .i64 (x16.len : Int))] ?_
  refine OJ.nil ?_
  refine SJ.cond (t := (.tmp 10)) (b := decide (s1 < (x16.len : Int))) decide_eq_true_iff (fun hc27 => ?_) (fun hc27 => ?_)
  · refine SJ.skip ?_
    refine SJ.seq ?_
    refine SJ.block (id := 1) ?_
    refine SJ.seq ?_
    refine SJ.draw (id := 4) (kd := [0, 0, 0, 1, 0, 0, 1, 0, 0, 0, 1, 0, 0, 1, 2, 0]) (bef := [0, 1, 3, 7, 0, 31, 63, 0, 128, 384, 896, 0, 3968, 8064, 16383, 32767]) (ord := [0, 1, 2, 3, 4, 5, 6, 7, 8, 9, 10, 11, 12, 13, 14, 15]) mixed ?_
    refine OJ.go 1 [(13, .pointer a0)] ?_
    refine OJ.nilck (d := 14) (y := .tmp 13) (fun p17 => ?_)
    refine OJ.go 1 [(15, .pointer (some p17))] ?_
    refine OJ.ld (d := 16) (y := .tmp 15) (pend2 := fun x18 => [⟨3, 43, p17, cL.val x18⟩]) Ty43 (fun _ => rfl) (fun x18 => ?_)
    refine OJ.go 1 [(17, .int .i64 s1)] ?_
    refine OJ.idxS (d := 18) (T := 43) (y := .tmp 16) (j := .tmp 17) (E := 22) (cap := x18.cap) (k := .i64) (fun p19 => ?_)
    refine OJ.ld (d := 19) (y := .tmp 18) (pend2 := fun x20 => [⟨6, 22, p19, cL.val x20⟩, ⟨3, 43, p17, cL.val x18⟩]) Ty22 (fun _ => rfl) (fun x20 => ?_)
    refine OJ.go 1 [(20, .pointer a0)] ?_
    refine OJ.nilck (d := 21) (y := .tmp 20) (fun p21 => ?_)
    refine OJ.go 1 [(22, .pointer (some (Addr.add p21 1)))] ?_
    refine OJ.ld (d := 23) (y := .tmp 22) (pend2 := fun x22 => [⟨10, 43, (Addr.add p21 1), cL.val x22⟩, ⟨6, 22, p19, cL.val x20⟩, ⟨3, 43, p17, cL.val x18⟩]) Ty43 (fun _ => rfl) (fun x22 => ?_)
    refine OJ.go 1 [(24, .int .i64 s1)] ?_
    refine OJ.idxS (d := 25) (T := 43) (y := .tmp 23) (j := .tmp 24) (E := 22) (cap := x22.cap) (k := .i64) (fun p23 => ?_)
    refine OJ.ld (d := 26) (y := .tmp 25) (pend2 := fun x24 => [⟨13, 22, p23, cL.val x24⟩, ⟨10, 43, (Addr.add p21 1), cL.val x22⟩, ⟨6, 22, p19, cL.val x20⟩, ⟨3, 43, p17, cL.val x18⟩]) Ty22 (fun _ => rfl) (fun x24 => ?_)
    refine OJ.call (d := 27) (g := 19) (ats := #[22, 22]) (args := [.tmp 19, .tmp 26]) (owed := []) F19 (weirlaw3_alike_ok x20 x24) (fun r25 => ?_)
    refine OW.nil ?_
    refine OJ.go 1 [(28, .bool (!r25))] ?_
    refine OJ.nil ?_
    refine SJ.cond (t := (.tmp 28)) (b := (!r25)) (bnot_iff Iff.rfl) (fun hc26 => ?_) (fun hc26 => ?_)
    · refine SJ.sr 1 ?_
      refine OJ.go 1 [(2, .bool false)] ?_
      refine OJ.nil ?_
      exact SJ.ret rfl (Res.run (ys := [.bool false]) (.tmp (by kernel_rfl) .nil) rfl)
    · refine SJ.skip ?_
      refine SJ.inBlock ?_
      refine SJ.rg 3 ?_
      refine OJ.go 3 [(3, .int .i64 (IntKind.wrap .i64 (s1 + 1))), (12, .int .i64 (IntKind.wrap .i64 (s1 + 1))), (11, .int .i64 s1)] ?_
      refine OJ.nil ?_
      exact SJ.at_ [0, 3] rfl
  · refine SJ.exit (id := 0) (by rfl) ?_
    refine SJ.sr 1 ?_
    refine OJ.go 1 [(2, .bool true)] ?_
    refine OJ.nil ?_
    exact SJ.ret rfl (Res.run (ys := [.bool true]) (.tmp (by kernel_rfl) .nil) rfl)
noncomputable def weirlaw3_Book_Untouched (a0 : (Option Addr)) : M Bool :=
  loopM (fun s_ : Int => weirlaw3_Book_Untouched.L1 a0 s_) 0
theorem weirlaw3_Book_Untouched_ok (a0 : (Option Addr)) : Ref Try.prog 37 [.pointer a0] (weirlaw3_Book_Untouched a0) weirlaw3_Book_Untouched.out := by
  refine Ref.of (cd := weirlaw3_Book_Untouched.B) Try.func37 ?_
  show SJ weirlaw3_Book_Untouched.cx [.code weirlaw3_Book_Untouched.B] [(0, .pointer a0)] [] (weirlaw3_Book_Untouched a0) weirlaw3_Book_Untouched.F0
  unfold weirlaw3_Book_Untouched
  refine SJ.sr 1 ?_
  refine OJ.go 1 [(2, .bool false)] ?_
  refine OJ.nil ?_
  refine SJ.seq ?_
  refine SJ.sr 1 ?_
  refine OJ.go 1 [(3, .int .i64 0)] ?_
  refine OJ.nil ?_
  refine SJ.block (id := 0) ?_
  exact SJ.loop (fun s_ : Int => [(0, .pointer a0), (3, .int .i64 s_)]) (fun s_ : Int => []) [0, 3] rfl (fun _ _ => rfl) (fun s_ => weirlaw3_Book_Untouched.L1_ok a0 s_)

/-! ### weir/weirlaw3.full: function 54 -/
noncomputable def weirlaw3_full.B : Code := (Try.f54.body).getD .skip
noncomputable def weirlaw3_full.cx : Fx := ⟨Try.prog, 54, Try.f54⟩
noncomputable def weirlaw3_full.out (r_ : Bool) : Value := .bool r_
noncomputable def weirlaw3_full.F0 (r_ : Bool) : Reach := .ret (weirlaw3_full.out r_)
noncomputable def weirlaw3_full.F1 (a0 : Sl) (a1 : Int) : (LS Int Bool) → Reach := loopF [.inLoop (c1 (c1 (c2 (c1 (c2 weirlaw3_full.B))))), .inBlock 0, .code (c2 (c2 weirlaw3_full.B))] (fun s_ : Int => [(0, Sl.v a0), (1, .int .u8 a1), (5, .int .i64 s_)]) (fun s_ : Int => []) weirlaw3_full.F0
noncomputable def weirlaw3_full.L1 (a0 : Sl) (a1 : Int) (s1 : Int) : M (LS Int Bool) :=
  if s1 < (a0.len : Int) then
    idx a0.a a0.len s1 1 >>= fun p6 =>
    ld (cI .u8) p6 >>= fun x7 =>
    if x7 ≠ a1 then
      pure (LS.done false)
    else
      pure (LS.next (IntKind.wrap .i64 (s1 + 1)))
  else
    pure (LS.done true)
theorem weirlaw3_full.L1_ok (a0 : Sl) (a1 : Int) (s1 : Int) :
    SJ weirlaw3_full.cx [.code (c1 (c1 (c2 (c1 (c2 weirlaw3_full.B))))), .inLoop (c1 (c1 (c2 (c1 (c2 weirlaw3_full.B))))), .inBlock 0, .code (c2 (c2 weirlaw3_full.B))] [(0, Sl.v a0), (1, .int .u8 a1), (5, .int .i64 s1)] [] (weirlaw3_full.L1 a0 a1 s1) (weirlaw3_full.F1 a0 a1) := by
  unfold weirlaw3_full.L1
  refine SJ.seq ?_
  refine SJ.sr 4 ?_
  refine OJ.go 4 [(9, .bool (decide (s1 < (a0.len : Int)))), (8, .int .i64 (a0.len : Int)), (7, Sl.v a0), (6, .int .i64 s1)] ?_
  refine OJ.nil ?_
  refine SJ.cond (t := (.tmp 9)) (b := decide (s1 < (a0.len : Int))) decide_eq_true_iff (fun hc9 => ?_) (fun hc9 => ?_)
  · refine SJ.skip ?_
    refine SJ.seq ?_
    refine SJ.block (id := 1) ?_
    refine SJ.sr 6 ?_
    refine OJ.go 2 [(13, .int .i64 s1), (12, Sl.v a0)] ?_
    refine OJ.idxS (d := 14) (T := 22) (y := .tmp 12) (j := .tmp 13) (E := 5) (cap := a0.cap) (k := .i64) (fun p6 => ?_)
    refine OJ.ld (d := 15) (y := .tmp 14) (pend2 := fun x7 => []) Ty5 (fun _ => rfl) (fun x7 => ?_)
    refine OJ.go 2 [(17, .bool (x7 != a1)), (16, .int .u8 a1)] ?_
    refine OJ.nil ?_
    refine SJ.cond (t := (.tmp 17)) (b := (x7 != a1)) bne_iff_ne (fun hc8 => ?_) (fun hc8 => ?_)
    · refine SJ.sr 1 ?_
      refine OJ.go 1 [(4, .bool false)] ?_
      refine OJ.nil ?_
      exact SJ.ret rfl (Res.run (ys := [.bool false]) (.tmp (by kernel_rfl) .nil) rfl)
    · refine SJ.skip ?_
      refine SJ.inBlock ?_
      refine SJ.rg 3 ?_
      refine OJ.go 3 [(5, .int .i64 (IntKind.wrap .i64 (s1 + 1))), (11, .int .i64 (IntKind.wrap .i64 (s1 + 1))), (10, .int .i64 s1)] ?_
      refine OJ.nil ?_
      exact SJ.at_ [0, 1, 5] rfl
  · refine SJ.exit (id := 0) (by rfl) ?_
    refine SJ.sr 1 ?_
    refine OJ.go 1 [(4, .bool true)] ?_
    refine OJ.nil ?_
    exact SJ.ret rfl (Res.run (ys := [.bool true]) (.tmp (by kernel_rfl) .nil) rfl)
noncomputable def weirlaw3_full (a0 : Sl) (a1 : Int) : M Bool :=
  loopM (fun s_ : Int => weirlaw3_full.L1 a0 a1 s_) 0
theorem weirlaw3_full_ok (a0 : Sl) (a1 : Int) : Ref Try.prog 54 [Sl.v a0, .int .u8 a1] (weirlaw3_full a0 a1) weirlaw3_full.out := by
  refine Ref.of (cd := weirlaw3_full.B) Try.func54 ?_
  show SJ weirlaw3_full.cx [.code weirlaw3_full.B] [(0, Sl.v a0), (1, .int .u8 a1)] [] (weirlaw3_full a0 a1) weirlaw3_full.F0
  unfold weirlaw3_full
  refine SJ.sr 1 ?_
  refine OJ.go 1 [(4, .bool false)] ?_
  refine OJ.nil ?_
  refine SJ.seq ?_
  refine SJ.sr 1 ?_
  refine OJ.go 1 [(5, .int .i64 0)] ?_
  refine OJ.nil ?_
  refine SJ.block (id := 0) ?_
  exact SJ.loop (fun s_ : Int => [(0, Sl.v a0), (1, .int .u8 a1), (5, .int .i64 s_)]) (fun s_ : Int => []) [0, 1, 5] rfl (fun _ _ => rfl) (fun s_ => weirlaw3_full.L1_ok a0 a1 s_)

/-! ### (*weir/weirlaw3.Book).Settle: function 39 -/
noncomputable def weirlaw3_Book_Settle.B : Code := (Try.f39.body).getD .skip
noncomputable def weirlaw3_Book_Settle.cx : Fx := ⟨Try.prog, 39, Try.f39⟩
noncomputable def weirlaw3_Book_Settle.out (r_ : Bool) : Value := .bool r_
noncomputable def weirlaw3_Book_Settle.F0 (r_ : Bool) : Reach := .ret (weirlaw3_Book_Settle.out r_)
noncomputable def weirlaw3_Book_Settle.F1 (a0 : (Option Addr)) (s27 : Sl) : (LS Int Bool) → Reach := loopF [.inLoop (c1 (c1 (c2 (c1 (c2 (c2 (c2 (c2 (c2 weirlaw3_Book_Settle.B))))))))), .inBlock 8, .code (c2 (c2 (c2 (c2 (c2 (c2 weirlaw3_Book_Settle.B))))))] (fun s_ : Int => [(0, .pointer a0), (5, Sl.v s27), (9, .int .i64 s_)]) (fun s_ : Int => []) weirlaw3_Book_Settle.F0
noncomputable def weirlaw3_Book_Settle.L1 (a0 : (Option Addr)) (s27 : Sl) (s47 : Int) : M (LS Int Bool) :=
  nilck a0 >>= fun p61 =>
  ld cL p61 >>= fun x62 =>
  if s47 < (x62.len : Int) then
    nilck a0 >>= fun p63 =>
    ld cL p63 >>= fun x64 =>
    idx x64.a x64.len s47 1 >>= fun p65 =>
    ld cL p65 >>= fun x66 =>
    weirlaw3_full x66 (IntKind.wrap .u8 (IntKind.wrap .i64 (1 + (Int.tmod s47 251)))) >>= fun r67 =>
    (if ¬ (r67 = true) then
        pure true
      else
        idx s27.a s27.len s47 1 >>= fun p68 =>
        ld cL p68 >>= fun x69 =>
        weirlaw3_full x69 (IntKind.wrap .u8 (IntKind.wrap .i64 (1 + (Int.tmod s47 251)))) >>= fun r70 =>
        pure (!r70)) >>= fun y71 =>
    if y71 = true then
      pure (LS.done false)
    else
      pure (LS.next (IntKind.wrap .i64 (s47 + 1)))
  else
    pure (LS.done true)
theorem weirlaw3_Book_Settle.L1_ok (a0 : (Option Addr)) (s27 : Sl) (s47 : Int) :
    SJ weirlaw3_Book_Settle.cx [.code (c1 (c1 (c2 (c1 (c2 (c2 (c2 (c2 (c2 weirlaw3_Book_Settle.B))))))))), .inLoop (c1 (c1 (c2 (c1 (c2 (c2 (c2 (c2 (c2 weirlaw3_Book_Settle.B))))))))), .inBlock 8, .code (c2 (c2 (c2 (c2 (c2 (c2 weirlaw3_Book_Settle.B))))))] [(0, .pointer a0), (5, Sl.v s27), (9, .int .i64 s47)] [] (weirlaw3_Book_Settle.L1 a0 s27 s47) (weirlaw3_Book_Settle.F1 a0 s27) := by
  unfold weirlaw3_Book_Settle.L1
  refine SJ.seq ?_
  refine SJ.sr 7 ?_
  refine OJ.go 2 [(83, .pointer a0), (82, .int .i64 s47)] ?_
  refine OJ.nilck (d := 84) (y := .tmp 83) (fun p61 => ?_)
  refine OJ.go 1 [(85, .pointer (some p61))] ?_
  refine OJ.ld (d := 86) (y := .tmp 85) (pend2 := fun x62 => []) Ty43 (fun _ => rfl) (fun x62 => ?_)
  refine OJ.go 2 [(88, .bool (decide (s47 < (x62.len : Int)))), (87, .int .i64 (x62.len : Int))] ?_
  refine OJ.nil ?_
  refine SJ.cond (t := (.tmp 88)) (b := decide (s47 < (x62.len : Int))) decide_eq_true_iff (fun hc73 => ?_) (fun hc73 => ?_)
  · refine SJ.skip ?_
    refine SJ.seq ?_
    refine SJ.block (id := 9) ?_
    refine SJ.sr 25 ?_
    refine OJ.go 1 [(91, .pointer a0)] ?_
    refine OJ.nilck (d := 92) (y := .tmp 91) (fun p63 => ?_)
    refine OJ.go 1 [(93, .pointer (some p63))] ?_
    refine OJ.ld (d := 94) (y := .tmp 93) (pend2 := fun x64 => []) Ty43 (fun _ => rfl) (fun x64 => ?_)
    refine OJ.go 1 [(95, .int .i64 s47)] ?_
    refine OJ.idxS (d := 96) (T := 43) (y := .tmp 94) (j := .tmp 95) (E := 22) (cap := x64.cap) (k := .i64) (fun p65 => ?_)
    refine OJ.ld (d := 97) (y := .tmp 96) (pend2 := fun x66 => []) Ty22 (fun _ => rfl) (fun x66 => ?_)
    refine OJ.go 4 [(101, .int .u8 (IntKind.wrap .u8 (IntKind.wrap .i64 (1 + (Int.tmod s47 251))))), (100, .int .i64 (IntKind.wrap .i64 (1 + (Int.tmod s47 251)))), (99, .int .i64 (Int.tmod s47 251)), (98, .int .i64 s47)] ?_
    refine OJ.call (d := 102) (g := 54) (ats := #[22, 5]) (args := [.tmp 97, .tmp 101]) (owed := []) F54 (weirlaw3_full_ok x66 (IntKind.wrap .u8 (IntKind.wrap .i64 (1 + (Int.tmod s47 251))))) (fun r67 => ?_)
    refine OW.nil ?_
    refine OJ.go 2 [(104, .bool (!r67)), (103, .bool (!r67))] ?_
    refine OJ.join (b := (!r67)) [14, 15, 16, 17, 18, 19, 20, 21, 22, 23, 24] [] [0, 5, 9, 115] (fun y71 => [(0, .pointer a0), (5, Sl.v s27), (9, .int .i64 s47), (115, .bool y71)]) [] [] (t := 104) (bnot_iff Iff.rfl) (fun hp_ => ?_) (fun hp_ => ?_) (fun _ _ _ _ _ _ h_ => h_) (fun y71 => ?_)
    · refine OJ.go 11 [(115, .bool true), (114, undef), (113, undef), (112, undef), (111, undef), (110, undef), (109, undef), (108, undef), (107, undef), (106, undef), (105, undef)] ?_
      exact OJ.nil ⟨(Cov.mem Cov.nil), rfl, _, rfl, by kernel_rfl⟩
    · refine OJ.go 2 [(106, .int .i64 s47), (105, Sl.v s27)] ?_
      refine OJ.idxS (d := 107) (T := 43) (y := .tmp 105) (j := .tmp 106) (E := 22) (cap := s27.cap) (k := .i64) (fun p68 => ?_)
      refine OJ.ld (d := 108) (y := .tmp 107) (pend2 := fun x69 => []) Ty22 (fun _ => rfl) (fun x69 => ?_)
      refine OJ.go 4 [(112, .int .u8 (IntKind.wrap .u8 (IntKind.wrap .i64 (1 + (Int.tmod s47 251))))), (111, .int .i64 (IntKind.wrap .i64 (1 + (Int.tmod s47 251)))), (110, .int .i64 (Int.tmod s47 251)), (109, .int .i64 s47)] ?_
      refine OJ.call (d := 113) (g := 54) (ats := #[22, 5]) (args := [.tmp 108, .tmp 112]) (owed := []) F54 (weirlaw3_full_ok x69 (IntKind.wrap .u8 (IntKind.wrap .i64 (1 + (Int.tmod s47 251))))) (fun r70 => ?_)
      refine OW.nil ?_
      refine OJ.go 2 [(115, .bool (!r70)), (114, .bool (!r70))] ?_
      exact OJ.nil ⟨(Cov.mem Cov.nil), rfl, _, rfl, by kernel_rfl⟩
    · refine OJ.nil ?_
      refine SJ.cond (t := (.tmp 115)) (b := y71) Iff.rfl (fun hc72 => ?_) (fun hc72 => ?_)
      · refine SJ.sr 1 ?_
        refine OJ.go 1 [(2, .bool false)] ?_
        refine OJ.nil ?_
        exact SJ.ret rfl (Res.run (ys := [.bool false]) (.tmp (by kernel_rfl) .nil) rfl)
      · refine SJ.skip ?_
        refine SJ.inBlock ?_
        refine SJ.rg 3 ?_
        refine OJ.go 3 [(9, .int .i64 (IntKind.wrap .i64 (s47 + 1))), (90, .int .i64 (IntKind.wrap .i64 (s47 + 1))), (89, .int .i64 s47)] ?_
        refine OJ.nil ?_
        exact SJ.at_ [0, 5, 9] rfl
  · refine SJ.exit (id := 8) (by rfl) ?_
    refine SJ.sr 1 ?_
    refine OJ.go 1 [(2, .bool true)] ?_
    refine OJ.nil ?_
    exact SJ.ret rfl (Res.run (ys := [.bool true]) (.tmp (by kernel_rfl) .nil) rfl)
noncomputable def weirlaw3_Book_Settle.K1 (a0 : (Option Addr)) (s27 : Sl) : M Bool :=
  loopM (fun s_ : Int => weirlaw3_Book_Settle.L1 a0 s27 s_) 0
theorem weirlaw3_Book_Settle.K1_ok (a0 : (Option Addr)) (s27 : Sl) :
    SJ weirlaw3_Book_Settle.cx [.code (c2 (c2 (c2 (c2 (c2 weirlaw3_Book_Settle.B)))))] [(0, .pointer a0), (5, Sl.v s27)] [] (weirlaw3_Book_Settle.K1 a0 s27) weirlaw3_Book_Settle.F0 := by
  unfold weirlaw3_Book_Settle.K1
  refine SJ.seq ?_
  refine SJ.sr 1 ?_
  refine OJ.go 1 [(9, .int .i64 0)] ?_
  refine OJ.nil ?_
  refine SJ.block (id := 8) ?_
  exact SJ.loop (fun s_ : Int => [(0, .pointer a0), (5, Sl.v s27), (9, .int .i64 s_)]) (fun s_ : Int => []) [0, 5, 9] rfl (fun _ _ => rfl) (fun s_ => weirlaw3_Book_Settle.L1_ok a0 s27 s_)
noncomputable def weirlaw3_Book_Settle.F2 (a0 : (Option Addr)) : (LS (Sl × Int) Bool) → Reach := loopF [.inLoop (c1 (c1 (c2 (c1 (c2 (c2 (c2 (c2 weirlaw3_Book_Settle.B)))))))), .inBlock 4, .code (c2 (c2 (c2 (c2 (c2 weirlaw3_Book_Settle.B)))))] (fun s_ : (Sl × Int) => [(0, .pointer a0), (5, Sl.v s_.1), (6, .int .i64 s_.2)]) (fun s_ : (Sl × Int) => []) weirlaw3_Book_Settle.F0
noncomputable def weirlaw3_Book_Settle.F3 (a0 : (Option Addr)) (s27 : Sl) (s28 : Int) (x79 : Sl) : (LS Sl (LS (Sl × Int) Bool)) → Reach := loopF [.inLoop (c1 (c1 (c1 (c2 (c2 (c1 (c1 (c2 (c1 (c1 (c2 (c1 (c2 (c2 (c2 (c2 weirlaw3_Book_Settle.B)))))))))))))))), .inBlock 6, .code (c2 (c2 (c2 (c1 (c1 (c2 (c1 (c1 (c2 (c1 (c2 (c2 (c2 (c2 weirlaw3_Book_Settle.B)))))))))))))), .inBlock 5, .code (c2 (c2 (c1 (c1 (c2 (c1 (c2 (c2 (c2 (c2 weirlaw3_Book_Settle.B)))))))))), .inLoop (c1 (c1 (c2 (c1 (c2 (c2 (c2 (c2 weirlaw3_Book_Settle.B)))))))), .inBlock 4, .code (c2 (c2 (c2 (c2 (c2 weirlaw3_Book_Settle.B)))))] (fun s_ : Sl => [(0, .pointer a0), (5, Sl.v s27), (6, .int .i64 s28), (7, Sl.v s_), (8, .int .i64 (IntKind.wrap .i64 ((IntKind.wrap .i64 (2 * (x79.len : Int))) + 70)))]) (fun s_ : Sl => []) (weirlaw3_Book_Settle.F2 a0)
noncomputable def weirlaw3_Book_Settle.L3 (s27 : Sl) (s28 : Int) (x79 : Sl) (s80 : Sl) : M (LS Sl (LS (Sl × Int) Bool)) :=
  if (s80.len : Int) < (IntKind.wrap .i64 ((IntKind.wrap .i64 (2 * (x79.len : Int))) + 70)) then
    slot 5 >>= fun b86 =>
    appl (cI .u8) 5 1 0 s80 [IntKind.wrap .u8 (IntKind.wrap .i64 (1 + (Int.tmod s28 251)))] >>= fun r87 =>
    pure (LS.next r87)
  else
    slot 22 >>= fun b88 =>
    appl cL 22 24 Sl.nil s27 [s80] >>= fun r89 =>
    pure (LS.done (LS.next (r89, IntKind.wrap .i64 (s28 + 1))))
theorem weirlaw3_Book_Settle.L3_ok (a0 : (Option Addr)) (s27 : Sl) (s28 : Int) (x79 : Sl) (s80 : Sl) :
    SJ weirlaw3_Book_Settle.cx [.code (c1 (c1 (c1 (c2 (c2 (c1 (c1 (c2 (c1 (c1 (c2 (c1 (c2 (c2 (c2 (c2 weirlaw3_Book_Settle.B)))))))))))))))), .inLoop (c1 (c1 (c1 (c2 (c2 (c1 (c1 (c2 (c1 (c1 (c2 (c1 (c2 (c2 (c2 (c2 weirlaw3_Book_Settle.B)))))))))))))))), .inBlock 6, .code (c2 (c2 (c2 (c1 (c1 (c2 (c1 (c1 (c2 (c1 (c2 (c2 (c2 (c2 weirlaw3_Book_Settle.B)))))))))))))), .inBlock 5, .code (c2 (c2 (c1 (c1 (c2 (c1 (c2 (c2 (c2 (c2 weirlaw3_Book_Settle.B)))))))))), .inLoop (c1 (c1 (c2 (c1 (c2 (c2 (c2 (c2 weirlaw3_Book_Settle.B)))))))), .inBlock 4, .code (c2 (c2 (c2 (c2 (c2 weirlaw3_Book_Settle.B)))))] [(0, .pointer a0), (5, Sl.v s27), (6, .int .i64 s28), (7, Sl.v s80), (8, .int .i64 (IntKind.wrap .i64 ((IntKind.wrap .i64 (2 * (x79.len : Int))) + 70)))] [] (weirlaw3_Book_Settle.L3 s27 s28 x79 s80) (weirlaw3_Book_Settle.F3 a0 s27 s28 x79) := by
  unfold weirlaw3_Book_Settle.L3
  refine SJ.seq ?_
  refine SJ.sr 4 ?_
  refine OJ.go 4 [(70, .bool (decide ((s80.len : Int) < (IntKind.wrap .i64 ((IntKind.wrap .i64 (2 * (x79.len : Int))) + 70))))), (69, .int .i64 (IntKind.wrap .i64 ((IntKind.wrap .i64 (2 * (x79.len : Int))) + 70))), (68, .int .i64 (s80.len : Int)), (67, Sl.v s80)] ?_
  refine OJ.nil ?_
  refine SJ.cond (t := (.tmp 70)) (b := decide ((s80.len : Int) < (IntKind.wrap .i64 ((IntKind.wrap .i64 (2 * (x79.len : Int))) + 70)))) decide_eq_true_iff (fun hc90 => ?_) (fun hc90 => ?_)
  · refine SJ.skip ?_
    refine SJ.block (id := 7) ?_
    refine SJ.rg 8 ?_
    refine OJ.go 5 [(75, .int .u8 (IntKind.wrap .u8 (IntKind.wrap .i64 (1 + (Int.tmod s28 251))))), (74, .int .i64 (IntKind.wrap .i64 (1 + (Int.tmod s28 251)))), (73, .int .i64 (Int.tmod s28 251)), (72, .int .i64 s28), (71, Sl.v s80)] ?_
    refine OJ.rowSlot (d := 76) (t := 22) (parts := [(0, .tmp 75)]) (ps := [(0, (cI .u8).val (IntKind.wrap .u8 (IntKind.wrap .i64 (1 + (Int.tmod s28 251)))))]) (cd := (cI .u8)) (⟨[IntKind.wrap .u8 (IntKind.wrap .i64 (1 + (Int.tmod s28 251)))], rfl⟩ : Vec Int 1) (owed := []) Ty5 (Filled.cons (cd := (cI .u8)) (q := (IntKind.wrap .u8 (IntKind.wrap .i64 (1 + (Int.tmod s28 251))))) (o := 0) rfl (Upd.arr (i := 0) (by decide) (by decide)) Filled.nil) (fun b86 => ?_)
    refine OW.nil ?_
    refine OJ.appl (d := 77) (t := 22) (u := 22) (so := .tmp 71) (xo := .tmp 76) (j := 0) (b := b86) (l := ((cI .u8).arr 1).enc (⟨[IntKind.wrap .u8 (IntKind.wrap .i64 (1 + (Int.tmod s28 251)))], rfl⟩ : Vec Int 1)) (n := 1) (k := 1) [IntKind.wrap .u8 (IntKind.wrap .i64 (1 + (Int.tmod s28 251)))] (owed := []) Ty5 (by rfl) (Cod.arr_enc _ _ _) (by rfl) (fun r87 => ?_)
    refine OW.nil ?_
    refine OJ.go 1 [(7, Sl.v r87)] ?_
    refine OJ.nil ?_
    refine SJ.inBlock ?_
    refine SJ.forget (List.Sublist.cons _ List.Sublist.slnil) ?_
    exact SJ.at_ [0, 5, 6, 7, 8] rfl
  · refine SJ.exit (id := 6) (by rfl) ?_
    refine SJ.rg 5 ?_
    refine OJ.go 2 [(79, Sl.v s80), (78, Sl.v s27)] ?_
    refine OJ.rowSlot (d := 80) (t := 43) (parts := [(0, .tmp 79)]) (ps := [(0, cL.val s80)]) (cd := cL) (⟨[s80], rfl⟩ : Vec Sl 1) (owed := []) Ty22 (Filled.cons (cd := cL) (q := s80) (o := 0) rfl (Upd.arr (i := 0) (by decide) (by decide)) Filled.nil) (fun b88 => ?_)
    refine OW.nil ?_
    refine OJ.appl (d := 81) (t := 43) (u := 43) (so := .tmp 78) (xo := .tmp 80) (j := 0) (b := b88) (l := (cL.arr 1).enc (⟨[s80], rfl⟩ : Vec Sl 1)) (n := 1) (k := 1) [s80] (owed := []) Ty22 (by rfl) (Cod.arr_enc _ _ _) (by rfl) (fun r89 => ?_)
    refine OW.nil ?_
    refine OJ.go 1 [(5, Sl.v r89)] ?_
    refine OJ.nil ?_
    refine SJ.inBlock ?_
    refine SJ.rg 3 ?_
    refine OJ.go 3 [(6, .int .i64 (IntKind.wrap .i64 (s28 + 1))), (55, .int .i64 (IntKind.wrap .i64 (s28 + 1))), (54, .int .i64 s28)] ?_
    refine OJ.nil ?_
    refine SJ.forget (List.Sublist.cons _ List.Sublist.slnil) ?_
    exact SJ.at_ [0, 5, 6] rfl
noncomputable def weirlaw3_Book_Settle.L2 (a0 : (Option Addr)) (s27 : Sl) (s28 : Int) : M (LS (Sl × Int) Bool) :=
  nilck a0 >>= fun p74 =>
  ld cL p74 >>= fun x75 =>
  if s28 < (x75.len : Int) then
    nilck a0 >>= fun p76 =>
    ld cL p76 >>= fun x77 =>
    idx x77.a x77.len s28 1 >>= fun p78 =>
    ld cL p78 >>= fun x79 =>
    loopM (fun s_ : Sl => weirlaw3_Book_Settle.L3 s27 s28 x79 s_) x79
  else
    (weirlaw3_Book_Settle.K1 a0 s27) >>= fun b => pure (LS.done b)
theorem weirlaw3_Book_Settle.L2_ok (a0 : (Option Addr)) (s27 : Sl) (s28 : Int) :
    SJ weirlaw3_Book_Settle.cx [.code (c1 (c1 (c2 (c1 (c2 (c2 (c2 (c2 weirlaw3_Book_Settle.B)))))))), .inLoop (c1 (c1 (c2 (c1 (c2 (c2 (c2 (c2 weirlaw3_Book_Settle.B)))))))), .inBlock 4, .code (c2 (c2 (c2 (c2 (c2 weirlaw3_Book_Settle.B)))))] [(0, .pointer a0), (5, Sl.v s27), (6, .int .i64 s28)] [] (weirlaw3_Book_Settle.L2 a0 s27 s28) (weirlaw3_Book_Settle.F2 a0) := by
  unfold weirlaw3_Book_Settle.L2
  refine SJ.seq ?_
  refine SJ.sr 7 ?_
  refine OJ.go 2 [(48, .pointer a0), (47, .int .i64 s28)] ?_
  refine OJ.nilck (d := 49) (y := .tmp 48) (fun p74 => ?_)
  refine OJ.go 1 [(50, .pointer (some p74))] ?_
  refine OJ.ld (d := 51) (y := .tmp 50) (pend2 := fun x75 => []) Ty43 (fun _ => rfl) (fun x75 => ?_)
  refine OJ.go 2 [(53, .bool (decide (s28 < (x75.len : Int)))), (52, .int .i64 (x75.len : Int))] ?_
  refine OJ.nil ?_
  refine SJ.cond (t := (.tmp 53)) (b := decide (s28 < (x75.len : Int))) decide_eq_true_iff (fun hc91 => ?_) (fun hc91 => ?_)
  · refine SJ.skip ?_
    refine SJ.seq ?_
    refine SJ.block (id := 5) ?_
    refine SJ.sr 8 ?_
    refine OJ.go 1 [(56, .pointer a0)] ?_
    refine OJ.nilck (d := 57) (y := .tmp 56) (fun p76 => ?_)
    refine OJ.go 1 [(58, .pointer (some p76))] ?_
    refine OJ.ld (d := 59) (y := .tmp 58) (pend2 := fun x77 => []) Ty43 (fun _ => rfl) (fun x77 => ?_)
    refine OJ.go 1 [(60, .int .i64 s28)] ?_
    refine OJ.idxS (d := 61) (T := 43) (y := .tmp 59) (j := .tmp 60) (E := 22) (cap := x77.cap) (k := .i64) (fun p78 => ?_)
    refine OJ.ld (d := 62) (y := .tmp 61) (pend2 := fun x79 => []) Ty22 (fun _ => rfl) (fun x79 => ?_)
    refine OJ.go 1 [(7, Sl.v x79)] ?_
    refine OJ.nil ?_
    refine SJ.sr 5 ?_
    refine OJ.go 5 [(8, .int .i64 (IntKind.wrap .i64 ((IntKind.wrap .i64 (2 * (x79.len : Int))) + 70))), (66, .int .i64 (IntKind.wrap .i64 ((IntKind.wrap .i64 (2 * (x79.len : Int))) + 70))), (65, .int .i64 (IntKind.wrap .i64 (2 * (x79.len : Int)))), (64, .int .i64 (x79.len : Int)), (63, Sl.v x79)] ?_
    refine OJ.nil ?_
    refine SJ.seq ?_
    refine SJ.block (id := 6) ?_
    exact SJ.loop (fun s_ : Sl => [(0, .pointer a0), (5, Sl.v s27), (6, .int .i64 s28), (7, Sl.v s_), (8, .int .i64 (IntKind.wrap .i64 ((IntKind.wrap .i64 (2 * (x79.len : Int))) + 70)))]) (fun s_ : Sl => []) [0, 5, 6, 7, 8] rfl (fun _ _ => rfl) (fun s_ => weirlaw3_Book_Settle.L3_ok a0 s27 s28 x79 s_)
  · refine SJ.exit (id := 4) (by rfl) ?_
    refine SJ.less [0, 5] (m' := [(0, .pointer a0), (5, Sl.v s27)]) ?_
    refine SJ.done ?_
    exact weirlaw3_Book_Settle.K1_ok a0 s27
noncomputable def weirlaw3_Book_Settle.K2 (a0 : (Option Addr)) : M Bool :=
  loopM (fun s_ : (Sl × Int) => weirlaw3_Book_Settle.L2 a0 s_.1 s_.2) (Sl.nil, 0)
theorem weirlaw3_Book_Settle.K2_ok (a0 : (Option Addr)) :
    SJ weirlaw3_Book_Settle.cx [.code (c2 (c2 (c2 weirlaw3_Book_Settle.B)))] [(0, .pointer a0)] [] (weirlaw3_Book_Settle.K2 a0) weirlaw3_Book_Settle.F0 := by
  unfold weirlaw3_Book_Settle.K2
  refine SJ.sr 1 ?_
  refine OJ.go 1 [(5, Sl.v Sl.nil)] ?_
  refine OJ.nil ?_
  refine SJ.seq ?_
  refine SJ.sr 1 ?_
  refine OJ.go 1 [(6, .int .i64 0)] ?_
  refine OJ.nil ?_
  refine SJ.block (id := 4) ?_
  exact SJ.loop (fun s_ : (Sl × Int) => [(0, .pointer a0), (5, Sl.v s_.1), (6, .int .i64 s_.2)]) (fun s_ : (Sl × Int) => []) [0, 5, 6] rfl (fun _ _ => rfl) (fun s_ => weirlaw3_Book_Settle.L2_ok a0 s_.1 s_.2)
noncomputable def weirlaw3_Book_Settle.F4 (a0 : (Option Addr)) : (LS Int Bool) → Reach := loopF [.inLoop (c1 (c1 (c2 (c1 (c2 (c2 weirlaw3_Book_Settle.B)))))), .inBlock 0, .code (c2 (c2 (c2 weirlaw3_Book_Settle.B)))] (fun s_ : Int => [(0, .pointer a0), (3, .int .i64 s_)]) (fun s_ : Int => []) weirlaw3_Book_Settle.F0
noncomputable def weirlaw3_Book_Settle.F5 (a0 : (Option Addr)) (s2 : Int) : (LS Int (LS Int Bool)) → Reach := loopF [.inLoop (c1 (c1 (c2 (c1 (c1 (c2 (c1 (c1 (c2 (c1 (c2 (c2 weirlaw3_Book_Settle.B)))))))))))), .inBlock 2, .inBlock 1, .code (c2 (c2 (c1 (c1 (c2 (c1 (c2 (c2 weirlaw3_Book_Settle.B)))))))), .inLoop (c1 (c1 (c2 (c1 (c2 (c2 weirlaw3_Book_Settle.B)))))), .inBlock 0, .code (c2 (c2 (c2 weirlaw3_Book_Settle.B)))] (fun s_ : Int => [(0, .pointer a0), (3, .int .i64 s2), (4, .int .i64 s_)]) (fun s_ : Int => []) (weirlaw3_Book_Settle.F4 a0)
noncomputable def weirlaw3_Book_Settle.L5 (a0 : (Option Addr)) (s2 : Int) (s94 : Int) : M (LS Int (LS Int Bool)) :=
  nilck a0 >>= fun p105 =>
  ld cL p105 >>= fun x106 =>
  idx x106.a x106.len s2 1 >>= fun p107 =>
  ld cL p107 >>= fun x108 =>
  if s94 < (x108.len : Int) then
    nilck a0 >>= fun p109 =>
    ld cL p109 >>= fun x110 =>
    idx x110.a x110.len s2 1 >>= fun p111 =>
    ld cL p111 >>= fun x112 =>
    idx x112.a x112.len s94 1 >>= fun p113 =>
    st (cI .u8) p113 (IntKind.wrap .u8 (IntKind.wrap .i64 (1 + (Int.tmod s2 251)))) >>= fun _ =>
    pure (LS.next (IntKind.wrap .i64 (s94 + 1)))
  else
    pure (LS.done (LS.next (IntKind.wrap .i64 (s2 + 1))))
theorem weirlaw3_Book_Settle.L5_ok (a0 : (Option Addr)) (s2 : Int) (s94 : Int) :
    SJ weirlaw3_Book_Settle.cx [.code (c1 (c1 (c2 (c1 (c1 (c2 (c1 (c1 (c2 (c1 (c2 (c2 weirlaw3_Book_Settle.B)))))))))))), .inLoop (c1 (c1 (c2 (c1 (c1 (c2 (c1 (c1 (c2 (c1 (c2 (c2 weirlaw3_Book_Settle.B)))))))))))), .inBlock 2, .inBlock 1, .code (c2 (c2 (c1 (c1 (c2 (c1 (c2 (c2 weirlaw3_Book_Settle.B)))))))), .inLoop (c1 (c1 (c2 (c1 (c2 (c2 weirlaw3_Book_Settle.B)))))), .inBlock 0, .code (c2 (c2 (c2 weirlaw3_Book_Settle.B)))] [(0, .pointer a0), (3, .int .i64 s2), (4, .int .i64 s94)] [] (weirlaw3_Book_Settle.L5 a0 s2 s94) (weirlaw3_Book_Settle.F5 a0 s2) := by
  unfold weirlaw3_Book_Settle.L5
  refine SJ.seq ?_
  refine SJ.sr 10 ?_
  refine OJ.go 2 [(23, .pointer a0), (22, .int .i64 s94)] ?_
  refine OJ.nilck (d := 24) (y := .tmp 23) (fun p105 => ?_)
  refine OJ.go 1 [(25, .pointer (some p105))] ?_
  refine OJ.ld (d := 26) (y := .tmp 25) (pend2 := fun x106 => []) Ty43 (fun _ => rfl) (fun x106 => ?_)
  refine OJ.go 1 [(27, .int .i64 s2)] ?_
  refine OJ.idxS (d := 28) (T := 43) (y := .tmp 26) (j := .tmp 27) (E := 22) (cap := x106.cap) (k := .i64) (fun p107 => ?_)
  refine OJ.ld (d := 29) (y := .tmp 28) (pend2 := fun x108 => []) Ty22 (fun _ => rfl) (fun x108 => ?_)
  refine OJ.go 2 [(31, .bool (decide (s94 < (x108.len : Int)))), (30, .int .i64 (x108.len : Int))] ?_
  refine OJ.nil ?_
  refine SJ.cond (t := (.tmp 31)) (b := decide (s94 < (x108.len : Int))) decide_eq_true_iff (fun hc114 => ?_) (fun hc114 => ?_)
  · refine SJ.skip ?_
    refine SJ.seq ?_
    refine SJ.block (id := 3) ?_
    refine SJ.rg 14 ?_
    refine OJ.go 1 [(34, .pointer a0)] ?_
    refine OJ.nilck (d := 35) (y := .tmp 34) (fun p109 => ?_)
    refine OJ.go 1 [(36, .pointer (some p109))] ?_
    refine OJ.ld (d := 37) (y := .tmp 36) (pend2 := fun x110 => []) Ty43 (fun _ => rfl) (fun x110 => ?_)
    refine OJ.go 1 [(38, .int .i64 s2)] ?_
    refine OJ.idxS (d := 39) (T := 43) (y := .tmp 37) (j := .tmp 38) (E := 22) (cap := x110.cap) (k := .i64) (fun p111 => ?_)
    refine OJ.ld (d := 40) (y := .tmp 39) (pend2 := fun x112 => []) Ty22 (fun _ => rfl) (fun x112 => ?_)
    refine OJ.go 5 [(45, .int .u8 (IntKind.wrap .u8 (IntKind.wrap .i64 (1 + (Int.tmod s2 251))))), (44, .int .i64 (IntKind.wrap .i64 (1 + (Int.tmod s2 251)))), (43, .int .i64 (Int.tmod s2 251)), (42, .int .i64 s2), (41, .int .i64 s94)] ?_
    refine OJ.idxS (d := 46) (T := 22) (y := .tmp 40) (j := .tmp 41) (E := 5) (cap := x112.cap) (k := .i64) (fun p113 => ?_)
    refine OJ.st (y := .tmp 46) (z := .tmp 45) (owed := []) Ty5 ?_
    refine OW.nil ?_
    refine OJ.nil ?_
    refine SJ.inBlock ?_
    refine SJ.rg 3 ?_
    refine OJ.go 3 [(4, .int .i64 (IntKind.wrap .i64 (s94 + 1))), (33, .int .i64 (IntKind.wrap .i64 (s94 + 1))), (32, .int .i64 s94)] ?_
    refine OJ.nil ?_
    exact SJ.at_ [0, 3, 4] rfl
  · refine SJ.exit (id := 2) (by rfl) ?_
    refine SJ.inBlock ?_
    refine SJ.rg 3 ?_
    refine OJ.go 3 [(3, .int .i64 (IntKind.wrap .i64 (s2 + 1))), (21, .int .i64 (IntKind.wrap .i64 (s2 + 1))), (20, .int .i64 s2)] ?_
    refine OJ.nil ?_
    exact SJ.at_ [0, 3] rfl
noncomputable def weirlaw3_Book_Settle.L4 (a0 : (Option Addr)) (s2 : Int) : M (LS Int Bool) :=
  nilck a0 >>= fun p92 =>
  ld cL p92 >>= fun x93 =>
  if s2 < (x93.len : Int) then
    loopM (fun s_ : Int => weirlaw3_Book_Settle.L5 a0 s2 s_) 0
  else
    (weirlaw3_Book_Settle.K2 a0) >>= fun b => pure (LS.done b)
theorem weirlaw3_Book_Settle.L4_ok (a0 : (Option Addr)) (s2 : Int) :
    SJ weirlaw3_Book_Settle.cx [.code (c1 (c1 (c2 (c1 (c2 (c2 weirlaw3_Book_Settle.B)))))), .inLoop (c1 (c1 (c2 (c1 (c2 (c2 weirlaw3_Book_Settle.B)))))), .inBlock 0, .code (c2 (c2 (c2 weirlaw3_Book_Settle.B)))] [(0, .pointer a0), (3, .int .i64 s2)] [] (weirlaw3_Book_Settle.L4 a0 s2) (weirlaw3_Book_Settle.F4 a0) := by
  unfold weirlaw3_Book_Settle.L4
  refine SJ.seq ?_
  refine SJ.sr 7 ?_
  refine OJ.go 2 [(14, .pointer a0), (13, .int .i64 s2)] ?_
  refine OJ.nilck (d := 15) (y := .tmp 14) (fun p92 => ?_)
  refine OJ.go 1 [(16, .pointer (some p92))] ?_
  refine OJ.ld (d := 17) (y := .tmp 16) (pend2 := fun x93 => []) Ty43 (fun _ => rfl) (fun x93 => ?_)
  refine OJ.go 2 [(19, .bool (decide (s2 < (x93.len : Int)))), (18, .int .i64 (x93.len : Int))] ?_
  refine OJ.nil ?_
  refine SJ.cond (t := (.tmp 19)) (b := decide (s2 < (x93.len : Int))) decide_eq_true_iff (fun hc115 => ?_) (fun hc115 => ?_)
  · refine SJ.skip ?_
    refine SJ.seq ?_
    refine SJ.block (id := 1) ?_
    refine SJ.sr 1 ?_
    refine OJ.go 1 [(4, .int .i64 0)] ?_
    refine OJ.nil ?_
    refine SJ.block (id := 2) ?_
    exact SJ.loop (fun s_ : Int => [(0, .pointer a0), (3, .int .i64 s2), (4, .int .i64 s_)]) (fun s_ : Int => []) [0, 3, 4] rfl (fun _ _ => rfl) (fun s_ => weirlaw3_Book_Settle.L5_ok a0 s2 s_)
  · refine SJ.exit (id := 0) (by rfl) ?_
    refine SJ.less [0] (m' := [(0, .pointer a0)]) ?_
    refine SJ.done ?_
    exact weirlaw3_Book_Settle.K2_ok a0
noncomputable def weirlaw3_Book_Settle (a0 : (Option Addr)) : M Bool :=
  weirlaw3_Book_Untouched a0 >>= fun r1 =>
  if ¬ (r1 = true) then
    pure false
  else
    loopM (fun s_ : Int => weirlaw3_Book_Settle.L4 a0 s_) 0
theorem weirlaw3_Book_Settle_ok (a0 : (Option Addr)) : Ref Try.prog 39 [.pointer a0] (weirlaw3_Book_Settle a0) weirlaw3_Book_Settle.out := by
  refine Ref.of (cd := weirlaw3_Book_Settle.B) Try.func39 ?_
  show SJ weirlaw3_Book_Settle.cx [.code weirlaw3_Book_Settle.B] [(0, .pointer a0)] [] (weirlaw3_Book_Settle a0) weirlaw3_Book_Settle.F0
  unfold weirlaw3_Book_Settle
  refine SJ.sr 1 ?_
  refine OJ.go 1 [(2, .bool false)] ?_
  refine OJ.nil ?_
  refine SJ.seq ?_
  refine SJ.sr 3 ?_
  refine OJ.go 1 [(10, .pointer a0)] ?_
  refine OJ.call (d := 11) (g := 37) (ats := #[70]) (args := [.tmp 10]) (owed := []) F37 (weirlaw3_Book_Untouched_ok a0) (fun r1 => ?_)
  refine OW.nil ?_
  refine OJ.go 1 [(12, .bool (!r1))] ?_
  refine OJ.nil ?_
  refine SJ.cond (t := (.tmp 12)) (b := (!r1)) (bnot_iff Iff.rfl) (fun hc116 => ?_) (fun hc116 => ?_)
  · refine SJ.sr 1 ?_
    refine OJ.go 1 [(2, .bool false)] ?_
    refine OJ.nil ?_
    exact SJ.ret rfl (Res.run (ys := [.bool false]) (.tmp (by kernel_rfl) .nil) rfl)
  · refine SJ.skip ?_
    refine SJ.seq ?_
    refine SJ.sr 1 ?_
    refine OJ.go 1 [(3, .int .i64 0)] ?_
    refine OJ.nil ?_
    refine SJ.block (id := 0) ?_
    exact SJ.loop (fun s_ : Int => [(0, .pointer a0), (3, .int .i64 s_)]) (fun s_ : Int => []) [0, 3] rfl (fun _ _ => rfl) (fun s_ => weirlaw3_Book_Settle.L4_ok a0 s_)

/-! ### weir/weirlaw3.RingAgain: function 12 -/
noncomputable def weirlaw3_RingAgain.B : Code := (Try.f12.body).getD .skip
noncomputable def weirlaw3_RingAgain.cx : Fx := ⟨Try.prog, 12, Try.f12⟩
noncomputable def weirlaw3_RingAgain.out (r_ : Bool) : Value := .bool r_
noncomputable def weirlaw3_RingAgain.F0 (r_ : Bool) : Reach := .ret (weirlaw3_RingAgain.out r_)
noncomputable def weirlaw3_RingAgain.F1 (a0 : Sl) (r1 : ((Option Addr) × Int)) (b6 : Nat) (b7 : Nat) : (LS Int Bool) → Reach := loopF [.inLoop (c1 (c1 (c2 (c1 (c2 (c2 (c2 (c2 (c2 weirlaw3_RingAgain.B))))))))), .inBlock 0, .code (c2 (c2 (c2 (c2 (c2 (c2 weirlaw3_RingAgain.B))))))] (fun s_ : Int => [(0, Sl.v a0), (3, .pointer r1.1), (5, .pointer (some (pt b6 0))), (6, .pointer (some (pt b7 0))), (7, .int .i64 s_)]) (fun s_ : Int => []) weirlaw3_RingAgain.F0
noncomputable def weirlaw3_RingAgain.L1 (a0 : Sl) (r1 : ((Option Addr) × Int)) (b6 : Nat) (b7 : Nat) (s8 : Int) : M (LS Int Bool) :=
  (if s8 < (a0.len : Int) then
      pure (decide (s8 < 40))
    else
      pure false) >>= fun y41 =>
  if y41 = true then
    idx a0.a a0.len s8 1 >>= fun p43 =>
    ld cL p43 >>= fun x44 =>
    ring_Port_Refill r1.1 1 >>= fun r45 =>
    if r45 > 1 then
      pure (LS.done false)
    else
      weirlaw3_Desk_Lend (some (pt b6 0)) x44 >>= fun r46 =>
      ring_Port_Arrive r1.1 r46 >>= fun r47 =>
      weirlaw3_num r47 >>= fun r48 =>
      weirlaw3_Desk_Back (some (pt b6 0)) x44 >>= fun r49 =>
      if ¬ (r49 = true) then
        pure (LS.done false)
      else
        weirlaw3_Desk_Wipe (some (pt b6 0)) >>= fun r50 =>
        if (x44.len : Int) > 2048 then
          (if r48 ≠ 30 then
              pure (r48 != 2)
            else
              pure false) >>= fun y53 =>
          if y53 = true then
            pure (LS.done false)
          else
            pure (LS.next (IntKind.wrap .i64 (s8 + 1)))
        else
          ring_Port_Poll r1.1 >>= fun r55 =>
          (if r48 ≠ 0 then
              pure true
            else
              pure (!r55.2.2)) >>= fun y56 =>
          (if y56 = true then
              pure true
            else
              weirlaw3_alike r55.2.1 x44 >>= fun r57 =>
              pure (!r57)) >>= fun y58 =>
          (if y58 = true then
              pure true
            else
              ring_Port_Send r1.1 r55.1 (x44.len : Int) >>= fun r59 =>
              weirlaw3_num r59 >>= fun r60 =>
              pure (r60 != 0)) >>= fun y61 =>
          if y61 = true then
            pure (LS.done false)
          else
            ring_Port_Drain r1.1 >>= fun r62 =>
            (if ¬ (r62.2 = true) then
                pure true
              else
                weirlaw3_alike r62.1 x44 >>= fun r63 =>
                pure (!r63)) >>= fun y64 =>
            if y64 = true then
              pure (LS.done false)
            else
              weirlaw3_Book_Keep (some (pt b7 0)) r62.1 >>= fun r65 =>
              weirlaw3_Book_Untouched (some (pt b7 0)) >>= fun r66 =>
              if ¬ (r66 = true) then
                pure (LS.done false)
              else
                pure (LS.next (IntKind.wrap .i64 (s8 + 1)))
  else
    weirlaw3_Book_Settle (some (pt b7 0)) >>= fun r73 =>
    pure (LS.done r73)
theorem weirlaw3_RingAgain.L1_ok (a0 : Sl) (r1 : ((Option Addr) × Int)) (b6 : Nat) (b7 : Nat) (s8 : Int) :
    SJ weirlaw3_RingAgain.cx [.code (c1 (c1 (c2 (c1 (c2 (c2 (c2 (c2 (c2 weirlaw3_RingAgain.B))))))))), .inLoop (c1 (c1 (c2 (c1 (c2 (c2 (c2 (c2 (c2 weirlaw3_RingAgain.B))))))))), .inBlock 0, .code (c2 (c2 (c2 (c2 (c2 (c2 weirlaw3_RingAgain.B))))))] [(0, Sl.v a0), (3, .pointer r1.1), (5, .pointer (some (pt b6 0))), (6, .pointer (some (pt b7 0))), (7, .int .i64 s8)] [] (weirlaw3_RingAgain.L1 a0 r1 b6 b7 s8) (weirlaw3_RingAgain.F1 a0 r1 b6 b7) := by
  unfold weirlaw3_RingAgain.L1
  refine SJ.seq ?_
  refine SJ.sr 8 ?_
  refine OJ.go 5 [(38, .bool (decide (s8 < (a0.len : Int)))), (37, .bool (decide (s8 < (a0.len : Int)))), (36, .int .i64 (a0.len : Int)), (35, Sl.v a0), (34, .int .i64 s8)] ?_
  refine OJ.join (b := decide (s8 < (a0.len : Int))) [5, 6, 7] [] [0, 3, 5, 6, 7, 41] (fun y41 => [(0, Sl.v a0), (3, .pointer r1.1), (5, .pointer (some (pt b6 0))), (6, .pointer (some (pt b7 0))), (7, .int .i64 s8), (41, .bool y41)]) [] [] (t := 38) decide_eq_true_iff (fun hp_ => ?_) (fun hp_ => ?_) (fun _ _ _ _ _ _ h_ => h_) (fun y41 => ?_)
  · refine OJ.go 3 [(41, .bool (decide (s8 < 40))), (40, .bool (decide (s8 < 40))), (39, .int .i64 s8)] ?_
    exact OJ.nil ⟨(Cov.mem Cov.nil), rfl, _, rfl, by kernel_rfl⟩
  · refine OJ.go 3 [(41, .bool false), (40, undef), (39, undef)] ?_
    exact OJ.nil ⟨(Cov.mem Cov.nil), rfl, _, rfl, by kernel_rfl⟩
  · refine OJ.nil ?_
    refine SJ.cond (t := (.tmp 41)) (b := y41) Iff.rfl (fun hc74 => ?_) (fun hc74 => ?_)
    · refine SJ.skip ?_
      refine SJ.seq ?_
      refine SJ.block (id := 1) ?_
      refine SJ.sr 5 ?_
      refine OJ.go 2 [(45, .int .i64 s8), (44, Sl.v a0)] ?_
      refine OJ.idxS (d := 46) (T := 43) (y := .tmp 44) (j := .tmp 45) (E := 22) (cap := a0.cap) (k := .i64) (fun p43 => ?_)
      refine OJ.ld (d := 47) (y := .tmp 46) (pend2 := fun x44 => []) Ty22 (fun _ => rfl) (fun x44 => ?_)
      refine OJ.go 1 [(8, Sl.v x44)] ?_
      refine OJ.nil ?_
      refine SJ.seq ?_
      refine SJ.sr 3 ?_
      refine OJ.go 1 [(48, .pointer r1.1)] ?_
      refine OJ.call (d := 49) (g := 15) (ats := #[23, 3]) (args := [.tmp 48, .const (.int .i64 1)]) (owed := []) F15 (ring_Port_Refill_ok r1.1 1) (fun r45 => ?_)
      refine OW.nil ?_
      refine OJ.go 1 [(50, .bool (decide (r45 > 1)))] ?_
      refine OJ.nil ?_
      refine SJ.cond (t := (.tmp 50)) (b := decide (r45 > 1)) decide_eq_true_iff (fun hc72 => ?_) (fun hc72 => ?_)
      · refine SJ.sr 1 ?_
        refine OJ.go 1 [(2, .bool false)] ?_
        refine OJ.nil ?_
        exact SJ.ret rfl (Res.run (ys := [.bool false]) (.tmp (by kernel_rfl) .nil) rfl)
      · refine SJ.skip ?_
        refine SJ.sr 7 ?_
        refine OJ.go 3 [(53, Sl.v x44), (52, .pointer (some (pt b6 0))), (51, .pointer r1.1)] ?_
        refine OJ.call (d := 54) (g := 41) (ats := #[80, 22]) (args := [.tmp 52, .tmp 53]) (owed := []) F41 (weirlaw3_Desk_Lend_ok (some (pt b6 0)) x44) (fun r46 => ?_)
        refine OW.nil ?_
        refine OJ.call (d := 55) (g := 16) (ats := #[23, 22]) (args := [.tmp 51, .tmp 54]) (owed := []) F16 (ring_Port_Arrive_ok r1.1 r46) (fun r47 => ?_)
        refine OW.nil ?_
        refine OJ.call (d := 56) (g := 14) (ats := #[24]) (args := [.tmp 55]) (owed := []) F14 (weirlaw3_num_ok r47) (fun r48 => ?_)
        refine OW.nil ?_
        refine OJ.go 1 [(9, .int .i64 r48)] ?_
        refine OJ.nil ?_
        refine SJ.seq ?_
        refine SJ.sr 4 ?_
        refine OJ.go 2 [(58, Sl.v x44), (57, .pointer (some (pt b6 0)))] ?_
        refine OJ.call (d := 59) (g := 42) (ats := #[80, 22]) (args := [.tmp 57, .tmp 58]) (owed := []) F42 (weirlaw3_Desk_Back_ok (some (pt b6 0)) x44) (fun r49 => ?_)
        refine OW.nil ?_
        refine OJ.go 1 [(60, .bool (!r49))] ?_
        refine OJ.nil ?_
        refine SJ.cond (t := (.tmp 60)) (b := (!r49)) (bnot_iff Iff.rfl) (fun hc71 => ?_) (fun hc71 => ?_)
        · refine SJ.sr 1 ?_
          refine OJ.go 1 [(2, .bool false)] ?_
          refine OJ.nil ?_
          exact SJ.ret rfl (Res.run (ys := [.bool false]) (.tmp (by kernel_rfl) .nil) rfl)
        · refine SJ.skip ?_
          refine SJ.sr 2 ?_
          refine OJ.go 1 [(61, .pointer (some (pt b6 0)))] ?_
          refine OJ.call (d := 62) (g := 43) (ats := #[80]) (args := [.tmp 61]) (owed := []) F43 (weirlaw3_Desk_Wipe_ok (some (pt b6 0))) (fun r50 => ?_)
          refine OW.nil ?_
          refine OJ.nil ?_
          refine SJ.seq ?_
          refine SJ.sr 3 ?_
          refine OJ.go 3 [(65, .bool (decide ((x44.len : Int) > 2048))), (64, .int .i64 (x44.len : Int)), (63, Sl.v x44)] ?_
          refine OJ.nil ?_
          refine SJ.cond (t := (.tmp 65)) (b := decide ((x44.len : Int) > 2048)) decide_eq_true_iff (fun hc70 => ?_) (fun hc70 => ?_)
          · refine SJ.seq ?_
            refine SJ.sr 6 ?_
            refine OJ.go 3 [(68, .bool (r48 != 30)), (67, .bool (r48 != 30)), (66, .int .i64 r48)] ?_
            refine OJ.join (b := (r48 != 30)) [3, 4, 5] [] [0, 3, 5, 6, 7, 71] (fun y53 => [(0, Sl.v a0), (3, .pointer r1.1), (5, .pointer (some (pt b6 0))), (6, .pointer (some (pt b7 0))), (7, .int .i64 s8), (71, .bool y53)]) [] [] (t := 68) bne_iff_ne (fun hp_ => ?_) (fun hp_ => ?_) (fun _ _ _ _ _ _ h_ => h_) (fun y53 => ?_)
            · refine OJ.go 3 [(71, .bool (r48 != 2)), (70, .bool (r48 != 2)), (69, .int .i64 r48)] ?_
              exact OJ.nil ⟨(Cov.mem Cov.nil), rfl, _, rfl, by kernel_rfl⟩
            · refine OJ.go 3 [(71, .bool false), (70, undef), (69, undef)] ?_
              exact OJ.nil ⟨(Cov.mem Cov.nil), rfl, _, rfl, by kernel_rfl⟩
            · refine OJ.nil ?_
              refine SJ.cond (t := (.tmp 71)) (b := y53) Iff.rfl (fun hc54 => ?_) (fun hc54 => ?_)
              · refine SJ.sr 1 ?_
                refine OJ.go 1 [(2, .bool false)] ?_
                refine OJ.nil ?_
                exact SJ.ret rfl (Res.run (ys := [.bool false]) (.tmp (by kernel_rfl) .nil) rfl)
              · refine SJ.skip ?_
                refine SJ.exit (id := 1) (by rfl) ?_
                refine SJ.rg 3 ?_
                refine OJ.go 3 [(7, .int .i64 (IntKind.wrap .i64 (s8 + 1))), (43, .int .i64 (IntKind.wrap .i64 (s8 + 1))), (42, .int .i64 s8)] ?_
                refine OJ.nil ?_
                exact SJ.at_ [0, 3, 5, 6, 7] rfl
          · refine SJ.skip ?_
            refine SJ.sr 9 ?_
            refine OJ.go 1 [(73, .pointer r1.1)] ?_
            refine OJ.call (d := 74) (g := 17) (ats := #[23]) (args := [.tmp 73]) (owed := []) F17 (ring_Port_Poll_ok r1.1) (fun r55 => ?_)
            refine OW.nil ?_
            refine OJ.go 7 [(12, .bool r55.2.2), (11, Sl.v r55.2.1), (10, .int .i64 r55.1), (77, .bool r55.2.2), (76, Sl.v r55.2.1), (75, .int .i64 r55.1), (72, .tuple #[.int .i64 r55.1, Sl.v r55.2.1, .bool r55.2.2])] ?_
            refine OJ.nil ?_
            refine SJ.seq ?_
            refine SJ.sr 21 ?_
            refine OJ.go 3 [(80, .bool (r48 != 0)), (79, .bool (r48 != 0)), (78, .int .i64 r48)] ?_
            refine OJ.join (b := (r48 != 0)) [3, 4, 5] [6, 7, 8, 9, 10, 11, 12, 13, 14, 15, 16, 17, 18, 19, 20] [0, 3, 5, 6, 7, 8, 10, 11, 83] (fun y56 => [(0, Sl.v a0), (3, .pointer r1.1), (5, .pointer (some (pt b6 0))), (6, .pointer (some (pt b7 0))), (7, .int .i64 s8), (8, Sl.v x44), (10, .int .i64 r55.1), (11, Sl.v r55.2.1), (83, .bool y56)]) [] [] (t := 80) bne_iff_ne (fun hp_ => ?_) (fun hp_ => ?_) (fun _ _ _ _ _ _ h_ => h_) (fun y56 => ?_)
            · refine OJ.go 3 [(83, .bool true), (82, undef), (81, undef)] ?_
              exact OJ.nil ⟨(Cov.mem Cov.nil), rfl, _, rfl, by kernel_rfl⟩
            · refine OJ.go 3 [(83, .bool (!r55.2.2)), (82, .bool (!r55.2.2)), (81, .bool r55.2.2)] ?_
              exact OJ.nil ⟨(Cov.mem Cov.nil), rfl, _, rfl, by kernel_rfl⟩
            · refine OJ.go 1 [(84, .bool y56)] ?_
              refine OJ.join (b := y56) [7, 8, 9, 10, 11] [12, 13, 14, 15, 16, 17, 18, 19, 20] [0, 3, 5, 6, 7, 8, 10, 89] (fun y58 => [(0, Sl.v a0), (3, .pointer r1.1), (5, .pointer (some (pt b6 0))), (6, .pointer (some (pt b7 0))), (7, .int .i64 s8), (8, Sl.v x44), (10, .int .i64 r55.1), (89, .bool y58)]) [] [] (t := 84) Iff.rfl (fun hp_ => ?_) (fun hp_ => ?_) (fun _ _ _ _ _ _ h_ => h_) (fun y58 => ?_)
              · refine OJ.go 5 [(89, .bool true), (88, undef), (87, undef), (86, undef), (85, undef)] ?_
                exact OJ.nil ⟨(Cov.mem Cov.nil), rfl, _, rfl, by kernel_rfl⟩
              · refine OJ.go 2 [(86, Sl.v x44), (85, Sl.v r55.2.1)] ?_
                refine OJ.call (d := 87) (g := 19) (ats := #[22, 22]) (args := [.tmp 85, .tmp 86]) (owed := []) F19 (weirlaw3_alike_ok r55.2.1 x44) (fun r57 => ?_)
                refine OW.nil ?_
                refine OJ.go 2 [(89, .bool (!r57)), (88, .bool (!r57))] ?_
                exact OJ.nil ⟨(Cov.mem Cov.nil), rfl, _, rfl, by kernel_rfl⟩
              · refine OJ.go 1 [(90, .bool y58)] ?_
                refine OJ.join (b := y58) [13, 14, 15, 16, 17, 18, 19, 20] [] [0, 3, 5, 6, 7, 8, 98] (fun y61 => [(0, Sl.v a0), (3, .pointer r1.1), (5, .pointer (some (pt b6 0))), (6, .pointer (some (pt b7 0))), (7, .int .i64 s8), (8, Sl.v x44), (98, .bool y61)]) [] [] (t := 90) Iff.rfl (fun hp_ => ?_) (fun hp_ => ?_) (fun _ _ _ _ _ _ h_ => h_) (fun y61 => ?_)
                · refine OJ.go 8 [(98, .bool true), (97, undef), (96, undef), (95, undef), (94, undef), (93, undef), (92, undef), (91, undef)] ?_
                  exact OJ.nil ⟨(Cov.mem Cov.nil), rfl, _, rfl, by kernel_rfl⟩
                · refine OJ.go 4 [(94, .int .i64 (x44.len : Int)), (93, Sl.v x44), (92, .int .i64 r55.1), (91, .pointer r1.1)] ?_
                  refine OJ.call (d := 95) (g := 21) (ats := #[23, 3, 3]) (args := [.tmp 91, .tmp 92, .tmp 94]) (owed := []) F21 (ring_Port_Send_ok r1.1 r55.1 (x44.len : Int)) (fun r59 => ?_)
                  refine OW.nil ?_
                  refine OJ.call (d := 96) (g := 14) (ats := #[24]) (args := [.tmp 95]) (owed := []) F14 (weirlaw3_num_ok r59) (fun r60 => ?_)
                  refine OW.nil ?_
                  refine OJ.go 2 [(98, .bool (r60 != 0)), (97, .bool (r60 != 0))] ?_
                  exact OJ.nil ⟨(Cov.mem Cov.nil), rfl, _, rfl, by kernel_rfl⟩
                · refine OJ.nil ?_
                  refine SJ.cond (t := (.tmp 98)) (b := y61) Iff.rfl (fun hc69 => ?_) (fun hc69 => ?_)
                  · refine SJ.sr 1 ?_
                    refine OJ.go 1 [(2, .bool false)] ?_
                    refine OJ.nil ?_
                    exact SJ.ret rfl (Res.run (ys := [.bool false]) (.tmp (by kernel_rfl) .nil) rfl)
                  · refine SJ.skip ?_
                    refine SJ.sr 7 ?_
                    refine OJ.go 1 [(100, .pointer r1.1)] ?_
                    refine OJ.call (d := 101) (g := 22) (ats := #[23]) (args := [.tmp 100]) (owed := []) F22 (ring_Port_Drain_ok r1.1) (fun r62 => ?_)
                    refine OW.nil ?_
                    refine OJ.go 5 [(14, .bool r62.2), (13, Sl.v r62.1), (103, .bool r62.2), (102, Sl.v r62.1), (99, .tuple #[Sl.v r62.1, .bool r62.2])] ?_
                    refine OJ.nil ?_
                    refine SJ.seq ?_
                    refine SJ.sr 8 ?_
                    refine OJ.go 3 [(106, .bool (!r62.2)), (105, .bool (!r62.2)), (104, .bool r62.2)] ?_
                    refine OJ.join (b := (!r62.2)) [3, 4, 5, 6, 7] [] [0, 3, 5, 6, 7, 13, 111] (fun y64 => [(0, Sl.v a0), (3, .pointer r1.1), (5, .pointer (some (pt b6 0))), (6, .pointer (some (pt b7 0))), (7, .int .i64 s8), (13, Sl.v r62.1), (111, .bool y64)]) [] [] (t := 106) (bnot_iff Iff.rfl) (fun hp_ => ?_) (fun hp_ => ?_) (fun _ _ _ _ _ _ h_ => h_) (fun y64 => ?_)
                    · refine OJ.go 5 [(111, .bool true), (110, undef), (109, undef), (108, undef), (107, undef)] ?_
                      exact OJ.nil ⟨(Cov.mem Cov.nil), rfl, _, rfl, by kernel_rfl⟩
                    · refine OJ.go 2 [(108, Sl.v x44), (107, Sl.v r62.1)] ?_
                      refine OJ.call (d := 109) (g := 19) (ats := #[22, 22]) (args := [.tmp 107, .tmp 108]) (owed := []) F19 (weirlaw3_alike_ok r62.1 x44) (fun r63 => ?_)
                      refine OW.nil ?_
                      refine OJ.go 2 [(111, .bool (!r63)), (110, .bool (!r63))] ?_
                      exact OJ.nil ⟨(Cov.mem Cov.nil), rfl, _, rfl, by kernel_rfl⟩
                    · refine OJ.nil ?_
                      refine SJ.cond (t := (.tmp 111)) (b := y64) Iff.rfl (fun hc68 => ?_) (fun hc68 => ?_)
                      · refine SJ.sr 1 ?_
                        refine OJ.go 1 [(2, .bool false)] ?_
                        refine OJ.nil ?_
                        exact SJ.ret rfl (Res.run (ys := [.bool false]) (.tmp (by kernel_rfl) .nil) rfl)
                      · refine SJ.skip ?_
                        refine SJ.sr 3 ?_
                        refine OJ.go 2 [(113, Sl.v r62.1), (112, .pointer (some (pt b7 0)))] ?_
                        refine OJ.call (d := 114) (g := 34) (ats := #[70, 22]) (args := [.tmp 112, .tmp 113]) (owed := []) F34 (weirlaw3_Book_Keep_ok (some (pt b7 0)) r62.1) (fun r65 => ?_)
                        refine OW.nil ?_
                        refine OJ.nil ?_
                        refine SJ.sr 3 ?_
                        refine OJ.go 1 [(115, .pointer (some (pt b7 0)))] ?_
                        refine OJ.call (d := 116) (g := 37) (ats := #[70]) (args := [.tmp 115]) (owed := []) F37 (weirlaw3_Book_Untouched_ok (some (pt b7 0))) (fun r66 => ?_)
                        refine OW.nil ?_
                        refine OJ.go 1 [(117, .bool (!r66))] ?_
                        refine OJ.nil ?_
                        refine SJ.cond (t := (.tmp 117)) (b := (!r66)) (bnot_iff Iff.rfl) (fun hc67 => ?_) (fun hc67 => ?_)
                        · refine SJ.sr 1 ?_
                          refine OJ.go 1 [(2, .bool false)] ?_
                          refine OJ.nil ?_
                          exact SJ.ret rfl (Res.run (ys := [.bool false]) (.tmp (by kernel_rfl) .nil) rfl)
                        · refine SJ.skip ?_
                          refine SJ.inBlock ?_
                          refine SJ.rg 3 ?_
                          refine OJ.go 3 [(7, .int .i64 (IntKind.wrap .i64 (s8 + 1))), (43, .int .i64 (IntKind.wrap .i64 (s8 + 1))), (42, .int .i64 s8)] ?_
                          refine OJ.nil ?_
                          exact SJ.at_ [0, 3, 5, 6, 7] rfl
    · refine SJ.exit (id := 0) (by rfl) ?_
      refine SJ.sr 3 ?_
      refine OJ.go 1 [(118, .pointer (some (pt b7 0)))] ?_
      refine OJ.call (d := 119) (g := 39) (ats := #[70]) (args := [.tmp 118]) (owed := []) F39 (weirlaw3_Book_Settle_ok (some (pt b7 0))) (fun r73 => ?_)
      refine OW.nil ?_
      refine OJ.go 1 [(2, .bool r73)] ?_
      refine OJ.nil ?_
      exact SJ.ret rfl (Res.run (ys := [.bool r73]) (.tmp (by kernel_rfl) .nil) rfl)
noncomputable def weirlaw3_RingAgain (a0 : Sl) : M Bool :=
  ring_New 2 2 3 2048 >>= fun r1 =>
  (if r1.1 = none then
      pure true
    else
      weirlaw3_num r1.2 >>= fun r2 =>
      pure (r2 != 0)) >>= fun y3 =>
  (if y3 = true then
      pure true
    else
      weirlaw3_started >>= fun r4 =>
      pure (!r4)) >>= fun y5 =>
  if y5 = true then
    pure false
  else
    newv 82 c_weirlaw3_Desk z_weirlaw3_Desk >>= fun b6 =>
    newv 72 c_weirlaw3_Book z_weirlaw3_Book >>= fun b7 =>
    loopM (fun s_ : Int => weirlaw3_RingAgain.L1 a0 r1 b6 b7 s_) 0
theorem weirlaw3_RingAgain_ok (a0 : Sl) : Ref Try.prog 12 [Sl.v a0] (weirlaw3_RingAgain a0) weirlaw3_RingAgain.out := by
  refine Ref.of (cd := weirlaw3_RingAgain.B) Try.func12 ?_
  show SJ weirlaw3_RingAgain.cx [.code weirlaw3_RingAgain.B] [(0, Sl.v a0)] [] (weirlaw3_RingAgain a0) weirlaw3_RingAgain.F0
  unfold weirlaw3_RingAgain
  refine SJ.sr 1 ?_
  refine OJ.go 1 [(2, .bool false)] ?_
  refine OJ.nil ?_
  refine SJ.sr 6 ?_
  refine OJ.call (d := 16) (g := 13) (ats := #[3, 3, 3, 3]) (args := [.const (.int .i64 2), .const (.int .i64 2), .const (.int .i64 3), .const (.int .i64 2048)]) (owed := []) F13 (ring_New_ok 2 2 3 2048) (fun r1 => ?_)
  refine OW.nil ?_
  refine OJ.go 5 [(4, .int .i64 r1.2), (3, .pointer r1.1), (18, .int .i64 r1.2), (17, .pointer r1.1), (15, .tuple #[.pointer r1.1, .int .i64 r1.2])] ?_
  refine OJ.nil ?_
  refine SJ.seq ?_
  refine SJ.sr 11 ?_
  refine OJ.go 3 [(21, .bool (Option.isNone r1.1)), (20, .bool (Option.isNone r1.1)), (19, .pointer r1.1)] ?_
  refine OJ.join (b := (Option.isNone r1.1)) [3, 4, 5, 6] [7, 8, 9, 10] [0, 3, 25] (fun y3 => [(0, Sl.v a0), (3, .pointer r1.1), (25, .bool y3)]) [] [] (t := 21) Option.isNone_iff_eq_none (fun hp_ => ?_) (fun hp_ => ?_) (fun _ _ _ _ _ _ h_ => h_) (fun y3 => ?_)
  · refine OJ.go 4 [(25, .bool true), (24, undef), (23, undef), (22, undef)] ?_
    exact OJ.nil ⟨(Cov.mem Cov.nil), rfl, _, rfl, by kernel_rfl⟩
  · refine OJ.go 1 [(22, .int .i64 r1.2)] ?_
    refine OJ.call (d := 23) (g := 14) (ats := #[24]) (args := [.tmp 22]) (owed := []) F14 (weirlaw3_num_ok r1.2) (fun r2 => ?_)
    refine OW.nil ?_
    refine OJ.go 2 [(25, .bool (r2 != 0)), (24, .bool (r2 != 0))] ?_
    exact OJ.nil ⟨(Cov.mem Cov.nil), rfl, _, rfl, by kernel_rfl⟩
  · refine OJ.go 1 [(26, .bool y3)] ?_
    refine OJ.join (b := y3) [8, 9, 10] [] [0, 3, 29] (fun y5 => [(0, Sl.v a0), (3, .pointer r1.1), (29, .bool y5)]) [] [] (t := 26) Iff.rfl (fun hp_ => ?_) (fun hp_ => ?_) (fun _ _ _ _ _ _ h_ => h_) (fun y5 => ?_)
    · refine OJ.go 3 [(29, .bool true), (28, undef), (27, undef)] ?_
      exact OJ.nil ⟨(Cov.mem Cov.nil), rfl, _, rfl, by kernel_rfl⟩
    · refine OJ.call (d := 27) (g := 29) (ats := #[]) (args := []) (owed := []) F29 (weirlaw3_started_ok ) (fun r4 => ?_)
      refine OW.nil ?_
      refine OJ.go 2 [(29, .bool (!r4)), (28, .bool (!r4))] ?_
      exact OJ.nil ⟨(Cov.mem Cov.nil), rfl, _, rfl, by kernel_rfl⟩
    · refine OJ.nil ?_
      refine SJ.cond (t := (.tmp 29)) (b := y5) Iff.rfl (fun hc75 => ?_) (fun hc75 => ?_)
      · refine SJ.sr 1 ?_
        refine OJ.go 1 [(2, .bool false)] ?_
        refine OJ.nil ?_
        exact SJ.ret rfl (Res.run (ys := [.bool false]) (.tmp (by kernel_rfl) .nil) rfl)
      · refine SJ.skip ?_
        refine SJ.sr 3 ?_
        refine OJ.build (d := 30) (T := 82) (parts := []) (ps := []) (cd := c_weirlaw3_Desk) (z0 := z_weirlaw3_Desk) z_weirlaw3_Desk Ty82 rfl Filled.nil ?_
        refine OJ.newOf (d := 31) (op := (.box 82 (.tmp 30))) (cd := c_weirlaw3_Desk) (u := z_weirlaw3_Desk) (owed := []) (box_run (by kernel_rfl)) (fun b6 => ?_)
        refine OW.nil ?_
        refine OJ.go 1 [(5, .pointer (some (pt b6 0)))] ?_
        refine OJ.nil ?_
        refine SJ.sr 3 ?_
        refine OJ.build (d := 32) (T := 72) (parts := []) (ps := []) (cd := c_weirlaw3_Book) (z0 := z_weirlaw3_Book) z_weirlaw3_Book Ty72 rfl Filled.nil ?_
        refine OJ.newOf (d := 33) (op := (.box 72 (.tmp 32))) (cd := c_weirlaw3_Book) (u := z_weirlaw3_Book) (owed := []) (box_run (by kernel_rfl)) (fun b7 => ?_)
        refine OW.nil ?_
        refine OJ.go 1 [(6, .pointer (some (pt b7 0)))] ?_
        refine OJ.nil ?_
        refine SJ.seq ?_
        refine SJ.sr 1 ?_
        refine OJ.go 1 [(7, .int .i64 0)] ?_
        refine OJ.nil ?_
        refine SJ.block (id := 0) ?_
        exact SJ.loop (fun s_ : Int => [(0, Sl.v a0), (3, .pointer r1.1), (5, .pointer (some (pt b6 0))), (6, .pointer (some (pt b7 0))), (7, .int .i64 s_)]) (fun s_ : Int => []) [0, 3, 5, 6, 7] rfl (fun _ _ => rfl) (fun s_ => weirlaw3_RingAgain.L1_ok a0 r1 b6 b7 s_)

/-! ### weir/weirlaw3.plays: function 28 -/
noncomputable def weirlaw3_plays.B : Code := (Try.f28.body).getD .skip
noncomputable def weirlaw3_plays.cx : Fx := ⟨Try.prog, 28, Try.f28⟩
noncomputable def weirlaw3_plays.out (r_ : Bool) : Value := .bool r_
noncomputable def weirlaw3_plays.F0 (r_ : Bool) : Reach := .ret (weirlaw3_plays.out r_)
noncomputable def weirlaw3_plays.F1 (a4 : Sl) (a5 : Int) (a6 : Int) (b3 : Nat) (b5 : Nat) : (LS (Bool × Int × weirlaw3_Side × weirlaw3_Side) Bool) → Reach := loopF [.inLoop (c1 (c1 (c2 (c1 (c2 (c2 (c2 (c2 (c2 (c2 weirlaw3_plays.B)))))))))), .inBlock 0, .code (c2 (c2 (c2 (c2 (c2 (c2 (c2 weirlaw3_plays.B)))))))] (fun s_ : (Bool × Int × weirlaw3_Side × weirlaw3_Side) => [(4, Sl.v a4), (5, .int .i64 a5), (6, .int .i64 a6), (16, .pointer (some (pt b3 0))), (17, .pointer (some (pt b5 0))), (15, .bool s_.1), (18, .int .i64 s_.2.1)]) (fun s_ : (Bool × Int × weirlaw3_Side × weirlaw3_Side) => [(b5, c_weirlaw3_Side.enc s_.2.2.1), (b3, c_weirlaw3_Side.enc s_.2.2.2)]) weirlaw3_plays.F0
noncomputable def weirlaw3_plays.L1 (a4 : Sl) (a5 : Int) (a6 : Int) (s6 : Bool) (s7 : Int) (s8 : weirlaw3_Side) (s9 : weirlaw3_Side) : M (LS (Bool × Int × weirlaw3_Side × weirlaw3_Side) Bool) :=
  (if s7 < (a4.len : Int) then
      pure s6
    else
      pure false) >>= fun y24 =>
  if y24 = true then
    idx a4.a a4.len s7 5 >>= fun p25 =>
    ld c_weirlaw3_Op p25 >>= fun x26 =>
    slot 45 >>= fun b27 =>
    (if x26.Kind = 9 then
        pure true
      else
        pure (x26.Kind == 11)) >>= fun y28 =>
    (if y28 = true then
        (if x26.Kind < a5 then
            pure true
          else
            pure (decide (x26.Kind > a6))) >>= fun y29 =>
        pure y29
      else
        pure false) >>= fun y30 =>
    if y30 = true then
      pure (LS.next (s6, IntKind.wrap .i64 (s7 + 1), s8, s9))
    else
      if x26.Two = true then
        weirlaw3_step s8 x26 >>= fun r33 =>
        pure (LS.next (r33.2, IntKind.wrap .i64 (s7 + 1), r33.1, s9))
      else
        weirlaw3_step s9 x26 >>= fun r34 =>
        pure (LS.next (r34.2, IntKind.wrap .i64 (s7 + 1), s8, r34.1))
  else
    pure (LS.done s6)
theorem weirlaw3_plays.L1_ok (a4 : Sl) (a5 : Int) (a6 : Int) (b3 : Nat) (b5 : Nat) (s6 : Bool) (s7 : Int) (s8 : weirlaw3_Side) (s9 : weirlaw3_Side) :
    SJ weirlaw3_plays.cx [.code (c1 (c1 (c2 (c1 (c2 (c2 (c2 (c2 (c2 (c2 weirlaw3_plays.B)))))))))), .inLoop (c1 (c1 (c2 (c1 (c2 (c2 (c2 (c2 (c2 (c2 weirlaw3_plays.B)))))))))), .inBlock 0, .code (c2 (c2 (c2 (c2 (c2 (c2 (c2 weirlaw3_plays.B)))))))] [(4, Sl.v a4), (5, .int .i64 a5), (6, .int .i64 a6), (16, .pointer (some (pt b3 0))), (17, .pointer (some (pt b5 0))), (15, .bool s6), (18, .int .i64 s7)] [(b5, c_weirlaw3_Side.enc s8), (b3, c_weirlaw3_Side.enc s9)] (weirlaw3_plays.L1 a4 a5 a6 s6 s7 s8 s9) (weirlaw3_plays.F1 a4 a5 a6 b3 b5) := by
  unfold weirlaw3_plays.L1
  refine SJ.seq ?_
  refine SJ.sr 7 ?_
  refine OJ.go 5 [(41, .bool (decide (s7 < (a4.len : Int)))), (40, .bool (decide (s7 < (a4.len : Int)))), (39, .int .i64 (a4.len : Int)), (38, Sl.v a4), (37, .int .i64 s7)] ?_
  refine OJ.join (b := decide (s7 < (a4.len : Int))) [5, 6] [] [4, 5, 6, 16, 17, 15, 18, 43] (fun y24 => [(4, Sl.v a4), (5, .int .i64 a5), (6, .int .i64 a6), (16, .pointer (some (pt b3 0))), (17, .pointer (some (pt b5 0))), (15, .bool s6), (18, .int .i64 s7), (43, .bool y24)]) [] [] (t := 41) decide_eq_true_iff (fun hp_ => ?_) (fun hp_ => ?_) (fun _ _ _ _ _ _ h_ => h_) (fun y24 => ?_)
  · refine OJ.go 2 [(43, .bool s6), (42, .bool s6)] ?_
    exact OJ.nil ⟨(Cov.mem Cov.nil), rfl, _, rfl, by kernel_rfl⟩
  · refine OJ.go 2 [(43, .bool false), (42, undef)] ?_
    exact OJ.nil ⟨(Cov.mem Cov.nil), rfl, _, rfl, by kernel_rfl⟩
  · refine OJ.nil ?_
    refine SJ.cond (t := (.tmp 43)) (b := y24) Iff.rfl (fun hc37 => ?_) (fun hc37 => ?_)
    · refine SJ.skip ?_
      refine SJ.seq ?_
      refine SJ.block (id := 1) ?_
      refine SJ.sr 6 ?_
      refine OJ.go 2 [(47, .int .i64 s7), (46, Sl.v a4)] ?_
      refine OJ.idxS (d := 48) (T := 40) (y := .tmp 46) (j := .tmp 47) (E := 45) (cap := a4.cap) (k := .i64) (fun p25 => ?_)
      refine OJ.ld (d := 49) (y := .tmp 48) (pend2 := fun x26 => []) Ty45 (fun _ => rfl) (fun x26 => ?_)
      refine OJ.slotOf (d := 19) (op := (.alloc 45)) (cd := c_weirlaw3_Op) (u := z_weirlaw3_Op) (owed := []) (alloc_run Ty45) (fun b27 => ?_)
      refine OW.nil ?_
      refine OJ.kst (y := .tmp 19) (z := .tmp 49) (cd := c_weirlaw3_Op) (u := x26) (j := 0) (b := b27) (o := 0) (c_weirlaw3_Op.enc x26) (owed := []) Ty45 rfl (Upd.whole ((Cod.len _ _).trans (Cod.len _ _).symm)) rfl ?_
      refine OW.nil ?_
      refine OJ.nil ?_
      refine SJ.seq ?_
      refine SJ.sr 20 ?_
      refine OJ.go 1 [(50, .pointer (some (pt b27 0)))] ?_
      refine OJ.kld (d := 51) (y := .tmp 50) (cd := (cI .i64)) (j := 0) (b := b27) (o := 0) x26.Kind (pend2 := []) Ty3 rfl (At_weirlaw3_Op_Kind x26) rfl ?_
      refine OJ.go 2 [(53, .bool (x26.Kind == 9)), (52, .bool (x26.Kind == 9))] ?_
      refine OJ.join (b := (x26.Kind == 9)) [4, 5, 6, 7] [8, 9, 10, 11, 12, 13, 14, 15, 16, 17, 18, 19] [4, 5, 6, 16, 17, 15, 18, 19, 57] (fun y28 => [(4, Sl.v a4), (5, .int .i64 a5), (6, .int .i64 a6), (16, .pointer (some (pt b3 0))), (17, .pointer (some (pt b5 0))), (15, .bool s6), (18, .int .i64 s7), (19, .pointer (some (pt b27 0))), (57, .bool y28)]) [] [] (t := 53) beq_iff_eq (fun hp_ => ?_) (fun hp_ => ?_) (fun _ _ _ _ _ _ h_ => h_) (fun y28 => ?_)
      · refine OJ.go 4 [(57, .bool true), (56, undef), (55, undef), (54, undef)] ?_
        exact OJ.nil ⟨(Cov.mem Cov.nil), rfl, _, rfl, by kernel_rfl⟩
      · refine OJ.go 1 [(54, .pointer (some (pt b27 0)))] ?_
        refine OJ.kld (d := 55) (y := .tmp 54) (cd := (cI .i64)) (j := 0) (b := b27) (o := 0) x26.Kind (pend2 := []) Ty3 rfl (At_weirlaw3_Op_Kind x26) rfl ?_
        refine OJ.go 2 [(57, .bool (x26.Kind == 11)), (56, .bool (x26.Kind == 11))] ?_
        exact OJ.nil ⟨(Cov.mem Cov.nil), rfl, _, rfl, by kernel_rfl⟩
      · refine OJ.go 1 [(58, .bool y28)] ?_
        refine OJ.join (b := y28) [9, 10, 11, 12, 13, 14, 15, 16, 17, 18, 19] [] [4, 5, 6, 16, 17, 15, 18, 19, 69] (fun y30 => [(4, Sl.v a4), (5, .int .i64 a5), (6, .int .i64 a6), (16, .pointer (some (pt b3 0))), (17, .pointer (some (pt b5 0))), (15, .bool s6), (18, .int .i64 s7), (19, .pointer (some (pt b27 0))), (69, .bool y30)]) [] [] (t := 58) Iff.rfl (fun hp_ => ?_) (fun hp_ => ?_) (fun _ _ _ _ _ _ h_ => h_) (fun y30 => ?_)
        · refine OJ.go 1 [(59, .pointer (some (pt b27 0)))] ?_
          refine OJ.kld (d := 60) (y := .tmp 59) (cd := (cI .i64)) (j := 0) (b := b27) (o := 0) x26.Kind (pend2 := []) Ty3 rfl (At_weirlaw3_Op_Kind x26) rfl ?_
          refine OJ.go 3 [(63, .bool (decide (x26.Kind < a5))), (62, .bool (decide (x26.Kind < a5))), (61, .int .i64 a5)] ?_
          refine OJ.join (b := decide (x26.Kind < a5)) [14, 15, 16, 17, 18] [19] [4, 5, 6, 16, 17, 15, 18, 19, 58, 68] (fun y29 => [(4, Sl.v a4), (5, .int .i64 a5), (6, .int .i64 a6), (16, .pointer (some (pt b3 0))), (17, .pointer (some (pt b5 0))), (15, .bool s6), (18, .int .i64 s7), (19, .pointer (some (pt b27 0))), (58, .bool true), (68, .bool y29)]) [] [] (t := 63) decide_eq_true_iff (fun hp_ => ?_) (fun hp_ => ?_) (fun _ _ _ _ _ hq_ h_ => ⟨fun e_ he_ => (hq_ e_ he_).elim (fun h => h_.1 e_ h) (fun h => nomatch h), h_.2⟩) (fun y29 => ?_)
          · refine OJ.go 5 [(68, .bool true), (67, undef), (66, undef), (65, undef), (64, undef)] ?_
            exact OJ.nil ⟨(Cov.mem Cov.nil), rfl, _, rfl, by kernel_rfl⟩
          · refine OJ.go 1 [(64, .pointer (some (pt b27 0)))] ?_
            refine OJ.kld (d := 65) (y := .tmp 64) (cd := (cI .i64)) (j := 0) (b := b27) (o := 0) x26.Kind (pend2 := []) Ty3 rfl (At_weirlaw3_Op_Kind x26) rfl ?_
            refine OJ.go 3 [(68, .bool (decide (x26.Kind > a6))), (67, .bool (decide (x26.Kind > a6))), (66, .int .i64 a6)] ?_
            exact OJ.nil ⟨(Cov.mem Cov.nil), rfl, _, rfl, by kernel_rfl⟩
          · refine OJ.go 1 [(69, .bool y29)] ?_
            exact OJ.nil ⟨(Cov.mem Cov.nil), rfl, _, rfl, by kernel_rfl⟩
        · refine OJ.go 11 [(69, .bool false), (68, undef), (67, undef), (66, undef), (65, undef), (64, undef), (63, undef), (62, undef), (61, undef), (60, undef), (59, undef)] ?_
          exact OJ.nil ⟨(Cov.mem Cov.nil), rfl, _, rfl, by kernel_rfl⟩
        · refine OJ.nil ?_
          refine SJ.cond (t := (.tmp 69)) (b := y30) Iff.rfl (fun hc36 => ?_) (fun hc36 => ?_)
          · refine SJ.exit (id := 1) (by rfl) ?_
            refine SJ.rg 3 ?_
            refine OJ.go 3 [(18, .int .i64 (IntKind.wrap .i64 (s7 + 1))), (45, .int .i64 (IntKind.wrap .i64 (s7 + 1))), (44, .int .i64 s7)] ?_
            refine OJ.nil ?_
            refine SJ.forget (List.Sublist.cons _ (List.Sublist.cons_cons _ (List.Sublist.cons_cons _ List.Sublist.slnil))) ?_
            exact SJ.at_ [4, 5, 6, 16, 17, 15, 18] rfl
          · refine SJ.skip ?_
            refine SJ.sr 2 ?_
            refine OJ.go 1 [(70, .pointer (some (pt b27 1)))] ?_
            refine OJ.kld (d := 71) (y := .tmp 70) (cd := cB) (j := 0) (b := b27) (o := 1) x26.Two (pend2 := []) Ty4 rfl (At_weirlaw3_Op_Two x26) rfl ?_
            refine OJ.nil ?_
            refine SJ.cond (t := (.tmp 71)) (b := x26.Two) Iff.rfl (fun hc35 => ?_) (fun hc35 => ?_)
            · refine SJ.rg 8 ?_
              refine OJ.kld (d := 73) (y := .tmp 17) (cd := c_weirlaw3_Side) (j := 1) (b := b5) (o := 0) s8 (pend2 := []) Ty62 rfl (At.whole _) rfl ?_
              refine OJ.kld (d := 74) (y := .tmp 19) (cd := c_weirlaw3_Op) (j := 0) (b := b27) (o := 0) x26 (pend2 := []) Ty45 rfl (At.whole _) rfl ?_
              refine OJ.call (d := 75) (g := 50) (ats := #[62, 45]) (args := [.tmp 73, .tmp 74]) (owed := []) F50 (weirlaw3_step_ok s8 x26) (fun r33 => ?_)
              refine OW.nil ?_
              refine OJ.go 3 [(77, .bool r33.2), (76, c_weirlaw3_Side.val r33.1), (72, .tuple #[c_weirlaw3_Side.val r33.1, .bool r33.2])] ?_
              refine OJ.kst (y := .tmp 17) (z := .tmp 76) (cd := c_weirlaw3_Side) (u := r33.1) (j := 1) (b := b5) (o := 0) (c_weirlaw3_Side.enc r33.1) (owed := []) Ty62 rfl (Upd.whole ((Cod.len _ _).trans (Cod.len _ _).symm)) rfl ?_
              refine OW.nil ?_
              refine OJ.go 1 [(15, .bool r33.2)] ?_
              refine OJ.nil ?_
              refine SJ.inBlock ?_
              refine SJ.rg 3 ?_
              refine OJ.go 3 [(18, .int .i64 (IntKind.wrap .i64 (s7 + 1))), (45, .int .i64 (IntKind.wrap .i64 (s7 + 1))), (44, .int .i64 s7)] ?_
              refine OJ.nil ?_
              refine SJ.forget (List.Sublist.cons _ (List.Sublist.cons_cons _ (List.Sublist.cons_cons _ List.Sublist.slnil))) ?_
              exact SJ.at_ [4, 5, 6, 16, 17, 15, 18] rfl
            · refine SJ.rg 8 ?_
              refine OJ.kld (d := 79) (y := .tmp 16) (cd := c_weirlaw3_Side) (j := 2) (b := b3) (o := 0) s9 (pend2 := []) Ty62 rfl (At.whole _) rfl ?_
              refine OJ.kld (d := 80) (y := .tmp 19) (cd := c_weirlaw3_Op) (j := 0) (b := b27) (o := 0) x26 (pend2 := []) Ty45 rfl (At.whole _) rfl ?_
              refine OJ.call (d := 81) (g := 50) (ats := #[62, 45]) (args := [.tmp 79, .tmp 80]) (owed := []) F50 (weirlaw3_step_ok s9 x26) (fun r34 => ?_)
              refine OW.nil ?_
              refine OJ.go 3 [(83, .bool r34.2), (82, c_weirlaw3_Side.val r34.1), (78, .tuple #[c_weirlaw3_Side.val r34.1, .bool r34.2])] ?_
              refine OJ.kst (y := .tmp 16) (z := .tmp 82) (cd := c_weirlaw3_Side) (u := r34.1) (j := 2) (b := b3) (o := 0) (c_weirlaw3_Side.enc r34.1) (owed := []) Ty62 rfl (Upd.whole ((Cod.len _ _).trans (Cod.len _ _).symm)) rfl ?_
              refine OW.nil ?_
              refine OJ.go 1 [(15, .bool r34.2)] ?_
              refine OJ.nil ?_
              refine SJ.inBlock ?_
              refine SJ.rg 3 ?_
              refine OJ.go 3 [(18, .int .i64 (IntKind.wrap .i64 (s7 + 1))), (45, .int .i64 (IntKind.wrap .i64 (s7 + 1))), (44, .int .i64 s7)] ?_
              refine OJ.nil ?_
              refine SJ.forget (List.Sublist.cons _ (List.Sublist.cons_cons _ (List.Sublist.cons_cons _ List.Sublist.slnil))) ?_
              exact SJ.at_ [4, 5, 6, 16, 17, 15, 18] rfl
    · refine SJ.exit (id := 0) (by rfl) ?_
      refine SJ.sr 2 ?_
      refine OJ.go 2 [(14, .bool s6), (84, .bool s6)] ?_
      refine OJ.nil ?_
      exact SJ.ret rfl (Res.run (ys := [.bool s6]) (.tmp (by kernel_rfl) .nil) rfl)
noncomputable def weirlaw3_plays (a0 : Int) (a1 : Int) (a2 : Int) (a3 : Int) (a4 : Sl) (a5 : Int) (a6 : Int) : M Bool :=
  weirlaw3_started >>= fun r1 =>
  if ¬ (r1 = true) then
    pure false
  else
    weirlaw3_made a0 a1 a2 a3 >>= fun r2 =>
    slot 62 >>= fun b3 =>
    if ¬ (r2.2 = true) then
      pure false
    else
      weirlaw3_made 3 2 4 70 >>= fun r4 =>
      slot 62 >>= fun b5 =>
      loopM (fun s_ : (Bool × Int × weirlaw3_Side × weirlaw3_Side) => weirlaw3_plays.L1 a4 a5 a6 s_.1 s_.2.1 s_.2.2.1 s_.2.2.2) (r4.2, 0, r4.1, r2.1)
theorem weirlaw3_plays_ok (a0 : Int) (a1 : Int) (a2 : Int) (a3 : Int) (a4 : Sl) (a5 : Int) (a6 : Int) : Ref Try.prog 28 [.int .i64 a0, .int .i64 a1, .int .i64 a2, .int .i64 a3, Sl.v a4, .int .i64 a5, .int .i64 a6] (weirlaw3_plays a0 a1 a2 a3 a4 a5 a6) weirlaw3_plays.out := by
  refine Ref.of (cd := weirlaw3_plays.B) Try.func28 ?_
  show SJ weirlaw3_plays.cx [.code weirlaw3_plays.B] [(0, .int .i64 a0), (1, .int .i64 a1), (2, .int .i64 a2), (3, .int .i64 a3), (4, Sl.v a4), (5, .int .i64 a5), (6, .int .i64 a6)] [] (weirlaw3_plays a0 a1 a2 a3 a4 a5 a6) weirlaw3_plays.F0
  unfold weirlaw3_plays
  refine SJ.sr 1 ?_
  refine OJ.go 1 [(14, .bool false)] ?_
  refine OJ.nil ?_
  refine SJ.sr 2 ?_
  refine OJ.call (d := 20) (g := 29) (ats := #[]) (args := []) (owed := []) F29 (weirlaw3_started_ok ) (fun r1 => ?_)
  refine OW.nil ?_
  refine OJ.go 1 [(15, .bool r1)] ?_
  refine OJ.nil ?_
  refine SJ.seq ?_
  refine SJ.sr 2 ?_
  refine OJ.go 2 [(22, .bool (!r1)), (21, .bool r1)] ?_
  refine OJ.nil ?_
  refine SJ.cond (t := (.tmp 22)) (b := (!r1)) (bnot_iff Iff.rfl) (fun hc39 => ?_) (fun hc39 => ?_)
  · refine SJ.sr 1 ?_
    refine OJ.go 1 [(14, .bool false)] ?_
    refine OJ.nil ?_
    exact SJ.ret rfl (Res.run (ys := [.bool false]) (.tmp (by kernel_rfl) .nil) rfl)
  · refine SJ.skip ?_
    refine SJ.sr 11 ?_
    refine OJ.go 4 [(27, .int .i64 a3), (26, .int .i64 a2), (25, .int .i64 a1), (24, .int .i64 a0)] ?_
    refine OJ.call (d := 28) (g := 30) (ats := #[3, 3, 3, 3]) (args := [.tmp 24, .tmp 25, .tmp 26, .tmp 27]) (owed := []) F30 (weirlaw3_made_ok a0 a1 a2 a3) (fun r2 => ?_)
    refine OW.nil ?_
    refine OJ.go 3 [(30, .bool r2.2), (29, c_weirlaw3_Side.val r2.1), (23, .tuple #[c_weirlaw3_Side.val r2.1, .bool r2.2])] ?_
    refine OJ.slotOf (d := 16) (op := (.alloc 62)) (cd := c_weirlaw3_Side) (u := z_weirlaw3_Side) (owed := []) (alloc_run Ty62) (fun b3 => ?_)
    refine OW.nil ?_
    refine OJ.kst (y := .tmp 16) (z := .tmp 29) (cd := c_weirlaw3_Side) (u := r2.1) (j := 0) (b := b3) (o := 0) (c_weirlaw3_Side.enc r2.1) (owed := []) Ty62 rfl (Upd.whole ((Cod.len _ _).trans (Cod.len _ _).symm)) rfl ?_
    refine OW.nil ?_
    refine OJ.go 1 [(15, .bool r2.2)] ?_
    refine OJ.nil ?_
    refine SJ.seq ?_
    refine SJ.sr 2 ?_
    refine OJ.go 2 [(32, .bool (!r2.2)), (31, .bool r2.2)] ?_
    refine OJ.nil ?_
    refine SJ.cond (t := (.tmp 32)) (b := (!r2.2)) (bnot_iff Iff.rfl) (fun hc38 => ?_) (fun hc38 => ?_)
    · refine SJ.sr 1 ?_
      refine OJ.go 1 [(14, .bool false)] ?_
      refine OJ.nil ?_
      exact SJ.ret rfl (Res.run (ys := [.bool false]) (.tmp (by kernel_rfl) .nil) rfl)
    · refine SJ.skip ?_
      refine SJ.sr 7 ?_
      refine OJ.call (d := 34) (g := 30) (ats := #[3, 3, 3, 3]) (args := [.const (.int .i64 3), .const (.int .i64 2), .const (.int .i64 4), .const (.int .i64 70)]) (owed := []) F30 (weirlaw3_made_ok 3 2 4 70) (fun r4 => ?_)
      refine OW.nil ?_
      refine OJ.go 3 [(36, .bool r4.2), (35, c_weirlaw3_Side.val r4.1), (33, .tuple #[c_weirlaw3_Side.val r4.1, .bool r4.2])] ?_
      refine OJ.slotOf (d := 17) (op := (.alloc 62)) (cd := c_weirlaw3_Side) (u := z_weirlaw3_Side) (owed := []) (alloc_run Ty62) (fun b5 => ?_)
      refine OW.nil ?_
      refine OJ.kst (y := .tmp 17) (z := .tmp 35) (cd := c_weirlaw3_Side) (u := r4.1) (j := 0) (b := b5) (o := 0) (c_weirlaw3_Side.enc r4.1) (owed := []) Ty62 rfl (Upd.whole ((Cod.len _ _).trans (Cod.len _ _).symm)) rfl ?_
      refine OW.nil ?_
      refine OJ.go 1 [(15, .bool r4.2)] ?_
      refine OJ.nil ?_
      refine SJ.seq ?_
      refine SJ.sr 1 ?_
      refine OJ.go 1 [(18, .int .i64 0)] ?_
      refine OJ.nil ?_
      refine SJ.block (id := 0) ?_
      exact SJ.loop (fun s_ : (Bool × Int × weirlaw3_Side × weirlaw3_Side) => [(4, Sl.v a4), (5, .int .i64 a5), (6, .int .i64 a6), (16, .pointer (some (pt b3 0))), (17, .pointer (some (pt b5 0))), (15, .bool s_.1), (18, .int .i64 s_.2.1)]) (fun s_ : (Bool × Int × weirlaw3_Side × weirlaw3_Side) => [(b5, c_weirlaw3_Side.enc s_.2.2.1), (b3, c_weirlaw3_Side.enc s_.2.2.2)]) [4, 5, 6, 16, 17, 15, 18] rfl (fun _ _ => rfl) (fun s_ => weirlaw3_plays.L1_ok a4 a5 a6 b3 b5 s_.1 s_.2.1 s_.2.2.1 s_.2.2.2)

/-! ### weir/weirlaw3.RingFrames: function 6 -/
noncomputable def weirlaw3_RingFrames.B : Code := (Try.f6.body).getD .skip
noncomputable def weirlaw3_RingFrames.cx : Fx := ⟨Try.prog, 6, Try.f6⟩
noncomputable def weirlaw3_RingFrames.out (r_ : Bool) : Value := .bool r_
noncomputable def weirlaw3_RingFrames.F0 (r_ : Bool) : Reach := .ret (weirlaw3_RingFrames.out r_)
noncomputable def weirlaw3_RingFrames (a0 : Int) (a1 : Int) (a2 : Int) (a3 : Int) (a4 : Sl) : M Bool :=
  weirlaw3_plays a0 a1 a2 a3 a4 0 0 >>= fun r1 =>
  pure r1
theorem weirlaw3_RingFrames_ok (a0 : Int) (a1 : Int) (a2 : Int) (a3 : Int) (a4 : Sl) : Ref Try.prog 6 [.int .i64 a0, .int .i64 a1, .int .i64 a2, .int .i64 a3, Sl.v a4] (weirlaw3_RingFrames a0 a1 a2 a3 a4) weirlaw3_RingFrames.out := by
  refine Ref.of (cd := weirlaw3_RingFrames.B) Try.func6 ?_
  show SJ weirlaw3_RingFrames.cx [.code weirlaw3_RingFrames.B] [(0, .int .i64 a0), (1, .int .i64 a1), (2, .int .i64 a2), (3, .int .i64 a3), (4, Sl.v a4)] [] (weirlaw3_RingFrames a0 a1 a2 a3 a4) weirlaw3_RingFrames.F0
  unfold weirlaw3_RingFrames
  refine SJ.sr 1 ?_
  refine OJ.go 1 [(10, .bool false)] ?_
  refine OJ.nil ?_
  refine SJ.sr 7 ?_
  refine OJ.go 5 [(15, Sl.v a4), (14, .int .i64 a3), (13, .int .i64 a2), (12, .int .i64 a1), (11, .int .i64 a0)] ?_
  refine OJ.call (d := 16) (g := 28) (ats := #[3, 3, 3, 3, 40, 3, 3]) (args := [.tmp 11, .tmp 12, .tmp 13, .tmp 14, .tmp 15, .const (.int .i64 0), .const (.int .i64 0)]) (owed := []) F28 (weirlaw3_plays_ok a0 a1 a2 a3 a4 0 0) (fun r1 => ?_)
  refine OW.nil ?_
  refine OJ.go 1 [(10, .bool r1)] ?_
  refine OJ.nil ?_
  exact SJ.ret rfl (Res.run (ys := [.bool r1]) (.tmp (by kernel_rfl) .nil) rfl)

/-! ### weir/weirlaw3.port: function 23 -/
noncomputable def weirlaw3_port.B : Code := (Try.f23.body).getD .skip
noncomputable def weirlaw3_port.cx : Fx := ⟨Try.prog, 23, Try.f23⟩
noncomputable def weirlaw3_port.out (r_ : ((Option Addr) × Int × Int × Int × Int)) : Value := .tuple #[.pointer r_.1, .int .i64 r_.2.1, .int .i64 r_.2.2.1, .int .i64 r_.2.2.2.1, .int .i64 r_.2.2.2.2]
noncomputable def weirlaw3_port.F0 (r_ : ((Option Addr) × Int × Int × Int × Int)) : Reach := .ret (weirlaw3_port.out r_)
noncomputable def weirlaw3_port (a0 : Int) (a1 : Int) (a2 : Int) (a3 : Int) : M ((Option Addr) × Int × Int × Int × Int) :=
  (if a0 ≥ 1 then
      pure (decide (a0 ≤ 4096))
    else
      pure false) >>= fun y1 =>
  (if y1 = true then
      pure (decide (a1 ≥ 1))
    else
      pure false) >>= fun y2 =>
  (if y2 = true then
      pure (decide (a1 ≤ 4096))
    else
      pure false) >>= fun y3 =>
  (if y3 = true then
      pure (decide (a2 ≥ 1))
    else
      pure false) >>= fun y4 =>
  (if y4 = true then
      pure (decide (a2 ≤ 8192))
    else
      pure false) >>= fun y5 =>
  (if y5 = true then
      pure (decide (a3 ≥ 64))
    else
      pure false) >>= fun y6 =>
  (if y6 = true then
      pure (decide (a3 ≤ 65535))
    else
      pure false) >>= fun y7 =>
  (if y7 = true then
      pure (decide ((IntKind.wrap .i64 (a2 * a3)) ≤ 4000000))
    else
      pure false) >>= fun y8 =>
  if ¬ (y8 = true) then
    ring_New 2 2 3 64 >>= fun r9 =>
    weirlaw3_num r9.2 >>= fun r10 =>
    if r10 ≠ 0 then
      pure (none, 0, 0, 0, 0)
    else
      pure (r9.1, 2, 2, 3, 64)
  else
    ring_New a0 a1 a2 a3 >>= fun r12 =>
    weirlaw3_num r12.2 >>= fun r13 =>
    if r13 ≠ 0 then
      pure (none, 0, 0, 0, 0)
    else
      pure (r12.1, a0, a1, a2, a3)
theorem weirlaw3_port_ok (a0 : Int) (a1 : Int) (a2 : Int) (a3 : Int) : Ref Try.prog 23 [.int .i64 a0, .int .i64 a1, .int .i64 a2, .int .i64 a3] (weirlaw3_port a0 a1 a2 a3) weirlaw3_port.out := by
  refine Ref.of (cd := weirlaw3_port.B) Try.func23 ?_
  show SJ weirlaw3_port.cx [.code weirlaw3_port.B] [(0, .int .i64 a0), (1, .int .i64 a1), (2, .int .i64 a2), (3, .int .i64 a3)] [] (weirlaw3_port a0 a1 a2 a3) weirlaw3_port.F0
  unfold weirlaw3_port
  refine SJ.sr 5 ?_
  refine OJ.go 5 [(12, .int .i64 0), (11, .int .i64 0), (10, .int .i64 0), (9, .int .i64 0), (8, .pointer none)] ?_
  refine OJ.nil ?_
  refine SJ.sr 37 ?_
  refine OJ.go 3 [(18, .bool (decide (a0 ≥ 1))), (17, .bool (decide (a0 ≥ 1))), (16, .int .i64 a0)] ?_
  refine OJ.join (b := decide (a0 ≥ 1)) [3, 4, 5] [6, 7, 8, 9, 10, 11, 12, 13, 14, 15, 16, 17, 18, 19, 20, 21, 22, 23, 24, 25, 26, 27, 28, 29, 30, 31, 32, 33, 34, 35, 36] [0, 1, 2, 3, 21] (fun y1 => [(0, .int .i64 a0), (1, .int .i64 a1), (2, .int .i64 a2), (3, .int .i64 a3), (21, .bool y1)]) [] [] (t := 18) decide_eq_true_iff (fun hp_ => ?_) (fun hp_ => ?_) (fun _ _ _ _ _ _ h_ => h_) (fun y1 => ?_)
  · refine OJ.go 3 [(21, .bool (decide (a0 ≤ 4096))), (20, .bool (decide (a0 ≤ 4096))), (19, .int .i64 a0)] ?_
    exact OJ.nil ⟨(Cov.mem Cov.nil), rfl, _, rfl, by kernel_rfl⟩
  · refine OJ.go 3 [(21, .bool false), (20, undef), (19, undef)] ?_
    exact OJ.nil ⟨(Cov.mem Cov.nil), rfl, _, rfl, by kernel_rfl⟩
  · refine OJ.go 1 [(22, .bool y1)] ?_
    refine OJ.join (b := y1) [7, 8, 9] [10, 11, 12, 13, 14, 15, 16, 17, 18, 19, 20, 21, 22, 23, 24, 25, 26, 27, 28, 29, 30, 31, 32, 33, 34, 35, 36] [0, 1, 2, 3, 25] (fun y2 => [(0, .int .i64 a0), (1, .int .i64 a1), (2, .int .i64 a2), (3, .int .i64 a3), (25, .bool y2)]) [] [] (t := 22) Iff.rfl (fun hp_ => ?_) (fun hp_ => ?_) (fun _ _ _ _ _ _ h_ => h_) (fun y2 => ?_)
    · refine OJ.go 3 [(25, .bool (decide (a1 ≥ 1))), (24, .bool (decide (a1 ≥ 1))), (23, .int .i64 a1)] ?_
      exact OJ.nil ⟨(Cov.mem Cov.nil), rfl, _, rfl, by kernel_rfl⟩
    · refine OJ.go 3 [(25, .bool false), (24, undef), (23, undef)] ?_
      exact OJ.nil ⟨(Cov.mem Cov.nil), rfl, _, rfl, by kernel_rfl⟩
    · refine OJ.go 1 [(26, .bool y2)] ?_
      refine OJ.join (b := y2) [11, 12, 13] [14, 15, 16, 17, 18, 19, 20, 21, 22, 23, 24, 25, 26, 27, 28, 29, 30, 31, 32, 33, 34, 35, 36] [0, 1, 2, 3, 29] (fun y3 => [(0, .int .i64 a0), (1, .int .i64 a1), (2, .int .i64 a2), (3, .int .i64 a3), (29, .bool y3)]) [] [] (t := 26) Iff.rfl (fun hp_ => ?_) (fun hp_ => ?_) (fun _ _ _ _ _ _ h_ => h_) (fun y3 => ?_)
      · refine OJ.go 3 [(29, .bool (decide (a1 ≤ 4096))), (28, .bool (decide (a1 ≤ 4096))), (27, .int .i64 a1)] ?_
        exact OJ.nil ⟨(Cov.mem Cov.nil), rfl, _, rfl, by kernel_rfl⟩
      · refine OJ.go 3 [(29, .bool false), (28, undef), (27, undef)] ?_
        exact OJ.nil ⟨(Cov.mem Cov.nil), rfl, _, rfl, by kernel_rfl⟩
      · refine OJ.go 1 [(30, .bool y3)] ?_
        refine OJ.join (b := y3) [15, 16, 17] [18, 19, 20, 21, 22, 23, 24, 25, 26, 27, 28, 29, 30, 31, 32, 33, 34, 35, 36] [0, 1, 2, 3, 33] (fun y4 => [(0, .int .i64 a0), (1, .int .i64 a1), (2, .int .i64 a2), (3, .int .i64 a3), (33, .bool y4)]) [] [] (t := 30) Iff.rfl (fun hp_ => ?_) (fun hp_ => ?_) (fun _ _ _ _ _ _ h_ => h_) (fun y4 => ?_)
        · refine OJ.go 3 [(33, .bool (decide (a2 ≥ 1))), (32, .bool (decide (a2 ≥ 1))), (31, .int .i64 a2)] ?_
          exact OJ.nil ⟨(Cov.mem Cov.nil), rfl, _, rfl, by kernel_rfl⟩
        · refine OJ.go 3 [(33, .bool false), (32, undef), (31, undef)] ?_
          exact OJ.nil ⟨(Cov.mem Cov.nil), rfl, _, rfl, by kernel_rfl⟩
        · refine OJ.go 1 [(34, .bool y4)] ?_
          refine OJ.join (b := y4) [19, 20, 21] [22, 23, 24, 25, 26, 27, 28, 29, 30, 31, 32, 33, 34, 35, 36] [0, 1, 2, 3, 37] (fun y5 => [(0, .int .i64 a0), (1, .int .i64 a1), (2, .int .i64 a2), (3, .int .i64 a3), (37, .bool y5)]) [] [] (t := 34) Iff.rfl (fun hp_ => ?_) (fun hp_ => ?_) (fun _ _ _ _ _ _ h_ => h_) (fun y5 => ?_)
          · refine OJ.go 3 [(37, .bool (decide (a2 ≤ 8192))), (36, .bool (decide (a2 ≤ 8192))), (35, .int .i64 a2)] ?_
            exact OJ.nil ⟨(Cov.mem Cov.nil), rfl, _, rfl, by kernel_rfl⟩
          · refine OJ.go 3 [(37, .bool false), (36, undef), (35, undef)] ?_
            exact OJ.nil ⟨(Cov.mem Cov.nil), rfl, _, rfl, by kernel_rfl⟩
          · refine OJ.go 1 [(38, .bool y5)] ?_
            refine OJ.join (b := y5) [23, 24, 25] [26, 27, 28, 29, 30, 31, 32, 33, 34, 35, 36] [0, 1, 2, 3, 41] (fun y6 => [(0, .int .i64 a0), (1, .int .i64 a1), (2, .int .i64 a2), (3, .int .i64 a3), (41, .bool y6)]) [] [] (t := 38) Iff.rfl (fun hp_ => ?_) (fun hp_ => ?_) (fun _ _ _ _ _ _ h_ => h_) (fun y6 => ?_)
            · refine OJ.go 3 [(41, .bool (decide (a3 ≥ 64))), (40, .bool (decide (a3 ≥ 64))), (39, .int .i64 a3)] ?_
              exact OJ.nil ⟨(Cov.mem Cov.nil), rfl, _, rfl, by kernel_rfl⟩
            · refine OJ.go 3 [(41, .bool false), (40, undef), (39, undef)] ?_
              exact OJ.nil ⟨(Cov.mem Cov.nil), rfl, _, rfl, by kernel_rfl⟩
            · refine OJ.go 1 [(42, .bool y6)] ?_
              refine OJ.join (b := y6) [27, 28, 29] [30, 31, 32, 33, 34, 35, 36] [0, 1, 2, 3, 45] (fun y7 => [(0, .int .i64 a0), (1, .int .i64 a1), (2, .int .i64 a2), (3, .int .i64 a3), (45, .bool y7)]) [] [] (t := 42) Iff.rfl (fun hp_ => ?_) (fun hp_ => ?_) (fun _ _ _ _ _ _ h_ => h_) (fun y7 => ?_)
              · refine OJ.go 3 [(45, .bool (decide (a3 ≤ 65535))), (44, .bool (decide (a3 ≤ 65535))), (43, .int .i64 a3)] ?_
                exact OJ.nil ⟨(Cov.mem Cov.nil), rfl, _, rfl, by kernel_rfl⟩
              · refine OJ.go 3 [(45, .bool false), (44, undef), (43, undef)] ?_
                exact OJ.nil ⟨(Cov.mem Cov.nil), rfl, _, rfl, by kernel_rfl⟩
              · refine OJ.go 1 [(46, .bool y7)] ?_
                refine OJ.join (b := y7) [31, 32, 33, 34, 35] [36] [0, 1, 2, 3, 51] (fun y8 => [(0, .int .i64 a0), (1, .int .i64 a1), (2, .int .i64 a2), (3, .int .i64 a3), (51, .bool y8)]) [] [] (t := 46) Iff.rfl (fun hp_ => ?_) (fun hp_ => ?_) (fun _ _ _ _ _ _ h_ => h_) (fun y8 => ?_)
                · refine OJ.go 5 [(51, .bool (decide ((IntKind.wrap .i64 (a2 * a3)) ≤ 4000000))), (50, .bool (decide ((IntKind.wrap .i64 (a2 * a3)) ≤ 4000000))), (49, .int .i64 (IntKind.wrap .i64 (a2 * a3))), (48, .int .i64 a3), (47, .int .i64 a2)] ?_
                  exact OJ.nil ⟨(Cov.mem Cov.nil), rfl, _, rfl, by kernel_rfl⟩
                · refine OJ.go 5 [(51, .bool false), (50, undef), (49, undef), (48, undef), (47, undef)] ?_
                  exact OJ.nil ⟨(Cov.mem Cov.nil), rfl, _, rfl, by kernel_rfl⟩
                · refine OJ.go 1 [(13, .bool y8)] ?_
                  refine OJ.nil ?_
                  refine SJ.seq ?_
                  refine SJ.sr 2 ?_
                  refine OJ.go 2 [(53, .bool (!y8)), (52, .bool y8)] ?_
                  refine OJ.nil ?_
                  refine SJ.cond (t := (.tmp 53)) (b := (!y8)) (bnot_iff Iff.rfl) (fun hc15 => ?_) (fun hc15 => ?_)
                  · refine SJ.sr 1 ?_
                    refine OJ.go 1 [(0, .int .i64 2)] ?_
                    refine OJ.nil ?_
                    refine SJ.sr 1 ?_
                    refine OJ.go 1 [(1, .int .i64 2)] ?_
                    refine OJ.nil ?_
                    refine SJ.sr 1 ?_
                    refine OJ.go 1 [(2, .int .i64 3)] ?_
                    refine OJ.nil ?_
                    refine SJ.rg 1 ?_
                    refine OJ.go 1 [(3, .int .i64 64)] ?_
                    refine OJ.nil ?_
                    refine SJ.sr 10 ?_
                    refine OJ.go 4 [(58, .int .i64 64), (57, .int .i64 3), (56, .int .i64 2), (55, .int .i64 2)] ?_
                    refine OJ.call (d := 59) (g := 13) (ats := #[3, 3, 3, 3]) (args := [.tmp 55, .tmp 56, .tmp 57, .tmp 58]) (owed := []) F13 (ring_New_ok 2 2 3 64) (fun r9 => ?_)
                    refine OW.nil ?_
                    refine OJ.go 5 [(15, .int .i64 r9.2), (14, .pointer r9.1), (61, .int .i64 r9.2), (60, .pointer r9.1), (54, .tuple #[.pointer r9.1, .int .i64 r9.2])] ?_
                    refine OJ.nil ?_
                    refine SJ.seq ?_
                    refine SJ.sr 3 ?_
                    refine OJ.go 1 [(62, .int .i64 r9.2)] ?_
                    refine OJ.call (d := 63) (g := 14) (ats := #[24]) (args := [.tmp 62]) (owed := []) F14 (weirlaw3_num_ok r9.2) (fun r10 => ?_)
                    refine OW.nil ?_
                    refine OJ.go 1 [(64, .bool (r10 != 0))] ?_
                    refine OJ.nil ?_
                    refine SJ.cond (t := (.tmp 64)) (b := (r10 != 0)) bne_iff_ne (fun hc11 => ?_) (fun hc11 => ?_)
                    · refine SJ.sr 5 ?_
                      refine OJ.go 5 [(12, .int .i64 0), (11, .int .i64 0), (10, .int .i64 0), (9, .int .i64 0), (8, .pointer none)] ?_
                      refine OJ.nil ?_
                      exact SJ.ret rfl (Res.run (ys := [.pointer none, .int .i64 0, .int .i64 0, .int .i64 0, .int .i64 0]) (.tmp (by kernel_rfl) (.tmp (by kernel_rfl) (.tmp (by kernel_rfl) (.tmp (by kernel_rfl) (.tmp (by kernel_rfl) .nil))))) rfl)
                    · refine SJ.skip ?_
                      refine SJ.sr 10 ?_
                      refine OJ.go 10 [(12, .int .i64 64), (11, .int .i64 3), (10, .int .i64 2), (9, .int .i64 2), (8, .pointer r9.1), (69, .int .i64 64), (68, .int .i64 3), (67, .int .i64 2), (66, .int .i64 2), (65, .pointer r9.1)] ?_
                      refine OJ.nil ?_
                      exact SJ.ret rfl (Res.run (ys := [.pointer r9.1, .int .i64 2, .int .i64 2, .int .i64 3, .int .i64 64]) (.tmp (by kernel_rfl) (.tmp (by kernel_rfl) (.tmp (by kernel_rfl) (.tmp (by kernel_rfl) (.tmp (by kernel_rfl) .nil))))) rfl)
                  · refine SJ.skip ?_
                    refine SJ.sr 10 ?_
                    refine OJ.go 4 [(58, .int .i64 a3), (57, .int .i64 a2), (56, .int .i64 a1), (55, .int .i64 a0)] ?_
                    refine OJ.call (d := 59) (g := 13) (ats := #[3, 3, 3, 3]) (args := [.tmp 55, .tmp 56, .tmp 57, .tmp 58]) (owed := []) F13 (ring_New_ok a0 a1 a2 a3) (fun r12 => ?_)
                    refine OW.nil ?_
                    refine OJ.go 5 [(15, .int .i64 r12.2), (14, .pointer r12.1), (61, .int .i64 r12.2), (60, .pointer r12.1), (54, .tuple #[.pointer r12.1, .int .i64 r12.2])] ?_
                    refine OJ.nil ?_
                    refine SJ.seq ?_
                    refine SJ.sr 3 ?_
                    refine OJ.go 1 [(62, .int .i64 r12.2)] ?_
                    refine OJ.call (d := 63) (g := 14) (ats := #[24]) (args := [.tmp 62]) (owed := []) F14 (weirlaw3_num_ok r12.2) (fun r13 => ?_)
                    refine OW.nil ?_
                    refine OJ.go 1 [(64, .bool (r13 != 0))] ?_
                    refine OJ.nil ?_
                    refine SJ.cond (t := (.tmp 64)) (b := (r13 != 0)) bne_iff_ne (fun hc14 => ?_) (fun hc14 => ?_)
                    · refine SJ.sr 5 ?_
                      refine OJ.go 5 [(12, .int .i64 0), (11, .int .i64 0), (10, .int .i64 0), (9, .int .i64 0), (8, .pointer none)] ?_
                      refine OJ.nil ?_
                      exact SJ.ret rfl (Res.run (ys := [.pointer none, .int .i64 0, .int .i64 0, .int .i64 0, .int .i64 0]) (.tmp (by kernel_rfl) (.tmp (by kernel_rfl) (.tmp (by kernel_rfl) (.tmp (by kernel_rfl) (.tmp (by kernel_rfl) .nil))))) rfl)
                    · refine SJ.skip ?_
                      refine SJ.sr 10 ?_
                      refine OJ.go 10 [(12, .int .i64 a3), (11, .int .i64 a2), (10, .int .i64 a1), (9, .int .i64 a0), (8, .pointer r12.1), (69, .int .i64 a3), (68, .int .i64 a2), (67, .int .i64 a1), (66, .int .i64 a0), (65, .pointer r12.1)] ?_
                      refine OJ.nil ?_
                      exact SJ.ret rfl (Res.run (ys := [.pointer r12.1, .int .i64 a0, .int .i64 a1, .int .i64 a2, .int .i64 a3]) (.tmp (by kernel_rfl) (.tmp (by kernel_rfl) (.tmp (by kernel_rfl) (.tmp (by kernel_rfl) (.tmp (by kernel_rfl) .nil))))) rfl)

/-! ### weir/weirlaw3.do: function 26 -/
noncomputable def weirlaw3_do.B : Code := (Try.f26.body).getD .skip
noncomputable def weirlaw3_do.cx : Fx := ⟨Try.prog, 26, Try.f26⟩
noncomputable def weirlaw3_do.out (r_ : Int) : Value := .int .i64 r_
noncomputable def weirlaw3_do.F0 (r_ : Int) : Reach := .ret (weirlaw3_do.out r_)
noncomputable def weirlaw3_do (a0 : (Option Addr)) (a1 : weirlaw3_Op) : M Int :=
  slot 45 >>= fun b1 =>
  if a1.Kind = 1 then
    ring_Port_Refill a0 a1.N >>= fun r506 =>
    pure 0
  else
    if a1.Kind = 2 then
      ring_Port_Arrive a0 a1.B >>= fun r758 =>
      weirlaw3_num r758 >>= fun r759 =>
      pure r759
    else
      if a1.Kind = 3 then
        ring_Port_Poll a0 >>= fun r884 =>
        pure 0
      else
        if a1.Kind = 4 then
          ring_Port_Take a0 >>= fun r946 =>
          weirlaw3_num r946.2.2 >>= fun r947 =>
          pure r947
        else
          if a1.Kind = 5 then
            ring_Port_Buffer a0 a1.I >>= fun r977 =>
            weirlaw3_num r977.2 >>= fun r978 =>
            pure r978
          else
            if a1.Kind = 6 then
              ring_Port_Release a0 a1.I >>= fun r992 =>
              weirlaw3_num r992 >>= fun r993 =>
              pure r993
            else
              if a1.Kind = 7 then
                ring_Port_Send a0 a1.I a1.N >>= fun r999 =>
                weirlaw3_num r999 >>= fun r1000 =>
                pure r1000
              else
                if a1.Kind = 8 then
                  ring_Port_Drain a0 >>= fun r1002 =>
                  pure 0
                else
                  pure 0
theorem weirlaw3_do_ok (a0 : (Option Addr)) (a1 : weirlaw3_Op) : Ref Try.prog 26 [.pointer a0, c_weirlaw3_Op.val a1] (weirlaw3_do a0 a1) weirlaw3_do.out := by
  refine Ref.of (cd := weirlaw3_do.B) Try.func26 ?_
  show SJ weirlaw3_do.cx [.code weirlaw3_do.B] [(0, .pointer a0), (1, c_weirlaw3_Op.val a1)] [] (weirlaw3_do a0 a1) weirlaw3_do.F0
  unfold weirlaw3_do
  refine SJ.sr 2 ?_
  refine OJ.slotOf (d := 3) (op := (.box 45 (.tmp 1))) (cd := c_weirlaw3_Op) (u := a1) (owed := []) (box_run (by kernel_rfl)) (fun b1 => ?_)
  refine OW.nil ?_
  refine OJ.go 1 [(4, .int .i64 0)] ?_
  refine OJ.nil ?_
  refine SJ.seq ?_
  refine SJ.sr 2 ?_
  refine OJ.go 1 [(10, .pointer (some (pt b1 0)))] ?_
  refine OJ.kld (d := 11) (y := .tmp 10) (cd := (cI .i64)) (j := 0) (b := b1) (o := 0) a1.Kind (pend2 := []) Ty3 rfl (At_weirlaw3_Op_Kind a1) rfl ?_
  refine OJ.nil ?_
  refine SJ.block (id := 0) ?_
  refine SJ.sr 2 ?_
  refine OJ.go 2 [(12, .bool (a1.Kind == 1)), (13, .bool (a1.Kind == 1))] ?_
  refine OJ.nil ?_
  refine SJ.cond (t := (.tmp 12)) (b := (a1.Kind == 1)) beq_iff_eq (fun hc1010 => ?_) (fun hc1010 => ?_)
  · refine SJ.rg 4 ?_
    refine OJ.go 2 [(15, .pointer (some (pt b1 3))), (14, .pointer a0)] ?_
    refine OJ.kld (d := 16) (y := .tmp 15) (cd := (cI .i64)) (j := 0) (b := b1) (o := 3) a1.N (pend2 := []) Ty3 rfl (At_weirlaw3_Op_N a1) rfl ?_
    refine OJ.call (d := 17) (g := 15) (ats := #[23, 3]) (args := [.tmp 14, .tmp 16]) (owed := []) F15 (ring_Port_Refill_ok a0 a1.N) (fun r506 => ?_)
    refine OW.nil ?_
    refine OJ.nil ?_
    refine SJ.inBlock ?_
    refine SJ.sr 1 ?_
    refine OJ.go 1 [(4, .int .i64 0)] ?_
    refine OJ.nil ?_
    exact SJ.ret rfl (Res.run (ys := [.int .i64 0]) (.tmp (by kernel_rfl) .nil) rfl)
  · refine SJ.sr 2 ?_
    refine OJ.go 2 [(18, .bool (a1.Kind == 2)), (19, .bool (a1.Kind == 2))] ?_
    refine OJ.nil ?_
    refine SJ.cond (t := (.tmp 18)) (b := (a1.Kind == 2)) beq_iff_eq (fun hc1009 => ?_) (fun hc1009 => ?_)
    · refine SJ.sr 6 ?_
      refine OJ.go 2 [(21, .pointer (some (pt b1 4))), (20, .pointer a0)] ?_
      refine OJ.kld (d := 22) (y := .tmp 21) (cd := cL) (j := 0) (b := b1) (o := 4) a1.B (pend2 := []) Ty22 rfl (At_weirlaw3_Op_B a1) rfl ?_
      refine OJ.call (d := 23) (g := 16) (ats := #[23, 22]) (args := [.tmp 20, .tmp 22]) (owed := []) F16 (ring_Port_Arrive_ok a0 a1.B) (fun r758 => ?_)
      refine OW.nil ?_
      refine OJ.call (d := 24) (g := 14) (ats := #[24]) (args := [.tmp 23]) (owed := []) F14 (weirlaw3_num_ok r758) (fun r759 => ?_)
      refine OW.nil ?_
      refine OJ.go 1 [(4, .int .i64 r759)] ?_
      refine OJ.nil ?_
      exact SJ.ret rfl (Res.run (ys := [.int .i64 r759]) (.tmp (by kernel_rfl) .nil) rfl)
    · refine SJ.sr 2 ?_
      refine OJ.go 2 [(25, .bool (a1.Kind == 3)), (26, .bool (a1.Kind == 3))] ?_
      refine OJ.nil ?_
      refine SJ.cond (t := (.tmp 25)) (b := (a1.Kind == 3)) beq_iff_eq (fun hc1008 => ?_) (fun hc1008 => ?_)
      · refine SJ.rg 2 ?_
        refine OJ.go 1 [(27, .pointer a0)] ?_
        refine OJ.call (d := 28) (g := 17) (ats := #[23]) (args := [.tmp 27]) (owed := []) F17 (ring_Port_Poll_ok a0) (fun r884 => ?_)
        refine OW.nil ?_
        refine OJ.nil ?_
        refine SJ.inBlock ?_
        refine SJ.sr 1 ?_
        refine OJ.go 1 [(4, .int .i64 0)] ?_
        refine OJ.nil ?_
        exact SJ.ret rfl (Res.run (ys := [.int .i64 0]) (.tmp (by kernel_rfl) .nil) rfl)
      · refine SJ.sr 2 ?_
        refine OJ.go 2 [(29, .bool (a1.Kind == 4)), (30, .bool (a1.Kind == 4))] ?_
        refine OJ.nil ?_
        refine SJ.cond (t := (.tmp 29)) (b := (a1.Kind == 4)) beq_iff_eq (fun hc1007 => ?_) (fun hc1007 => ?_)
        · refine SJ.sr 9 ?_
          refine OJ.go 1 [(32, .pointer a0)] ?_
          refine OJ.call (d := 33) (g := 25) (ats := #[23]) (args := [.tmp 32]) (owed := []) F25 (ring_Port_Take_ok a0) (fun r946 => ?_)
          refine OW.nil ?_
          refine OJ.go 7 [(7, .int .i64 r946.2.2), (6, Sl.v r946.2.1), (5, .int .i64 r946.1), (36, .int .i64 r946.2.2), (35, Sl.v r946.2.1), (34, .int .i64 r946.1), (31, .tuple #[.int .i64 r946.1, Sl.v r946.2.1, .int .i64 r946.2.2])] ?_
          refine OJ.nil ?_
          refine SJ.sr 3 ?_
          refine OJ.go 1 [(37, .int .i64 r946.2.2)] ?_
          refine OJ.call (d := 38) (g := 14) (ats := #[24]) (args := [.tmp 37]) (owed := []) F14 (weirlaw3_num_ok r946.2.2) (fun r947 => ?_)
          refine OW.nil ?_
          refine OJ.go 1 [(4, .int .i64 r947)] ?_
          refine OJ.nil ?_
          exact SJ.ret rfl (Res.run (ys := [.int .i64 r947]) (.tmp (by kernel_rfl) .nil) rfl)
        · refine SJ.sr 2 ?_
          refine OJ.go 2 [(39, .bool (a1.Kind == 5)), (40, .bool (a1.Kind == 5))] ?_
          refine OJ.nil ?_
          refine SJ.cond (t := (.tmp 39)) (b := (a1.Kind == 5)) beq_iff_eq (fun hc1006 => ?_) (fun hc1006 => ?_)
          · refine SJ.sr 9 ?_
            refine OJ.go 2 [(43, .pointer (some (pt b1 2))), (42, .pointer a0)] ?_
            refine OJ.kld (d := 44) (y := .tmp 43) (cd := (cI .i64)) (j := 0) (b := b1) (o := 2) a1.I (pend2 := []) Ty3 rfl (At_weirlaw3_Op_I a1) rfl ?_
            refine OJ.call (d := 45) (g := 18) (ats := #[23, 3]) (args := [.tmp 42, .tmp 44]) (owed := []) F18 (ring_Port_Buffer_ok a0 a1.I) (fun r977 => ?_)
            refine OW.nil ?_
            refine OJ.go 5 [(9, .int .i64 r977.2), (8, Sl.v r977.1), (47, .int .i64 r977.2), (46, Sl.v r977.1), (41, .tuple #[Sl.v r977.1, .int .i64 r977.2])] ?_
            refine OJ.nil ?_
            refine SJ.sr 3 ?_
            refine OJ.go 1 [(48, .int .i64 r977.2)] ?_
            refine OJ.call (d := 49) (g := 14) (ats := #[24]) (args := [.tmp 48]) (owed := []) F14 (weirlaw3_num_ok r977.2) (fun r978 => ?_)
            refine OW.nil ?_
            refine OJ.go 1 [(4, .int .i64 r978)] ?_
            refine OJ.nil ?_
            exact SJ.ret rfl (Res.run (ys := [.int .i64 r978]) (.tmp (by kernel_rfl) .nil) rfl)
          · refine SJ.sr 2 ?_
            refine OJ.go 2 [(50, .bool (a1.Kind == 6)), (51, .bool (a1.Kind == 6))] ?_
            refine OJ.nil ?_
            refine SJ.cond (t := (.tmp 50)) (b := (a1.Kind == 6)) beq_iff_eq (fun hc1005 => ?_) (fun hc1005 => ?_)
            · refine SJ.sr 6 ?_
              refine OJ.go 2 [(53, .pointer (some (pt b1 2))), (52, .pointer a0)] ?_
              refine OJ.kld (d := 54) (y := .tmp 53) (cd := (cI .i64)) (j := 0) (b := b1) (o := 2) a1.I (pend2 := []) Ty3 rfl (At_weirlaw3_Op_I a1) rfl ?_
              refine OJ.call (d := 55) (g := 24) (ats := #[23, 3]) (args := [.tmp 52, .tmp 54]) (owed := []) F24 (ring_Port_Release_ok a0 a1.I) (fun r992 => ?_)
              refine OW.nil ?_
              refine OJ.call (d := 56) (g := 14) (ats := #[24]) (args := [.tmp 55]) (owed := []) F14 (weirlaw3_num_ok r992) (fun r993 => ?_)
              refine OW.nil ?_
              refine OJ.go 1 [(4, .int .i64 r993)] ?_
              refine OJ.nil ?_
              exact SJ.ret rfl (Res.run (ys := [.int .i64 r993]) (.tmp (by kernel_rfl) .nil) rfl)
            · refine SJ.sr 2 ?_
              refine OJ.go 2 [(57, .bool (a1.Kind == 7)), (58, .bool (a1.Kind == 7))] ?_
              refine OJ.nil ?_
              refine SJ.cond (t := (.tmp 57)) (b := (a1.Kind == 7)) beq_iff_eq (fun hc1004 => ?_) (fun hc1004 => ?_)
              · refine SJ.sr 8 ?_
                refine OJ.go 2 [(60, .pointer (some (pt b1 2))), (59, .pointer a0)] ?_
                refine OJ.kld (d := 61) (y := .tmp 60) (cd := (cI .i64)) (j := 0) (b := b1) (o := 2) a1.I (pend2 := []) Ty3 rfl (At_weirlaw3_Op_I a1) rfl ?_
                refine OJ.go 1 [(62, .pointer (some (pt b1 3)))] ?_
                refine OJ.kld (d := 63) (y := .tmp 62) (cd := (cI .i64)) (j := 0) (b := b1) (o := 3) a1.N (pend2 := []) Ty3 rfl (At_weirlaw3_Op_N a1) rfl ?_
                refine OJ.call (d := 64) (g := 21) (ats := #[23, 3, 3]) (args := [.tmp 59, .tmp 61, .tmp 63]) (owed := []) F21 (ring_Port_Send_ok a0 a1.I a1.N) (fun r999 => ?_)
                refine OW.nil ?_
                refine OJ.call (d := 65) (g := 14) (ats := #[24]) (args := [.tmp 64]) (owed := []) F14 (weirlaw3_num_ok r999) (fun r1000 => ?_)
                refine OW.nil ?_
                refine OJ.go 1 [(4, .int .i64 r1000)] ?_
                refine OJ.nil ?_
                exact SJ.ret rfl (Res.run (ys := [.int .i64 r1000]) (.tmp (by kernel_rfl) .nil) rfl)
              · refine SJ.sr 2 ?_
                refine OJ.go 2 [(66, .bool (a1.Kind == 8)), (67, .bool (a1.Kind == 8))] ?_
                refine OJ.nil ?_
                refine SJ.cond (t := (.tmp 66)) (b := (a1.Kind == 8)) beq_iff_eq (fun hc1003 => ?_) (fun hc1003 => ?_)
                · refine SJ.rg 2 ?_
                  refine OJ.go 1 [(68, .pointer a0)] ?_
                  refine OJ.call (d := 69) (g := 22) (ats := #[23]) (args := [.tmp 68]) (owed := []) F22 (ring_Port_Drain_ok a0) (fun r1002 => ?_)
                  refine OW.nil ?_
                  refine OJ.nil ?_
                  refine SJ.inBlock ?_
                  refine SJ.sr 1 ?_
                  refine OJ.go 1 [(4, .int .i64 0)] ?_
                  refine OJ.nil ?_
                  exact SJ.ret rfl (Res.run (ys := [.int .i64 0]) (.tmp (by kernel_rfl) .nil) rfl)
                · refine SJ.skip ?_
                  refine SJ.inBlock ?_
                  refine SJ.sr 1 ?_
                  refine OJ.go 1 [(4, .int .i64 0)] ?_
                  refine OJ.nil ?_
                  exact SJ.ret rfl (Res.run (ys := [.int .i64 0]) (.tmp (by kernel_rfl) .nil) rfl)

/-! ### weir/weirlaw3.RingClean: function 5 -/
noncomputable def weirlaw3_RingClean.B : Code := (Try.f5.body).getD .skip
noncomputable def weirlaw3_RingClean.cx : Fx := ⟨Try.prog, 5, Try.f5⟩
noncomputable def weirlaw3_RingClean.out (r_ : Bool) : Value := .bool r_
noncomputable def weirlaw3_RingClean.F0 (r_ : Bool) : Reach := .ret (weirlaw3_RingClean.out r_)
noncomputable def weirlaw3_RingClean.F1 (a4 : Sl) (a5 : Int) (r1 : ((Option Addr) × Int × Int × Int × Int)) : (LS Int Bool) → Reach := loopF [.inLoop (c1 (c1 (c2 (c1 (c2 (c2 (c2 (c2 (c2 weirlaw3_RingClean.B))))))))), .inBlock 0, .code (c2 (c2 (c2 (c2 (c2 (c2 weirlaw3_RingClean.B))))))] (fun s_ : Int => [(3, .int .i64 r1.2.2.2.2), (4, Sl.v a4), (5, .int .u8 a5), (13, .pointer r1.1), (20, .int .i64 s_)]) (fun s_ : Int => []) weirlaw3_RingClean.F0
noncomputable def weirlaw3_RingClean.K1 (r1 : ((Option Addr) × Int × Int × Int × Int)) (s8 : Int) (x40 : weirlaw3_Op) (r44 : (Int × Sl × Int)) : M (LS Int Bool) :=
  (if (band .i64 x40.N 1) = 0 then
      ring_Port_Release r1.1 r44.1 >>= fun r56 =>
      weirlaw3_num r56 >>= fun r57 =>
      pure (r57 != 0)
    else
      pure false) >>= fun y58 =>
  if y58 = true then
    pure (LS.done false)
  else
    pure (LS.next (IntKind.wrap .i64 (s8 + 1)))
theorem weirlaw3_RingClean.K1_ok (a4 : Sl) (a5 : Int) (r1 : ((Option Addr) × Int × Int × Int × Int)) (s8 : Int) (x40 : weirlaw3_Op) (b41 : Nat) (r44 : (Int × Sl × Int)) :
    SJ weirlaw3_RingClean.cx [.code (c2 (c2 (c2 (c2 (c2 (c2 (c1 (c1 (c2 (c1 (c1 (c2 (c1 (c2 (c2 (c2 (c2 (c2 weirlaw3_RingClean.B)))))))))))))))))), .inBlock 1, .code (c2 (c2 (c1 (c1 (c2 (c1 (c2 (c2 (c2 (c2 (c2 weirlaw3_RingClean.B))))))))))), .inLoop (c1 (c1 (c2 (c1 (c2 (c2 (c2 (c2 (c2 weirlaw3_RingClean.B))))))))), .inBlock 0, .code (c2 (c2 (c2 (c2 (c2 (c2 weirlaw3_RingClean.B))))))] [(3, .int .i64 r1.2.2.2.2), (4, Sl.v a4), (5, .int .u8 a5), (13, .pointer r1.1), (20, .int .i64 s8), (21, .pointer (some (pt b41 0))), (17, .int .i64 r44.1)] [(b41, c_weirlaw3_Op.enc x40)] (weirlaw3_RingClean.K1 r1 s8 x40 r44) (weirlaw3_RingClean.F1 a4 a5 r1) := by
  unfold weirlaw3_RingClean.K1
  refine SJ.sr 11 ?_
  refine OJ.go 1 [(105, .pointer (some (pt b41 3)))] ?_
  refine OJ.kld (d := 106) (y := .tmp 105) (cd := (cI .i64)) (j := 0) (b := b41) (o := 3) x40.N (pend2 := []) Ty3 rfl (At_weirlaw3_Op_N x40) rfl ?_
  refine OJ.go 3 [(109, .bool ((band .i64 x40.N 1) == 0)), (108, .bool ((band .i64 x40.N 1) == 0)), (107, .int .i64 (band .i64 x40.N 1))] ?_
  refine OJ.join (b := ((band .i64 x40.N 1) == 0)) [5, 6, 7, 8, 9, 10] [] [3, 4, 5, 13, 20, 115] (fun y58 => [(3, .int .i64 r1.2.2.2.2), (4, Sl.v a4), (5, .int .u8 a5), (13, .pointer r1.1), (20, .int .i64 s8), (115, .bool y58)]) [] [] (t := 109) beq_iff_eq (fun hp_ => ?_) (fun hp_ => ?_) (fun _ _ _ _ _ _ h_ => h_) (fun y58 => ?_)
  · refine OJ.go 2 [(111, .int .i64 r44.1), (110, .pointer r1.1)] ?_
    refine OJ.call (d := 112) (g := 24) (ats := #[23, 3]) (args := [.tmp 110, .tmp 111]) (owed := []) F24 (ring_Port_Release_ok r1.1 r44.1) (fun r56 => ?_)
    refine OW.nil ?_
    refine OJ.call (d := 113) (g := 14) (ats := #[24]) (args := [.tmp 112]) (owed := []) F14 (weirlaw3_num_ok r56) (fun r57 => ?_)
    refine OW.nil ?_
    refine OJ.go 2 [(115, .bool (r57 != 0)), (114, .bool (r57 != 0))] ?_
    exact OJ.nil ⟨(Cov.mem Cov.nil), rfl, _, rfl, by kernel_rfl⟩
  · refine OJ.go 6 [(115, .bool false), (114, undef), (113, undef), (112, undef), (111, undef), (110, undef)] ?_
    exact OJ.nil ⟨(Cov.mem Cov.nil), rfl, _, rfl, by kernel_rfl⟩
  · refine OJ.nil ?_
    refine SJ.cond (t := (.tmp 115)) (b := y58) Iff.rfl (fun hc59 => ?_) (fun hc59 => ?_)
    · refine SJ.sr 1 ?_
      refine OJ.go 1 [(12, .bool false)] ?_
      refine OJ.nil ?_
      exact SJ.ret rfl (Res.run (ys := [.bool false]) (.tmp (by kernel_rfl) .nil) rfl)
    · refine SJ.skip ?_
      refine SJ.inBlock ?_
      refine SJ.rg 3 ?_
      refine OJ.go 3 [(20, .int .i64 (IntKind.wrap .i64 (s8 + 1))), (63, .int .i64 (IntKind.wrap .i64 (s8 + 1))), (62, .int .i64 s8)] ?_
      refine OJ.nil ?_
      refine SJ.forget (List.Sublist.cons _ List.Sublist.slnil) ?_
      exact SJ.at_ [3, 4, 5, 13, 20] rfl
noncomputable def weirlaw3_RingClean.F2 (a4 : Sl) (a5 : Int) (r1 : ((Option Addr) × Int × Int × Int × Int)) (s8 : Int) (x40 : weirlaw3_Op) (b41 : Nat) (r44 : (Int × Sl × Int)) : (LS Int (LS Int Bool)) → Reach := loopF [.inLoop (c1 (c1 (c2 (c1 (c2 (c2 (c2 (c2 (c2 (c1 (c1 (c2 (c1 (c1 (c2 (c1 (c2 (c2 (c2 (c2 (c2 weirlaw3_RingClean.B))))))))))))))))))))), .inBlock 2, .code (c2 (c2 (c2 (c2 (c2 (c2 (c1 (c1 (c2 (c1 (c1 (c2 (c1 (c2 (c2 (c2 (c2 (c2 weirlaw3_RingClean.B)))))))))))))))))), .inBlock 1, .code (c2 (c2 (c1 (c1 (c2 (c1 (c2 (c2 (c2 (c2 (c2 weirlaw3_RingClean.B))))))))))), .inLoop (c1 (c1 (c2 (c1 (c2 (c2 (c2 (c2 (c2 weirlaw3_RingClean.B))))))))), .inBlock 0, .code (c2 (c2 (c2 (c2 (c2 (c2 weirlaw3_RingClean.B))))))] (fun s_ : Int => [(3, .int .i64 r1.2.2.2.2), (4, Sl.v a4), (5, .int .u8 a5), (13, .pointer r1.1), (20, .int .i64 s8), (21, .pointer (some (pt b41 0))), (17, .int .i64 r44.1), (18, Sl.v r44.2.1), (22, .int .i64 s_)]) (fun s_ : Int => [(b41, c_weirlaw3_Op.enc x40)]) (weirlaw3_RingClean.F1 a4 a5 r1)
noncomputable def weirlaw3_RingClean.L2 (a5 : Int) (r1 : ((Option Addr) × Int × Int × Int × Int)) (s8 : Int) (x40 : weirlaw3_Op) (r44 : (Int × Sl × Int)) (s50 : Int) : M (LS Int (LS Int Bool)) :=
  if s50 < r1.2.2.2.2 then
    idx r44.2.1.a r44.2.1.len s50 1 >>= fun p60 =>
    ld (cI .u8) p60 >>= fun x61 =>
    if x61 ≠ 0 then
      pure (LS.done (LS.done false))
    else
      idx r44.2.1.a r44.2.1.len s50 1 >>= fun p62 =>
      st (cI .u8) p62 a5 >>= fun _ =>
      pure (LS.next (IntKind.wrap .i64 (s50 + 1)))
  else
    (weirlaw3_RingClean.K1 r1 s8 x40 r44) >>= fun b => pure (LS.done b)
theorem weirlaw3_RingClean.L2_ok (a4 : Sl) (a5 : Int) (r1 : ((Option Addr) × Int × Int × Int × Int)) (s8 : Int) (x40 : weirlaw3_Op) (b41 : Nat) (r44 : (Int × Sl × Int)) (s50 : Int) :
    SJ weirlaw3_RingClean.cx [.code (c1 (c1 (c2 (c1 (c2 (c2 (c2 (c2 (c2 (c1 (c1 (c2 (c1 (c1 (c2 (c1 (c2 (c2 (c2 (c2 (c2 weirlaw3_RingClean.B))))))))))))))))))))), .inLoop (c1 (c1 (c2 (c1 (c2 (c2 (c2 (c2 (c2 (c1 (c1 (c2 (c1 (c1 (c2 (c1 (c2 (c2 (c2 (c2 (c2 weirlaw3_RingClean.B))))))))))))))))))))), .inBlock 2, .code (c2 (c2 (c2 (c2 (c2 (c2 (c1 (c1 (c2 (c1 (c1 (c2 (c1 (c2 (c2 (c2 (c2 (c2 weirlaw3_RingClean.B)))))))))))))))))), .inBlock 1, .code (c2 (c2 (c1 (c1 (c2 (c1 (c2 (c2 (c2 (c2 (c2 weirlaw3_RingClean.B))))))))))), .inLoop (c1 (c1 (c2 (c1 (c2 (c2 (c2 (c2 (c2 weirlaw3_RingClean.B))))))))), .inBlock 0, .code (c2 (c2 (c2 (c2 (c2 (c2 weirlaw3_RingClean.B))))))] [(3, .int .i64 r1.2.2.2.2), (4, Sl.v a4), (5, .int .u8 a5), (13, .pointer r1.1), (20, .int .i64 s8), (21, .pointer (some (pt b41 0))), (17, .int .i64 r44.1), (18, Sl.v r44.2.1), (22, .int .i64 s50)] [(b41, c_weirlaw3_Op.enc x40)] (weirlaw3_RingClean.L2 a5 r1 s8 x40 r44 s50) (weirlaw3_RingClean.F2 a4 a5 r1 s8 x40 b41 r44) := by
  unfold weirlaw3_RingClean.L2
  refine SJ.seq ?_
  refine SJ.sr 3 ?_
  refine OJ.go 3 [(93, .bool (decide (s50 < r1.2.2.2.2))), (92, .int .i64 r1.2.2.2.2), (91, .int .i64 s50)] ?_
  refine OJ.nil ?_
  refine SJ.cond (t := (.tmp 93)) (b := decide (s50 < r1.2.2.2.2)) decide_eq_true_iff (fun hc64 => ?_) (fun hc64 => ?_)
  · refine SJ.skip ?_
    refine SJ.seq ?_
    refine SJ.block (id := 3) ?_
    refine SJ.seq ?_
    refine SJ.sr 5 ?_
    refine OJ.go 2 [(97, .int .i64 s50), (96, Sl.v r44.2.1)] ?_
    refine OJ.idxS (d := 98) (T := 22) (y := .tmp 96) (j := .tmp 97) (E := 5) (cap := r44.2.1.cap) (k := .i64) (fun p60 => ?_)
    refine OJ.ld (d := 99) (y := .tmp 98) (pend2 := fun x61 => []) Ty5 (fun _ => rfl) (fun x61 => ?_)
    refine OJ.go 1 [(100, .bool (x61 != 0))] ?_
    refine OJ.nil ?_
    refine SJ.cond (t := (.tmp 100)) (b := (x61 != 0)) bne_iff_ne (fun hc63 => ?_) (fun hc63 => ?_)
    · refine SJ.sr 1 ?_
      refine OJ.go 1 [(12, .bool false)] ?_
      refine OJ.nil ?_
      exact SJ.ret rfl (Res.run (ys := [.bool false]) (.tmp (by kernel_rfl) .nil) rfl)
    · refine SJ.skip ?_
      refine SJ.rg 5 ?_
      refine OJ.go 3 [(103, .int .u8 a5), (102, .int .i64 s50), (101, Sl.v r44.2.1)] ?_
      refine OJ.idxS (d := 104) (T := 22) (y := .tmp 101) (j := .tmp 102) (E := 5) (cap := r44.2.1.cap) (k := .i64) (fun p62 => ?_)
      refine OJ.st (y := .tmp 104) (z := .tmp 103) (owed := []) Ty5 ?_
      refine OW.nil ?_
      refine OJ.nil ?_
      refine SJ.inBlock ?_
      refine SJ.rg 3 ?_
      refine OJ.go 3 [(22, .int .i64 (IntKind.wrap .i64 (s50 + 1))), (95, .int .i64 (IntKind.wrap .i64 (s50 + 1))), (94, .int .i64 s50)] ?_
      refine OJ.nil ?_
      exact SJ.at_ [3, 4, 5, 13, 20, 21, 17, 18, 22] rfl
  · refine SJ.exit (id := 2) (by rfl) ?_
    refine SJ.less [3, 4, 5, 13, 20, 21, 17] (m' := [(3, .int .i64 r1.2.2.2.2), (4, Sl.v a4), (5, .int .u8 a5), (13, .pointer r1.1), (20, .int .i64 s8), (21, .pointer (some (pt b41 0))), (17, .int .i64 r44.1)]) ?_
    refine SJ.done ?_
    exact weirlaw3_RingClean.K1_ok a4 a5 r1 s8 x40 b41 r44
noncomputable def weirlaw3_RingClean.L1 (a4 : Sl) (a5 : Int) (r1 : ((Option Addr) × Int × Int × Int × Int)) (s8 : Int) : M (LS Int Bool) :=
  if s8 < (a4.len : Int) then
    idx a4.a a4.len s8 5 >>= fun p39 =>
    ld c_weirlaw3_Op p39 >>= fun x40 =>
    slot 45 >>= fun b41 =>
    if x40.Kind ≠ 4 then
      weirlaw3_do r1.1 x40 >>= fun r43 =>
      pure (LS.next (IntKind.wrap .i64 (s8 + 1)))
    else
      ring_Port_Take r1.1 >>= fun r44 =>
      weirlaw3_num r44.2.2 >>= fun r45 =>
      if r45 ≠ 0 then
        ring_Port_Stat r1.1 >>= fun r48 =>
        if r48.Free ≠ 0 then
          pure (LS.done false)
        else
          pure (LS.next (IntKind.wrap .i64 (s8 + 1)))
      else
        if (r44.2.1.len : Int) ≠ r1.2.2.2.2 then
          pure (LS.done false)
        else
          loopM (fun s_ : Int => weirlaw3_RingClean.L2 a5 r1 s8 x40 r44 s_) 0
  else
    pure (LS.done true)
theorem weirlaw3_RingClean.L1_ok (a4 : Sl) (a5 : Int) (r1 : ((Option Addr) × Int × Int × Int × Int)) (s8 : Int) :
    SJ weirlaw3_RingClean.cx [.code (c1 (c1 (c2 (c1 (c2 (c2 (c2 (c2 (c2 weirlaw3_RingClean.B))))))))), .inLoop (c1 (c1 (c2 (c1 (c2 (c2 (c2 (c2 (c2 weirlaw3_RingClean.B))))))))), .inBlock 0, .code (c2 (c2 (c2 (c2 (c2 (c2 weirlaw3_RingClean.B))))))] [(3, .int .i64 r1.2.2.2.2), (4, Sl.v a4), (5, .int .u8 a5), (13, .pointer r1.1), (20, .int .i64 s8)] [] (weirlaw3_RingClean.L1 a4 a5 r1 s8) (weirlaw3_RingClean.F1 a4 a5 r1) := by
  unfold weirlaw3_RingClean.L1
  refine SJ.seq ?_
  refine SJ.sr 4 ?_
  refine OJ.go 4 [(61, .bool (decide (s8 < (a4.len : Int)))), (60, .int .i64 (a4.len : Int)), (59, Sl.v a4), (58, .int .i64 s8)] ?_
  refine OJ.nil ?_
  refine SJ.cond (t := (.tmp 61)) (b := decide (s8 < (a4.len : Int))) decide_eq_true_iff (fun hc68 => ?_) (fun hc68 => ?_)
  · refine SJ.skip ?_
    refine SJ.seq ?_
    refine SJ.block (id := 1) ?_
    refine SJ.sr 6 ?_
    refine OJ.go 2 [(65, .int .i64 s8), (64, Sl.v a4)] ?_
    refine OJ.idxS (d := 66) (T := 40) (y := .tmp 64) (j := .tmp 65) (E := 45) (cap := a4.cap) (k := .i64) (fun p39 => ?_)
    refine OJ.ld (d := 67) (y := .tmp 66) (pend2 := fun x40 => []) Ty45 (fun _ => rfl) (fun x40 => ?_)
    refine OJ.slotOf (d := 21) (op := (.alloc 45)) (cd := c_weirlaw3_Op) (u := z_weirlaw3_Op) (owed := []) (alloc_run Ty45) (fun b41 => ?_)
    refine OW.nil ?_
    refine OJ.kst (y := .tmp 21) (z := .tmp 67) (cd := c_weirlaw3_Op) (u := x40) (j := 0) (b := b41) (o := 0) (c_weirlaw3_Op.enc x40) (owed := []) Ty45 rfl (Upd.whole ((Cod.len _ _).trans (Cod.len _ _).symm)) rfl ?_
    refine OW.nil ?_
    refine OJ.nil ?_
    refine SJ.seq ?_
    refine SJ.sr 3 ?_
    refine OJ.go 1 [(68, .pointer (some (pt b41 0)))] ?_
    refine OJ.kld (d := 69) (y := .tmp 68) (cd := (cI .i64)) (j := 0) (b := b41) (o := 0) x40.Kind (pend2 := []) Ty3 rfl (At_weirlaw3_Op_Kind x40) rfl ?_
    refine OJ.go 1 [(70, .bool (x40.Kind != 4))] ?_
    refine OJ.nil ?_
    refine SJ.cond (t := (.tmp 70)) (b := (x40.Kind != 4)) bne_iff_ne (fun hc67 => ?_) (fun hc67 => ?_)
    · refine SJ.sr 3 ?_
      refine OJ.go 1 [(71, .pointer r1.1)] ?_
      refine OJ.kld (d := 72) (y := .tmp 21) (cd := c_weirlaw3_Op) (j := 0) (b := b41) (o := 0) x40 (pend2 := []) Ty45 rfl (At.whole _) rfl ?_
      refine OJ.call (d := 73) (g := 26) (ats := #[23, 45]) (args := [.tmp 71, .tmp 72]) (owed := []) F26 (weirlaw3_do_ok r1.1 x40) (fun r43 => ?_)
      refine OW.nil ?_
      refine OJ.nil ?_
      refine SJ.exit (id := 1) (by rfl) ?_
      refine SJ.rg 3 ?_
      refine OJ.go 3 [(20, .int .i64 (IntKind.wrap .i64 (s8 + 1))), (63, .int .i64 (IntKind.wrap .i64 (s8 + 1))), (62, .int .i64 s8)] ?_
      refine OJ.nil ?_
      refine SJ.forget (List.Sublist.cons _ List.Sublist.slnil) ?_
      exact SJ.at_ [3, 4, 5, 13, 20] rfl
    · refine SJ.skip ?_
      refine SJ.sr 9 ?_
      refine OJ.go 1 [(75, .pointer r1.1)] ?_
      refine OJ.call (d := 76) (g := 25) (ats := #[23]) (args := [.tmp 75]) (owed := []) F25 (ring_Port_Take_ok r1.1) (fun r44 => ?_)
      refine OW.nil ?_
      refine OJ.go 7 [(19, .int .i64 r44.2.2), (18, Sl.v r44.2.1), (17, .int .i64 r44.1), (79, .int .i64 r44.2.2), (78, Sl.v r44.2.1), (77, .int .i64 r44.1), (74, .tuple #[.int .i64 r44.1, Sl.v r44.2.1, .int .i64 r44.2.2])] ?_
      refine OJ.nil ?_
      refine SJ.seq ?_
      refine SJ.sr 3 ?_
      refine OJ.go 1 [(80, .int .i64 r44.2.2)] ?_
      refine OJ.call (d := 81) (g := 14) (ats := #[24]) (args := [.tmp 80]) (owed := []) F14 (weirlaw3_num_ok r44.2.2) (fun r45 => ?_)
      refine OW.nil ?_
      refine OJ.go 1 [(82, .bool (r45 != 0))] ?_
      refine OJ.nil ?_
      refine SJ.cond (t := (.tmp 82)) (b := (r45 != 0)) bne_iff_ne (fun hc66 => ?_) (fun hc66 => ?_)
      · refine SJ.seq ?_
        refine SJ.sr 4 ?_
        refine OJ.go 1 [(83, .pointer r1.1)] ?_
        refine OJ.call (d := 84) (g := 27) (ats := #[23]) (args := [.tmp 83]) (owed := []) F27 (ring_Port_Stat_ok r1.1) (fun r48 => ?_)
        refine OW.nil ?_
        refine OJ.field (d := 85) (S := 52) (f := 0) (T := 3) (y := .tmp 84) (o := 0) (l := c_api_RingStat.enc r48) (cd := (cI .i64)) r48.Free Ty3 (At_api_RingStat_Free r48) ?_
        refine OJ.go 1 [(86, .bool (r48.Free != 0))] ?_
        refine OJ.nil ?_
        refine SJ.cond (t := (.tmp 86)) (b := (r48.Free != 0)) bne_iff_ne (fun hc49 => ?_) (fun hc49 => ?_)
        · refine SJ.sr 1 ?_
          refine OJ.go 1 [(12, .bool false)] ?_
          refine OJ.nil ?_
          exact SJ.ret rfl (Res.run (ys := [.bool false]) (.tmp (by kernel_rfl) .nil) rfl)
        · refine SJ.skip ?_
          refine SJ.exit (id := 1) (by rfl) ?_
          refine SJ.rg 3 ?_
          refine OJ.go 3 [(20, .int .i64 (IntKind.wrap .i64 (s8 + 1))), (63, .int .i64 (IntKind.wrap .i64 (s8 + 1))), (62, .int .i64 s8)] ?_
          refine OJ.nil ?_
          refine SJ.forget (List.Sublist.cons _ List.Sublist.slnil) ?_
          exact SJ.at_ [3, 4, 5, 13, 20] rfl
      · refine SJ.skip ?_
        refine SJ.seq ?_
        refine SJ.sr 4 ?_
        refine OJ.go 4 [(90, .bool ((r44.2.1.len : Int) != r1.2.2.2.2)), (89, .int .i64 r1.2.2.2.2), (88, .int .i64 (r44.2.1.len : Int)), (87, Sl.v r44.2.1)] ?_
        refine OJ.nil ?_
        refine SJ.cond (t := (.tmp 90)) (b := ((r44.2.1.len : Int) != r1.2.2.2.2)) bne_iff_ne (fun hc65 => ?_) (fun hc65 => ?_)
        · refine SJ.sr 1 ?_
          refine OJ.go 1 [(12, .bool false)] ?_
          refine OJ.nil ?_
          exact SJ.ret rfl (Res.run (ys := [.bool false]) (.tmp (by kernel_rfl) .nil) rfl)
        · refine SJ.skip ?_
          refine SJ.seq ?_
          refine SJ.sr 1 ?_
          refine OJ.go 1 [(22, .int .i64 0)] ?_
          refine OJ.nil ?_
          refine SJ.block (id := 2) ?_
          exact SJ.loop (fun s_ : Int => [(3, .int .i64 r1.2.2.2.2), (4, Sl.v a4), (5, .int .u8 a5), (13, .pointer r1.1), (20, .int .i64 s8), (21, .pointer (some (pt b41 0))), (17, .int .i64 r44.1), (18, Sl.v r44.2.1), (22, .int .i64 s_)]) (fun s_ : Int => [(b41, c_weirlaw3_Op.enc x40)]) [3, 4, 5, 13, 20, 21, 17, 18, 22] rfl (fun _ _ => rfl) (fun s_ => weirlaw3_RingClean.L2_ok a4 a5 r1 s8 x40 b41 r44 s_)
  · refine SJ.exit (id := 0) (by rfl) ?_
    refine SJ.sr 1 ?_
    refine OJ.go 1 [(12, .bool true)] ?_
    refine OJ.nil ?_
    exact SJ.ret rfl (Res.run (ys := [.bool true]) (.tmp (by kernel_rfl) .nil) rfl)
noncomputable def weirlaw3_RingClean (a0 : Int) (a1 : Int) (a2 : Int) (a3 : Int) (a4 : Sl) (a5 : Int) : M Bool :=
  weirlaw3_port a0 a1 a2 a3 >>= fun r1 =>
  if r1.1 = none then
    pure false
  else
    ring_Port_Take r1.1 >>= fun r2 =>
    weirlaw3_num r2.2.2 >>= fun r3 =>
    (if r3 ≠ 0 then
        pure true
      else
        pure ((r2.2.1.len : Int) != r1.2.2.2.2)) >>= fun y4 =>
    (if y4 = true then
        pure true
      else
        ring_Port_Release r1.1 r2.1 >>= fun r5 =>
        weirlaw3_num r5 >>= fun r6 =>
        pure (r6 != 0)) >>= fun y7 =>
    if y7 = true then
      pure false
    else
      loopM (fun s_ : Int => weirlaw3_RingClean.L1 a4 a5 r1 s_) 0
theorem weirlaw3_RingClean_ok (a0 : Int) (a1 : Int) (a2 : Int) (a3 : Int) (a4 : Sl) (a5 : Int) : Ref Try.prog 5 [.int .i64 a0, .int .i64 a1, .int .i64 a2, .int .i64 a3, Sl.v a4, .int .u8 a5] (weirlaw3_RingClean a0 a1 a2 a3 a4 a5) weirlaw3_RingClean.out := by
  refine Ref.of (cd := weirlaw3_RingClean.B) Try.func5 ?_
  show SJ weirlaw3_RingClean.cx [.code weirlaw3_RingClean.B] [(0, .int .i64 a0), (1, .int .i64 a1), (2, .int .i64 a2), (3, .int .i64 a3), (4, Sl.v a4), (5, .int .u8 a5)] [] (weirlaw3_RingClean a0 a1 a2 a3 a4 a5) weirlaw3_RingClean.F0
  unfold weirlaw3_RingClean
  refine SJ.sr 1 ?_
  refine OJ.go 1 [(12, .bool false)] ?_
  refine OJ.nil ?_
  refine SJ.sr 16 ?_
  refine OJ.go 4 [(27, .int .i64 a3), (26, .int .i64 a2), (25, .int .i64 a1), (24, .int .i64 a0)] ?_
  refine OJ.call (d := 28) (g := 23) (ats := #[3, 3, 3, 3]) (args := [.tmp 24, .tmp 25, .tmp 26, .tmp 27]) (owed := []) F23 (weirlaw3_port_ok a0 a1 a2 a3) (fun r1 => ?_)
  refine OW.nil ?_
  refine OJ.go 11 [(3, .int .i64 r1.2.2.2.2), (16, .int .i64 r1.2.2.2.1), (15, .int .i64 r1.2.2.1), (14, .int .i64 r1.2.1), (13, .pointer r1.1), (33, .int .i64 r1.2.2.2.2), (32, .int .i64 r1.2.2.2.1), (31, .int .i64 r1.2.2.1), (30, .int .i64 r1.2.1), (29, .pointer r1.1), (23, .tuple #[.pointer r1.1, .int .i64 r1.2.1, .int .i64 r1.2.2.1, .int .i64 r1.2.2.2.1, .int .i64 r1.2.2.2.2])] ?_
  refine OJ.nil ?_
  refine SJ.seq ?_
  refine SJ.sr 2 ?_
  refine OJ.go 2 [(35, .bool (Option.isNone r1.1)), (34, .pointer r1.1)] ?_
  refine OJ.nil ?_
  refine SJ.cond (t := (.tmp 35)) (b := (Option.isNone r1.1)) Option.isNone_iff_eq_none (fun hc70 => ?_) (fun hc70 => ?_)
  · refine SJ.sr 1 ?_
    refine OJ.go 1 [(12, .bool false)] ?_
    refine OJ.nil ?_
    exact SJ.ret rfl (Res.run (ys := [.bool false]) (.tmp (by kernel_rfl) .nil) rfl)
  · refine SJ.skip ?_
    refine SJ.sr 9 ?_
    refine OJ.go 1 [(37, .pointer r1.1)] ?_
    refine OJ.call (d := 38) (g := 25) (ats := #[23]) (args := [.tmp 37]) (owed := []) F25 (ring_Port_Take_ok r1.1) (fun r2 => ?_)
    refine OW.nil ?_
    refine OJ.go 7 [(19, .int .i64 r2.2.2), (18, Sl.v r2.2.1), (17, .int .i64 r2.1), (41, .int .i64 r2.2.2), (40, Sl.v r2.2.1), (39, .int .i64 r2.1), (36, .tuple #[.int .i64 r2.1, Sl.v r2.2.1, .int .i64 r2.2.2])] ?_
    refine OJ.nil ?_
    refine SJ.seq ?_
    refine SJ.sr 16 ?_
    refine OJ.go 1 [(42, .int .i64 r2.2.2)] ?_
    refine OJ.call (d := 43) (g := 14) (ats := #[24]) (args := [.tmp 42]) (owed := []) F14 (weirlaw3_num_ok r2.2.2) (fun r3 => ?_)
    refine OW.nil ?_
    refine OJ.go 2 [(45, .bool (r3 != 0)), (44, .bool (r3 != 0))] ?_
    refine OJ.join (b := (r3 != 0)) [4, 5, 6, 7, 8] [9, 10, 11, 12, 13, 14, 15] [3, 4, 5, 13, 17, 50] (fun y4 => [(3, .int .i64 r1.2.2.2.2), (4, Sl.v a4), (5, .int .u8 a5), (13, .pointer r1.1), (17, .int .i64 r2.1), (50, .bool y4)]) [] [] (t := 45) bne_iff_ne (fun hp_ => ?_) (fun hp_ => ?_) (fun _ _ _ _ _ _ h_ => h_) (fun y4 => ?_)
    · refine OJ.go 5 [(50, .bool true), (49, undef), (48, undef), (47, undef), (46, undef)] ?_
      exact OJ.nil ⟨(Cov.mem Cov.nil), rfl, _, rfl, by kernel_rfl⟩
    · refine OJ.go 5 [(50, .bool ((r2.2.1.len : Int) != r1.2.2.2.2)), (49, .bool ((r2.2.1.len : Int) != r1.2.2.2.2)), (48, .int .i64 r1.2.2.2.2), (47, .int .i64 (r2.2.1.len : Int)), (46, Sl.v r2.2.1)] ?_
      exact OJ.nil ⟨(Cov.mem Cov.nil), rfl, _, rfl, by kernel_rfl⟩
    · refine OJ.go 1 [(51, .bool y4)] ?_
      refine OJ.join (b := y4) [10, 11, 12, 13, 14, 15] [] [3, 4, 5, 13, 57] (fun y7 => [(3, .int .i64 r1.2.2.2.2), (4, Sl.v a4), (5, .int .u8 a5), (13, .pointer r1.1), (57, .bool y7)]) [] [] (t := 51) Iff.rfl (fun hp_ => ?_) (fun hp_ => ?_) (fun _ _ _ _ _ _ h_ => h_) (fun y7 => ?_)
      · refine OJ.go 6 [(57, .bool true), (56, undef), (55, undef), (54, undef), (53, undef), (52, undef)] ?_
        exact OJ.nil ⟨(Cov.mem Cov.nil), rfl, _, rfl, by kernel_rfl⟩
      · refine OJ.go 2 [(53, .int .i64 r2.1), (52, .pointer r1.1)] ?_
        refine OJ.call (d := 54) (g := 24) (ats := #[23, 3]) (args := [.tmp 52, .tmp 53]) (owed := []) F24 (ring_Port_Release_ok r1.1 r2.1) (fun r5 => ?_)
        refine OW.nil ?_
        refine OJ.call (d := 55) (g := 14) (ats := #[24]) (args := [.tmp 54]) (owed := []) F14 (weirlaw3_num_ok r5) (fun r6 => ?_)
        refine OW.nil ?_
        refine OJ.go 2 [(57, .bool (r6 != 0)), (56, .bool (r6 != 0))] ?_
        exact OJ.nil ⟨(Cov.mem Cov.nil), rfl, _, rfl, by kernel_rfl⟩
      · refine OJ.nil ?_
        refine SJ.cond (t := (.tmp 57)) (b := y7) Iff.rfl (fun hc69 => ?_) (fun hc69 => ?_)
        · refine SJ.sr 1 ?_
          refine OJ.go 1 [(12, .bool false)] ?_
          refine OJ.nil ?_
          exact SJ.ret rfl (Res.run (ys := [.bool false]) (.tmp (by kernel_rfl) .nil) rfl)
        · refine SJ.skip ?_
          refine SJ.seq ?_
          refine SJ.sr 1 ?_
          refine OJ.go 1 [(20, .int .i64 0)] ?_
          refine OJ.nil ?_
          refine SJ.block (id := 0) ?_
          exact SJ.loop (fun s_ : Int => [(3, .int .i64 r1.2.2.2.2), (4, Sl.v a4), (5, .int .u8 a5), (13, .pointer r1.1), (20, .int .i64 s_)]) (fun s_ : Int => []) [3, 4, 5, 13, 20] rfl (fun _ _ => rfl) (fun s_ => weirlaw3_RingClean.L1_ok a4 a5 r1 s_)
end Go.Proofs.Ytoddkagehbcfjaa.Lx
