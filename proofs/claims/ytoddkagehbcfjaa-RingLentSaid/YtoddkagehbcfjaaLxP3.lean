/- Programs of the M-world for Go functions, each with the proof that the Go text does what it says. Printed by lxgen.py. -/
import Derived.Test.YtoddkagehbcfjaaLxT
import Derived.Test.YtoddkagehbcfjaaLxP0
import Derived.Test.YtoddkagehbcfjaaLxP1
import Derived.Test.YtoddkagehbcfjaaLxP2
set_option linter.unusedVariables false
set_option linter.unusedSimpArgs false
namespace Go.Proofs.Ytoddkagehbcfjaa.Lx
open Go Go.Proofs
/-! ### weir/weirlaw3.started: function 29 -/
noncomputable def weirlaw3_started.B : Code := (Try.f29.body).getD .skip
noncomputable def weirlaw3_started.cx : Fx := ⟨Try.prog, 29, Try.f29⟩
noncomputable def weirlaw3_started.out (r_ : Bool) : Value := .bool r_
noncomputable def weirlaw3_started.F0 (r_ : Bool) : Reach := .ret (weirlaw3_started.out r_)
noncomputable def weirlaw3_started.K1 (s8 : Bool) (s10 : weirlaw3_Side) : M Bool :=
  (if s8 = true then
      pure ((s10.W.len : Int) == 1)
    else
      pure false) >>= fun y16 =>
  pure y16
theorem weirlaw3_started.K1_ok (b2 : Nat) (s8 : Bool) (s10 : weirlaw3_Side) :
    SJ weirlaw3_started.cx [.code (c2 (c2 (c2 (c2 weirlaw3_started.B))))] [(1, .pointer (some (pt b2 0))), (2, .bool s8)] [(b2, c_weirlaw3_Side.enc s10)] (weirlaw3_started.K1 s8 s10) weirlaw3_started.F0 := by
  unfold weirlaw3_started.K1
  refine SJ.sr 8 ?_
  refine OJ.go 2 [(38, .bool s8), (37, .bool s8)] ?_
  refine OJ.join (b := s8) [2, 3, 4, 5, 6] [7] [43] (fun y16 => [(43, .bool y16)]) [] [] (t := 38) Iff.rfl (fun hp_ => ?_) (fun hp_ => ?_) (fun _ _ _ _ _ _ h_ => h_) (fun y16 => ?_)
  · refine OJ.go 1 [(39, .pointer (some (pt b2 6)))] ?_
    refine OJ.kld (d := 40) (y := .tmp 39) (cd := cL) (j := 0) (b := b2) (o := 6) s10.W (pend2 := []) Ty60 rfl (At_weirlaw3_Side_W s10) rfl ?_
    refine OJ.go 3 [(43, .bool ((s10.W.len : Int) == 1)), (42, .bool ((s10.W.len : Int) == 1)), (41, .int .i64 (s10.W.len : Int))] ?_
    exact OJ.nil ⟨(Cov.mem Cov.nil), rfl, _, rfl, by kernel_rfl⟩
  · refine OJ.go 5 [(43, .bool false), (42, undef), (41, undef), (40, undef), (39, undef)] ?_
    exact OJ.nil ⟨(Cov.mem Cov.nil), rfl, _, rfl, by kernel_rfl⟩
  · refine OJ.go 1 [(0, .bool y16)] ?_
    refine OJ.nil ?_
    exact SJ.ret rfl (Res.run (ys := [.bool y16]) (.tmp (by kernel_rfl) .nil) rfl)
noncomputable def weirlaw3_started.F1 (b2 : Nat) (r4 : Sl) (r6 : Sl) (b7 : Nat) : (LS (Bool × Int × weirlaw3_Side) Bool) → Reach := loopF [.inLoop (c1 (c1 (c2 (c1 (c2 (c2 (c2 weirlaw3_started.B))))))), .inBlock 0, .code (c2 (c2 (c2 (c2 weirlaw3_started.B))))] (fun s_ : (Bool × Int × weirlaw3_Side) => [(1, .pointer (some (pt b2 0))), (2, .bool s_.1), (3, .pointer (some (pt b7 0))), (4, .int .i64 s_.2.1)]) (fun s_ : (Bool × Int × weirlaw3_Side) => [(b7, (c_weirlaw3_Op.arr 8).enc (⟨[(⟨1, z_weirlaw3_Op.Two, z_weirlaw3_Op.I, 1, z_weirlaw3_Op.B⟩ : weirlaw3_Op), (⟨2, z_weirlaw3_Op.Two, z_weirlaw3_Op.I, z_weirlaw3_Op.N, r4⟩ : weirlaw3_Op), (⟨3, z_weirlaw3_Op.Two, z_weirlaw3_Op.I, z_weirlaw3_Op.N, z_weirlaw3_Op.B⟩ : weirlaw3_Op), (⟨10, z_weirlaw3_Op.Two, z_weirlaw3_Op.I, z_weirlaw3_Op.N, r6⟩ : weirlaw3_Op), (⟨7, z_weirlaw3_Op.Two, z_weirlaw3_Op.I, 3, z_weirlaw3_Op.B⟩ : weirlaw3_Op), (⟨11, z_weirlaw3_Op.Two, z_weirlaw3_Op.I, z_weirlaw3_Op.N, z_weirlaw3_Op.B⟩ : weirlaw3_Op), (⟨9, z_weirlaw3_Op.Two, z_weirlaw3_Op.I, z_weirlaw3_Op.N, z_weirlaw3_Op.B⟩ : weirlaw3_Op), (⟨8, z_weirlaw3_Op.Two, z_weirlaw3_Op.I, z_weirlaw3_Op.N, z_weirlaw3_Op.B⟩ : weirlaw3_Op)], rfl⟩ : (Vec weirlaw3_Op 8))), (b2, c_weirlaw3_Side.enc s_.2.2)]) weirlaw3_started.F0
noncomputable def weirlaw3_started.L1 (r4 : Sl) (r6 : Sl) (s8 : Bool) (s9 : Int) (s10 : weirlaw3_Side) : M (LS (Bool × Int × weirlaw3_Side) Bool) :=
  (if s9 < 8 then
      pure s8
    else
      pure false) >>= fun y17 =>
  if y17 = true then
    draw >>= fun _ =>
    chk (0 ≤ s9 ∧ s9 < (8 : Nat)) >>= fun _ =>
    weirlaw3_step s10 (Vec.g (⟨[(⟨1, z_weirlaw3_Op.Two, z_weirlaw3_Op.I, 1, z_weirlaw3_Op.B⟩ : weirlaw3_Op), (⟨2, z_weirlaw3_Op.Two, z_weirlaw3_Op.I, z_weirlaw3_Op.N, r4⟩ : weirlaw3_Op), (⟨3, z_weirlaw3_Op.Two, z_weirlaw3_Op.I, z_weirlaw3_Op.N, z_weirlaw3_Op.B⟩ : weirlaw3_Op), (⟨10, z_weirlaw3_Op.Two, z_weirlaw3_Op.I, z_weirlaw3_Op.N, r6⟩ : weirlaw3_Op), (⟨7, z_weirlaw3_Op.Two, z_weirlaw3_Op.I, 3, z_weirlaw3_Op.B⟩ : weirlaw3_Op), (⟨11, z_weirlaw3_Op.Two, z_weirlaw3_Op.I, z_weirlaw3_Op.N, z_weirlaw3_Op.B⟩ : weirlaw3_Op), (⟨9, z_weirlaw3_Op.Two, z_weirlaw3_Op.I, z_weirlaw3_Op.N, z_weirlaw3_Op.B⟩ : weirlaw3_Op), (⟨8, z_weirlaw3_Op.Two, z_weirlaw3_Op.I, z_weirlaw3_Op.N, z_weirlaw3_Op.B⟩ : weirlaw3_Op)], rfl⟩ : (Vec weirlaw3_Op 8)) s9 z_weirlaw3_Op) >>= fun r20 =>
    pure (LS.next (r20.2, IntKind.wrap .i64 (s9 + 1), r20.1))
  else
    (weirlaw3_started.K1 s8 s10) >>= fun b => pure (LS.done b)
theorem weirlaw3_started.L1_ok (b2 : Nat) (r4 : Sl) (r6 : Sl) (b7 : Nat) (s8 : Bool) (s9 : Int) (s10 : weirlaw3_Side) :
    SJ weirlaw3_started.cx [.code (c1 (c1 (c2 (c1 (c2 (c2 (c2 weirlaw3_started.B))))))), .inLoop (c1 (c1 (c2 (c1 (c2 (c2 (c2 weirlaw3_started.B))))))), .inBlock 0, .code (c2 (c2 (c2 (c2 weirlaw3_started.B))))] [(1, .pointer (some (pt b2 0))), (2, .bool s8), (3, .pointer (some (pt b7 0))), (4, .int .i64 s9)] [(b7, (c_weirlaw3_Op.arr 8).enc (⟨[(⟨1, z_weirlaw3_Op.Two, z_weirlaw3_Op.I, 1, z_weirlaw3_Op.B⟩ : weirlaw3_Op), (⟨2, z_weirlaw3_Op.Two, z_weirlaw3_Op.I, z_weirlaw3_Op.N, r4⟩ : weirlaw3_Op), (⟨3, z_weirlaw3_Op.Two, z_weirlaw3_Op.I, z_weirlaw3_Op.N, z_weirlaw3_Op.B⟩ : weirlaw3_Op), (⟨10, z_weirlaw3_Op.Two, z_weirlaw3_Op.I, z_weirlaw3_Op.N, r6⟩ : weirlaw3_Op), (⟨7, z_weirlaw3_Op.Two, z_weirlaw3_Op.I, 3, z_weirlaw3_Op.B⟩ : weirlaw3_Op), (⟨11, z_weirlaw3_Op.Two, z_weirlaw3_Op.I, z_weirlaw3_Op.N, z_weirlaw3_Op.B⟩ : weirlaw3_Op), (⟨9, z_weirlaw3_Op.Two, z_weirlaw3_Op.I, z_weirlaw3_Op.N, z_weirlaw3_Op.B⟩ : weirlaw3_Op), (⟨8, z_weirlaw3_Op.Two, z_weirlaw3_Op.I, z_weirlaw3_Op.N, z_weirlaw3_Op.B⟩ : weirlaw3_Op)], rfl⟩ : (Vec weirlaw3_Op 8))), (b2, c_weirlaw3_Side.enc s10)] (weirlaw3_started.L1 r4 r6 s8 s9 s10) (weirlaw3_started.F1 b2 r4 r6 b7) := by
  unfold weirlaw3_started.L1
  refine SJ.seq ?_
  refine SJ.sr 5 ?_
  refine OJ.go 3 [(24, .bool (decide (s9 < 8))), (23, .bool (decide (s9 < 8))), (22, .int .i64 s9)] ?_
  refine OJ.join (b := decide (s9 < 8)) [3, 4] [] [1, 2, 3, 4, 26] (fun y17 => [(1, .pointer (some (pt b2 0))), (2, .bool s8), (3, .pointer (some (pt b7 0))), (4, .int .i64 s9), (26, .bool y17)]) [] [] (t := 24) decide_eq_true_iff (fun hp_ => ?_) (fun hp_ => ?_) (fun _ _ _ _ _ _ h_ => h_) (fun y17 => ?_)
  · refine OJ.go 2 [(26, .bool s8), (25, .bool s8)] ?_
    exact OJ.nil ⟨(Cov.mem Cov.nil), rfl, _, rfl, by kernel_rfl⟩
  · refine OJ.go 2 [(26, .bool false), (25, undef)] ?_
    exact OJ.nil ⟨(Cov.mem Cov.nil), rfl, _, rfl, by kernel_rfl⟩
  · refine OJ.nil ?_
    refine SJ.cond (t := (.tmp 26)) (b := y17) Iff.rfl (fun hc21 => ?_) (fun hc21 => ?_)
    · refine SJ.skip ?_
      refine SJ.seq ?_
      refine SJ.block (id := 1) ?_
      refine SJ.draw (id := 6) (kd := [1, 0, 0, 1, 2, 0, 0, 0, 2, 0]) (bef := [0, 0, 2, 6, 15, 31, 63, 63, 127, 511]) (ord := [0, 1, 2, 3, 4, 5, 6, 7, 8, 9]) mixed ?_
      refine OJ.kld (d := 30) (y := .tmp 1) (cd := c_weirlaw3_Side) (j := 1) (b := b2) (o := 0) s10 (pend2 := [⟨0, 62, (pt b2 0), c_weirlaw3_Side.val s10⟩]) Ty62 rfl (At.whole _) rfl ?_
      refine OJ.go 1 [(31, .int .i64 s9)] ?_
      refine OJ.idxK (d := 32) (T := 96) (y := .tmp 3) (j := .tmp 31) (E := 45) (sz := 5) (b := b7) (o := 0) (k := .i64) (fun hb18 hb19 => ?_)
      refine OJ.kld (d := 33) (y := .tmp 32) (cd := c_weirlaw3_Op) (j := 0) (b := b7) (o := (0 + s9.toNat * 5)) (Vec.g (⟨[(⟨1, z_weirlaw3_Op.Two, z_weirlaw3_Op.I, 1, z_weirlaw3_Op.B⟩ : weirlaw3_Op), (⟨2, z_weirlaw3_Op.Two, z_weirlaw3_Op.I, z_weirlaw3_Op.N, r4⟩ : weirlaw3_Op), (⟨3, z_weirlaw3_Op.Two, z_weirlaw3_Op.I, z_weirlaw3_Op.N, z_weirlaw3_Op.B⟩ : weirlaw3_Op), (⟨10, z_weirlaw3_Op.Two, z_weirlaw3_Op.I, z_weirlaw3_Op.N, r6⟩ : weirlaw3_Op), (⟨7, z_weirlaw3_Op.Two, z_weirlaw3_Op.I, 3, z_weirlaw3_Op.B⟩ : weirlaw3_Op), (⟨11, z_weirlaw3_Op.Two, z_weirlaw3_Op.I, z_weirlaw3_Op.N, z_weirlaw3_Op.B⟩ : weirlaw3_Op), (⟨9, z_weirlaw3_Op.Two, z_weirlaw3_Op.I, z_weirlaw3_Op.N, z_weirlaw3_Op.B⟩ : weirlaw3_Op), (⟨8, z_weirlaw3_Op.Two, z_weirlaw3_Op.I, z_weirlaw3_Op.N, z_weirlaw3_Op.B⟩ : weirlaw3_Op)], rfl⟩ : (Vec weirlaw3_Op 8)) s9 z_weirlaw3_Op) (pend2 := [⟨3, 45, (pt b7 (0 + s9.toNat * 5)), c_weirlaw3_Op.val (Vec.g (⟨[(⟨1, z_weirlaw3_Op.Two, z_weirlaw3_Op.I, 1, z_weirlaw3_Op.B⟩ : weirlaw3_Op), (⟨2, z_weirlaw3_Op.Two, z_weirlaw3_Op.I, z_weirlaw3_Op.N, r4⟩ : weirlaw3_Op), (⟨3, z_weirlaw3_Op.Two, z_weirlaw3_Op.I, z_weirlaw3_Op.N, z_weirlaw3_Op.B⟩ : weirlaw3_Op), (⟨10, z_weirlaw3_Op.Two, z_weirlaw3_Op.I, z_weirlaw3_Op.N, r6⟩ : weirlaw3_Op), (⟨7, z_weirlaw3_Op.Two, z_weirlaw3_Op.I, 3, z_weirlaw3_Op.B⟩ : weirlaw3_Op), (⟨11, z_weirlaw3_Op.Two, z_weirlaw3_Op.I, z_weirlaw3_Op.N, z_weirlaw3_Op.B⟩ : weirlaw3_Op), (⟨9, z_weirlaw3_Op.Two, z_weirlaw3_Op.I, z_weirlaw3_Op.N, z_weirlaw3_Op.B⟩ : weirlaw3_Op), (⟨8, z_weirlaw3_Op.Two, z_weirlaw3_Op.I, z_weirlaw3_Op.N, z_weirlaw3_Op.B⟩ : weirlaw3_Op)], rfl⟩ : (Vec weirlaw3_Op 8)) s9 z_weirlaw3_Op)⟩, ⟨0, 62, (pt b2 0), c_weirlaw3_Side.val s10⟩]) Ty45 rfl (At.zero (At.arr (z := z_weirlaw3_Op) hb18 hb19)) rfl ?_
      refine OJ.call (d := 34) (g := 50) (ats := #[62, 45]) (args := [.tmp 30, .tmp 33]) (owed := []) F50 (weirlaw3_step_ok s10 (Vec.g (⟨[(⟨1, z_weirlaw3_Op.Two, z_weirlaw3_Op.I, 1, z_weirlaw3_Op.B⟩ : weirlaw3_Op), (⟨2, z_weirlaw3_Op.Two, z_weirlaw3_Op.I, z_weirlaw3_Op.N, r4⟩ : weirlaw3_Op), (⟨3, z_weirlaw3_Op.Two, z_weirlaw3_Op.I, z_weirlaw3_Op.N, z_weirlaw3_Op.B⟩ : weirlaw3_Op), (⟨10, z_weirlaw3_Op.Two, z_weirlaw3_Op.I, z_weirlaw3_Op.N, r6⟩ : weirlaw3_Op), (⟨7, z_weirlaw3_Op.Two, z_weirlaw3_Op.I, 3, z_weirlaw3_Op.B⟩ : weirlaw3_Op), (⟨11, z_weirlaw3_Op.Two, z_weirlaw3_Op.I, z_weirlaw3_Op.N, z_weirlaw3_Op.B⟩ : weirlaw3_Op), (⟨9, z_weirlaw3_Op.Two, z_weirlaw3_Op.I, z_weirlaw3_Op.N, z_weirlaw3_Op.B⟩ : weirlaw3_Op), (⟨8, z_weirlaw3_Op.Two, z_weirlaw3_Op.I, z_weirlaw3_Op.N, z_weirlaw3_Op.B⟩ : weirlaw3_Op)], rfl⟩ : (Vec weirlaw3_Op 8)) s9 z_weirlaw3_Op)) (fun r20 => ?_)
      refine OW.nil ?_
      refine OJ.go 3 [(36, .bool r20.2), (35, c_weirlaw3_Side.val r20.1), (29, .tuple #[c_weirlaw3_Side.val r20.1, .bool r20.2])] ?_
      refine OJ.kst (y := .tmp 1) (z := .tmp 35) (cd := c_weirlaw3_Side) (u := r20.1) (j := 1) (b := b2) (o := 0) (c_weirlaw3_Side.enc r20.1) (owed := []) Ty62 rfl (Upd.whole ((Cod.len _ _).trans (Cod.len _ _).symm)) rfl ?_
      refine OW.nil ?_
      refine OJ.go 1 [(2, .bool r20.2)] ?_
      refine OJ.nil ?_
      refine SJ.inBlock ?_
      refine SJ.rg 3 ?_
      refine OJ.go 3 [(4, .int .i64 (IntKind.wrap .i64 (s9 + 1))), (28, .int .i64 (IntKind.wrap .i64 (s9 + 1))), (27, .int .i64 s9)] ?_
      refine OJ.nil ?_
      exact SJ.at_ [1, 2, 3, 4] rfl
    · refine SJ.exit (id := 0) (by rfl) ?_
      refine SJ.forget (List.Sublist.cons _ (List.Sublist.cons_cons _ List.Sublist.slnil)) ?_
      refine SJ.less [1, 2] (m' := [(1, .pointer (some (pt b2 0))), (2, .bool s8)]) ?_
      refine SJ.done ?_
      exact weirlaw3_started.K1_ok b2 s8 s10
noncomputable def weirlaw3_started  : M Bool :=
  weirlaw3_made 1 1 2 64 >>= fun r1 =>
  slot 62 >>= fun b2 =>
  newv 5 ((cI .u8).arr 3) (⟨[97, 98, 99], rfl⟩ : Vec Int 3) >>= fun b3 =>
  markS (⟨some (pt b3 0), 3, 3⟩ : Sl) >>= fun r4 =>
  newv 5 ((cI .u8).arr 1) (⟨[122], rfl⟩ : Vec Int 1) >>= fun b5 =>
  markS (⟨some (pt b5 0), 1, 1⟩ : Sl) >>= fun r6 =>
  slot 96 >>= fun b7 =>
  loopM (fun s_ : (Bool × Int × weirlaw3_Side) => weirlaw3_started.L1 r4 r6 s_.1 s_.2.1 s_.2.2) (r1.2, 0, r1.1)
theorem weirlaw3_started_ok  : Ref Try.prog 29 [] (weirlaw3_started) weirlaw3_started.out := by
  refine Ref.of (cd := weirlaw3_started.B) Try.func29 ?_
  show SJ weirlaw3_started.cx [.code weirlaw3_started.B] [] [] (weirlaw3_started) weirlaw3_started.F0
  unfold weirlaw3_started
  refine SJ.sr 1 ?_
  refine OJ.go 1 [(0, .bool false)] ?_
  refine OJ.nil ?_
  refine SJ.sr 7 ?_
  refine OJ.call (d := 6) (g := 30) (ats := #[3, 3, 3, 3]) (args := [.const (.int .i64 1), .const (.int .i64 1), .const (.int .i64 2), .const (.int .i64 64)]) (owed := []) F30 (weirlaw3_made_ok 1 1 2 64) (fun r1 => ?_)
  refine OW.nil ?_
  refine OJ.go 3 [(8, .bool r1.2), (7, c_weirlaw3_Side.val r1.1), (5, .tuple #[c_weirlaw3_Side.val r1.1, .bool r1.2])] ?_
  refine OJ.slotOf (d := 1) (op := (.alloc 62)) (cd := c_weirlaw3_Side) (u := z_weirlaw3_Side) (owed := []) (alloc_run Ty62) (fun b2 => ?_)
  refine OW.nil ?_
  refine OJ.kst (y := .tmp 1) (z := .tmp 7) (cd := c_weirlaw3_Side) (u := r1.1) (j := 0) (b := b2) (o := 0) (c_weirlaw3_Side.enc r1.1) (owed := []) Ty62 rfl (Upd.whole ((Cod.len _ _).trans (Cod.len _ _).symm)) rfl ?_
  refine OW.nil ?_
  refine OJ.go 1 [(2, .bool r1.2)] ?_
  refine OJ.nil ?_
  refine SJ.sr 15 ?_
  refine OJ.build (d := 9) (T := 45) (parts := [(0, .const (.int .i64 1)), (3, .const (.int .i64 1))]) (ps := [(0, (cI .i64).val 1), (3, (cI .i64).val 1)]) (cd := c_weirlaw3_Op) (z0 := z_weirlaw3_Op) (⟨1, z_weirlaw3_Op.Two, z_weirlaw3_Op.I, 1, z_weirlaw3_Op.B⟩ : weirlaw3_Op) Ty45 rfl (Filled.cons (cd := (cI .i64)) (q := 1) (o := 0) (by kernel_rfl) (Up_weirlaw3_Op_Kind z_weirlaw3_Op 1) (Filled.cons (cd := (cI .i64)) (q := 1) (o := 3) (by kernel_rfl) (Up_weirlaw3_Op_N (⟨1, z_weirlaw3_Op.Two, z_weirlaw3_Op.I, z_weirlaw3_Op.N, z_weirlaw3_Op.B⟩ : weirlaw3_Op) 1) Filled.nil)) ?_
  refine OJ.rowNew (d := 10) (t := 22) (parts := [(0, .const (.int .u8 97)), (1, .const (.int .u8 98)), (2, .const (.int .u8 99))]) (ps := [(0, (cI .u8).val 97), (1, (cI .u8).val 98), (2, (cI .u8).val 99)]) (cd := (cI .u8)) (owed := []) Ty5 (Filled.cons (cd := (cI .u8)) (q := 97) (o := 0) rfl (Upd.arr (i := 0) (by decide) (by decide)) (Filled.cons (cd := (cI .u8)) (q := 98) (o := 1) rfl (Upd.arr (i := 1) (by decide) (by decide)) (Filled.cons (cd := (cI .u8)) (q := 99) (o := 2) rfl (Upd.arr (i := 2) (by decide) (by decide)) Filled.nil))) (fun b3 => ?_)
  refine OW.nil ?_
  refine OJ.markS (d := 11) (t := 22) (E := 5) (x := .tmp 10) (owed := []) (fun r4 => ?_)
  refine OW.nil ?_
  refine OJ.build (d := 12) (T := 45) (parts := [(0, .const (.int .i64 2)), (4, .tmp 11)]) (ps := [(0, (cI .i64).val 2), (4, cL.val r4)]) (cd := c_weirlaw3_Op) (z0 := z_weirlaw3_Op) (⟨2, z_weirlaw3_Op.Two, z_weirlaw3_Op.I, z_weirlaw3_Op.N, r4⟩ : weirlaw3_Op) Ty45 rfl (Filled.cons (cd := (cI .i64)) (q := 2) (o := 0) (by kernel_rfl) (Up_weirlaw3_Op_Kind z_weirlaw3_Op 2) (Filled.cons (cd := cL) (q := r4) (o := 4) (by kernel_rfl) (Up_weirlaw3_Op_B (⟨2, z_weirlaw3_Op.Two, z_weirlaw3_Op.I, z_weirlaw3_Op.N, z_weirlaw3_Op.B⟩ : weirlaw3_Op) r4) Filled.nil)) ?_
  refine OJ.build (d := 13) (T := 45) (parts := [(0, .const (.int .i64 3))]) (ps := [(0, (cI .i64).val 3)]) (cd := c_weirlaw3_Op) (z0 := z_weirlaw3_Op) (⟨3, z_weirlaw3_Op.Two, z_weirlaw3_Op.I, z_weirlaw3_Op.N, z_weirlaw3_Op.B⟩ : weirlaw3_Op) Ty45 rfl (Filled.cons (cd := (cI .i64)) (q := 3) (o := 0) (by kernel_rfl) (Up_weirlaw3_Op_Kind z_weirlaw3_Op 3) Filled.nil) ?_
  refine OJ.rowNew (d := 14) (t := 22) (parts := [(0, .const (.int .u8 122))]) (ps := [(0, (cI .u8).val 122)]) (cd := (cI .u8)) (owed := []) Ty5 (Filled.cons (cd := (cI .u8)) (q := 122) (o := 0) rfl (Upd.arr (i := 0) (by decide) (by decide)) Filled.nil) (fun b5 => ?_)
  refine OW.nil ?_
  refine OJ.markS (d := 15) (t := 22) (E := 5) (x := .tmp 14) (owed := []) (fun r6 => ?_)
  refine OW.nil ?_
  refine OJ.build (d := 16) (T := 45) (parts := [(0, .const (.int .i64 10)), (4, .tmp 15)]) (ps := [(0, (cI .i64).val 10), (4, cL.val r6)]) (cd := c_weirlaw3_Op) (z0 := z_weirlaw3_Op) (⟨10, z_weirlaw3_Op.Two, z_weirlaw3_Op.I, z_weirlaw3_Op.N, r6⟩ : weirlaw3_Op) Ty45 rfl (Filled.cons (cd := (cI .i64)) (q := 10) (o := 0) (by kernel_rfl) (Up_weirlaw3_Op_Kind z_weirlaw3_Op 10) (Filled.cons (cd := cL) (q := r6) (o := 4) (by kernel_rfl) (Up_weirlaw3_Op_B (⟨10, z_weirlaw3_Op.Two, z_weirlaw3_Op.I, z_weirlaw3_Op.N, z_weirlaw3_Op.B⟩ : weirlaw3_Op) r6) Filled.nil)) ?_
  refine OJ.build (d := 17) (T := 45) (parts := [(0, .const (.int .i64 7)), (3, .const (.int .i64 3))]) (ps := [(0, (cI .i64).val 7), (3, (cI .i64).val 3)]) (cd := c_weirlaw3_Op) (z0 := z_weirlaw3_Op) (⟨7, z_weirlaw3_Op.Two, z_weirlaw3_Op.I, 3, z_weirlaw3_Op.B⟩ : weirlaw3_Op) Ty45 rfl (Filled.cons (cd := (cI .i64)) (q := 7) (o := 0) (by kernel_rfl) (Up_weirlaw3_Op_Kind z_weirlaw3_Op 7) (Filled.cons (cd := (cI .i64)) (q := 3) (o := 3) (by kernel_rfl) (Up_weirlaw3_Op_N (⟨7, z_weirlaw3_Op.Two, z_weirlaw3_Op.I, z_weirlaw3_Op.N, z_weirlaw3_Op.B⟩ : weirlaw3_Op) 3) Filled.nil)) ?_
  refine OJ.build (d := 18) (T := 45) (parts := [(0, .const (.int .i64 11))]) (ps := [(0, (cI .i64).val 11)]) (cd := c_weirlaw3_Op) (z0 := z_weirlaw3_Op) (⟨11, z_weirlaw3_Op.Two, z_weirlaw3_Op.I, z_weirlaw3_Op.N, z_weirlaw3_Op.B⟩ : weirlaw3_Op) Ty45 rfl (Filled.cons (cd := (cI .i64)) (q := 11) (o := 0) (by kernel_rfl) (Up_weirlaw3_Op_Kind z_weirlaw3_Op 11) Filled.nil) ?_
  refine OJ.build (d := 19) (T := 45) (parts := [(0, .const (.int .i64 9))]) (ps := [(0, (cI .i64).val 9)]) (cd := c_weirlaw3_Op) (z0 := z_weirlaw3_Op) (⟨9, z_weirlaw3_Op.Two, z_weirlaw3_Op.I, z_weirlaw3_Op.N, z_weirlaw3_Op.B⟩ : weirlaw3_Op) Ty45 rfl (Filled.cons (cd := (cI .i64)) (q := 9) (o := 0) (by kernel_rfl) (Up_weirlaw3_Op_Kind z_weirlaw3_Op 9) Filled.nil) ?_
  refine OJ.build (d := 20) (T := 45) (parts := [(0, .const (.int .i64 8))]) (ps := [(0, (cI .i64).val 8)]) (cd := c_weirlaw3_Op) (z0 := z_weirlaw3_Op) (⟨8, z_weirlaw3_Op.Two, z_weirlaw3_Op.I, z_weirlaw3_Op.N, z_weirlaw3_Op.B⟩ : weirlaw3_Op) Ty45 rfl (Filled.cons (cd := (cI .i64)) (q := 8) (o := 0) (by kernel_rfl) (Up_weirlaw3_Op_Kind z_weirlaw3_Op 8) Filled.nil) ?_
  refine OJ.build (d := 21) (T := 96) (parts := [(0, .tmp 9), (1, .tmp 12), (2, .tmp 13), (3, .tmp 16), (4, .tmp 17), (5, .tmp 18), (6, .tmp 19), (7, .tmp 20)]) (ps := [(0, c_weirlaw3_Op.val (⟨1, z_weirlaw3_Op.Two, z_weirlaw3_Op.I, 1, z_weirlaw3_Op.B⟩ : weirlaw3_Op)), (1, c_weirlaw3_Op.val (⟨2, z_weirlaw3_Op.Two, z_weirlaw3_Op.I, z_weirlaw3_Op.N, r4⟩ : weirlaw3_Op)), (2, c_weirlaw3_Op.val (⟨3, z_weirlaw3_Op.Two, z_weirlaw3_Op.I, z_weirlaw3_Op.N, z_weirlaw3_Op.B⟩ : weirlaw3_Op)), (3, c_weirlaw3_Op.val (⟨10, z_weirlaw3_Op.Two, z_weirlaw3_Op.I, z_weirlaw3_Op.N, r6⟩ : weirlaw3_Op)), (4, c_weirlaw3_Op.val (⟨7, z_weirlaw3_Op.Two, z_weirlaw3_Op.I, 3, z_weirlaw3_Op.B⟩ : weirlaw3_Op)), (5, c_weirlaw3_Op.val (⟨11, z_weirlaw3_Op.Two, z_weirlaw3_Op.I, z_weirlaw3_Op.N, z_weirlaw3_Op.B⟩ : weirlaw3_Op)), (6, c_weirlaw3_Op.val (⟨9, z_weirlaw3_Op.Two, z_weirlaw3_Op.I, z_weirlaw3_Op.N, z_weirlaw3_Op.B⟩ : weirlaw3_Op)), (7, c_weirlaw3_Op.val (⟨8, z_weirlaw3_Op.Two, z_weirlaw3_Op.I, z_weirlaw3_Op.N, z_weirlaw3_Op.B⟩ : weirlaw3_Op))]) (cd := (c_weirlaw3_Op.arr 8)) (z0 := (Vec.rep 8 z_weirlaw3_Op)) (⟨[(⟨1, z_weirlaw3_Op.Two, z_weirlaw3_Op.I, 1, z_weirlaw3_Op.B⟩ : weirlaw3_Op), (⟨2, z_weirlaw3_Op.Two, z_weirlaw3_Op.I, z_weirlaw3_Op.N, r4⟩ : weirlaw3_Op), (⟨3, z_weirlaw3_Op.Two, z_weirlaw3_Op.I, z_weirlaw3_Op.N, z_weirlaw3_Op.B⟩ : weirlaw3_Op), (⟨10, z_weirlaw3_Op.Two, z_weirlaw3_Op.I, z_weirlaw3_Op.N, r6⟩ : weirlaw3_Op), (⟨7, z_weirlaw3_Op.Two, z_weirlaw3_Op.I, 3, z_weirlaw3_Op.B⟩ : weirlaw3_Op), (⟨11, z_weirlaw3_Op.Two, z_weirlaw3_Op.I, z_weirlaw3_Op.N, z_weirlaw3_Op.B⟩ : weirlaw3_Op), (⟨9, z_weirlaw3_Op.Two, z_weirlaw3_Op.I, z_weirlaw3_Op.N, z_weirlaw3_Op.B⟩ : weirlaw3_Op), (⟨8, z_weirlaw3_Op.Two, z_weirlaw3_Op.I, z_weirlaw3_Op.N, z_weirlaw3_Op.B⟩ : weirlaw3_Op)], rfl⟩ : (Vec weirlaw3_Op 8)) Ty96 rfl (Filled.cons (cd := c_weirlaw3_Op) (q := (⟨1, z_weirlaw3_Op.Two, z_weirlaw3_Op.I, 1, z_weirlaw3_Op.B⟩ : weirlaw3_Op)) (o := 0) (by kernel_rfl) (Upd.arr (i := 0) (by decide) (by decide)) (Filled.cons (cd := c_weirlaw3_Op) (q := (⟨2, z_weirlaw3_Op.Two, z_weirlaw3_Op.I, z_weirlaw3_Op.N, r4⟩ : weirlaw3_Op)) (o := 5) (by kernel_rfl) (Upd.arr (i := 1) (by decide) (by decide)) (Filled.cons (cd := c_weirlaw3_Op) (q := (⟨3, z_weirlaw3_Op.Two, z_weirlaw3_Op.I, z_weirlaw3_Op.N, z_weirlaw3_Op.B⟩ : weirlaw3_Op)) (o := 10) (by kernel_rfl) (Upd.arr (i := 2) (by decide) (by decide)) (Filled.cons (cd := c_weirlaw3_Op) (q := (⟨10, z_weirlaw3_Op.Two, z_weirlaw3_Op.I, z_weirlaw3_Op.N, r6⟩ : weirlaw3_Op)) (o := 15) (by kernel_rfl) (Upd.arr (i := 3) (by decide) (by decide)) (Filled.cons (cd := c_weirlaw3_Op) (q := (⟨7, z_weirlaw3_Op.Two, z_weirlaw3_Op.I, 3, z_weirlaw3_Op.B⟩ : weirlaw3_Op)) (o := 20) (by kernel_rfl) (Upd.arr (i := 4) (by decide) (by decide)) (Filled.cons (cd := c_weirlaw3_Op) (q := (⟨11, z_weirlaw3_Op.Two, z_weirlaw3_Op.I, z_weirlaw3_Op.N, z_weirlaw3_Op.B⟩ : weirlaw3_Op)) (o := 25) (by kernel_rfl) (Upd.arr (i := 5) (by decide) (by decide)) (Filled.cons (cd := c_weirlaw3_Op) (q := (⟨9, z_weirlaw3_Op.Two, z_weirlaw3_Op.I, z_weirlaw3_Op.N, z_weirlaw3_Op.B⟩ : weirlaw3_Op)) (o := 30) (by kernel_rfl) (Upd.arr (i := 6) (by decide) (by decide)) (Filled.cons (cd := c_weirlaw3_Op) (q := (⟨8, z_weirlaw3_Op.Two, z_weirlaw3_Op.I, z_weirlaw3_Op.N, z_weirlaw3_Op.B⟩ : weirlaw3_Op)) (o := 35) (by kernel_rfl) (Upd.arr (i := 7) (by decide) (by decide)) Filled.nil)))))))) ?_
  refine OJ.slotOf (d := 3) (op := (.alloc 96)) (cd := (c_weirlaw3_Op.arr 8)) (u := (Vec.rep 8 z_weirlaw3_Op)) (owed := []) (alloc_run Ty96) (fun b7 => ?_)
  refine OW.nil ?_
  refine OJ.kst (y := .tmp 3) (z := .tmp 21) (cd := (c_weirlaw3_Op.arr 8)) (u := (⟨[(⟨1, z_weirlaw3_Op.Two, z_weirlaw3_Op.I, 1, z_weirlaw3_Op.B⟩ : weirlaw3_Op), (⟨2, z_weirlaw3_Op.Two, z_weirlaw3_Op.I, z_weirlaw3_Op.N, r4⟩ : weirlaw3_Op), (⟨3, z_weirlaw3_Op.Two, z_weirlaw3_Op.I, z_weirlaw3_Op.N, z_weirlaw3_Op.B⟩ : weirlaw3_Op), (⟨10, z_weirlaw3_Op.Two, z_weirlaw3_Op.I, z_weirlaw3_Op.N, r6⟩ : weirlaw3_Op), (⟨7, z_weirlaw3_Op.Two, z_weirlaw3_Op.I, 3, z_weirlaw3_Op.B⟩ : weirlaw3_Op), (⟨11, z_weirlaw3_Op.Two, z_weirlaw3_Op.I, z_weirlaw3_Op.N, z_weirlaw3_Op.B⟩ : weirlaw3_Op), (⟨9, z_weirlaw3_Op.Two, z_weirlaw3_Op.I, z_weirlaw3_Op.N, z_weirlaw3_Op.B⟩ : weirlaw3_Op), (⟨8, z_weirlaw3_Op.Two, z_weirlaw3_Op.I, z_weirlaw3_Op.N, z_weirlaw3_Op.B⟩ : weirlaw3_Op)], rfl⟩ : (Vec weirlaw3_Op 8))) (j := 0) (b := b7) (o := 0) ((c_weirlaw3_Op.arr 8).enc (⟨[(⟨1, z_weirlaw3_Op.Two, z_weirlaw3_Op.I, 1, z_weirlaw3_Op.B⟩ : weirlaw3_Op), (⟨2, z_weirlaw3_Op.Two, z_weirlaw3_Op.I, z_weirlaw3_Op.N, r4⟩ : weirlaw3_Op), (⟨3, z_weirlaw3_Op.Two, z_weirlaw3_Op.I, z_weirlaw3_Op.N, z_weirlaw3_Op.B⟩ : weirlaw3_Op), (⟨10, z_weirlaw3_Op.Two, z_weirlaw3_Op.I, z_weirlaw3_Op.N, r6⟩ : weirlaw3_Op), (⟨7, z_weirlaw3_Op.Two, z_weirlaw3_Op.I, 3, z_weirlaw3_Op.B⟩ : weirlaw3_Op), (⟨11, z_weirlaw3_Op.Two, z_weirlaw3_Op.I, z_weirlaw3_Op.N, z_weirlaw3_Op.B⟩ : weirlaw3_Op), (⟨9, z_weirlaw3_Op.Two, z_weirlaw3_Op.I, z_weirlaw3_Op.N, z_weirlaw3_Op.B⟩ : weirlaw3_Op), (⟨8, z_weirlaw3_Op.Two, z_weirlaw3_Op.I, z_weirlaw3_Op.N, z_weirlaw3_Op.B⟩ : weirlaw3_Op)], rfl⟩ : (Vec weirlaw3_Op 8))) (owed := []) Ty96 rfl (Upd.whole ((Cod.len _ _).trans (Cod.len _ _).symm)) rfl ?_
  refine OW.nil ?_
  refine OJ.nil ?_
  refine SJ.seq ?_
  refine SJ.sr 1 ?_
  refine OJ.go 1 [(4, .int .i64 0)] ?_
  refine OJ.nil ?_
  refine SJ.block (id := 0) ?_
  exact SJ.loop (fun s_ : (Bool × Int × weirlaw3_Side) => [(1, .pointer (some (pt b2 0))), (2, .bool s_.1), (3, .pointer (some (pt b7 0))), (4, .int .i64 s_.2.1)]) (fun s_ : (Bool × Int × weirlaw3_Side) => [(b7, (c_weirlaw3_Op.arr 8).enc (⟨[(⟨1, z_weirlaw3_Op.Two, z_weirlaw3_Op.I, 1, z_weirlaw3_Op.B⟩ : weirlaw3_Op), (⟨2, z_weirlaw3_Op.Two, z_weirlaw3_Op.I, z_weirlaw3_Op.N, r4⟩ : weirlaw3_Op), (⟨3, z_weirlaw3_Op.Two, z_weirlaw3_Op.I, z_weirlaw3_Op.N, z_weirlaw3_Op.B⟩ : weirlaw3_Op), (⟨10, z_weirlaw3_Op.Two, z_weirlaw3_Op.I, z_weirlaw3_Op.N, r6⟩ : weirlaw3_Op), (⟨7, z_weirlaw3_Op.Two, z_weirlaw3_Op.I, 3, z_weirlaw3_Op.B⟩ : weirlaw3_Op), (⟨11, z_weirlaw3_Op.Two, z_weirlaw3_Op.I, z_weirlaw3_Op.N, z_weirlaw3_Op.B⟩ : weirlaw3_Op), (⟨9, z_weirlaw3_Op.Two, z_weirlaw3_Op.I, z_weirlaw3_Op.N, z_weirlaw3_Op.B⟩ : weirlaw3_Op), (⟨8, z_weirlaw3_Op.Two, z_weirlaw3_Op.I, z_weirlaw3_Op.N, z_weirlaw3_Op.B⟩ : weirlaw3_Op)], rfl⟩ : (Vec weirlaw3_Op 8))), (b2, c_weirlaw3_Side.enc s_.2.2)]) [1, 2, 3, 4] rfl (fun _ _ => rfl) (fun s_ => weirlaw3_started.L1_ok b2 r4 r6 b7 s_.1 s_.2.1 s_.2.2)

/-! ### (*weir/weirlaw3.Book).Keep: function 34 -/
noncomputable def weirlaw3_Book_Keep.B : Code := (Try.f34.body).getD .skip
noncomputable def weirlaw3_Book_Keep.cx : Fx := ⟨Try.prog, 34, Try.f34⟩
noncomputable def weirlaw3_Book_Keep.out (r_ : Unit) : Value := .tuple #[]
noncomputable def weirlaw3_Book_Keep.F0 (r_ : Unit) : Reach := .ret (weirlaw3_Book_Keep.out r_)
noncomputable def weirlaw3_Book_Keep (a0 : (Option Addr)) (a1 : Sl) : M Unit :=
  appS (cI .u8) 5 1 0 Sl.nil a1 >>= fun r1 =>
  nilck a0 >>= fun p2 =>
  ld cL p2 >>= fun x3 =>
  slot 22 >>= fun b4 =>
  appl cL 22 24 Sl.nil x3 [a1] >>= fun r5 =>
  nilck a0 >>= fun p6 =>
  st cL p6 r5 >>= fun _ =>
  nilck a0 >>= fun p7 =>
  ld cL (Addr.add p7 1) >>= fun x8 =>
  slot 22 >>= fun b9 =>
  appl cL 22 24 Sl.nil x8 [r1] >>= fun r10 =>
  nilck a0 >>= fun p11 =>
  st cL (Addr.add p11 1) r10 >>= fun _ =>
  pure ()
theorem weirlaw3_Book_Keep_ok (a0 : (Option Addr)) (a1 : Sl) : Ref Try.prog 34 [.pointer a0, Sl.v a1] (weirlaw3_Book_Keep a0 a1) weirlaw3_Book_Keep.out := by
  refine Ref.of (cd := weirlaw3_Book_Keep.B) Try.func34 ?_
  show SJ weirlaw3_Book_Keep.cx [.code weirlaw3_Book_Keep.B] [(0, .pointer a0), (1, Sl.v a1)] [] (weirlaw3_Book_Keep a0 a1) weirlaw3_Book_Keep.F0
  unfold weirlaw3_Book_Keep
  refine SJ.sr 1 ?_
  refine OJ.go 1 [(4, Sl.v Sl.nil)] ?_
  refine OJ.nil ?_
  refine SJ.sr 4 ?_
  refine OJ.go 2 [(6, Sl.v a1), (5, Sl.v Sl.nil)] ?_
  refine OJ.appS (d := 7) (t := 22) (u := 22) (so := .tmp 5) (xo := .tmp 6) (owed := []) Ty5 (fun r1 => ?_)
  refine OW.nil ?_
  refine OJ.go 1 [(4, Sl.v r1)] ?_
  refine OJ.nil ?_
  refine SJ.sr 11 ?_
  refine OJ.go 2 [(9, .pointer a0), (8, .pointer a0)] ?_
  refine OJ.nilck (d := 10) (y := .tmp 9) (fun p2 => ?_)
  refine OJ.go 1 [(11, .pointer (some p2))] ?_
  refine OJ.ld (d := 12) (y := .tmp 11) (pend2 := fun x3 => []) Ty43 (fun _ => rfl) (fun x3 => ?_)
  refine OJ.go 1 [(13, Sl.v a1)] ?_
  refine OJ.rowSlot (d := 14) (t := 43) (parts := [(0, .tmp 13)]) (ps := [(0, cL.val a1)]) (cd := cL) (⟨[a1], rfl⟩ : Vec Sl 1) (owed := []) Ty22 (Filled.cons (cd := cL) (q := a1) (o := 0) rfl (Upd.arr (i := 0) (by decide) (by decide)) Filled.nil) (fun b4 => ?_)
  refine OW.nil ?_
  refine OJ.appl (d := 15) (t := 43) (u := 43) (so := .tmp 12) (xo := .tmp 14) (j := 0) (b := b4) (l := (cL.arr 1).enc (⟨[a1], rfl⟩ : Vec Sl 1)) (n := 1) (k := 1) [a1] (owed := []) Ty22 (by rfl) (Cod.arr_enc _ _ _) (by rfl) (fun r5 => ?_)
  refine OW.nil ?_
  refine OJ.nilck (d := 16) (y := .tmp 8) (fun p6 => ?_)
  refine OJ.go 1 [(17, .pointer (some p6))] ?_
  refine OJ.st (y := .tmp 17) (z := .tmp 15) (owed := []) Ty43 ?_
  refine OW.nil ?_
  refine OJ.nil ?_
  refine SJ.rg 11 ?_
  refine OJ.go 2 [(19, .pointer a0), (18, .pointer a0)] ?_
  refine OJ.nilck (d := 20) (y := .tmp 19) (fun p7 => ?_)
  refine OJ.go 1 [(21, .pointer (some (Addr.add p7 1)))] ?_
  refine OJ.ld (d := 22) (y := .tmp 21) (pend2 := fun x8 => []) Ty43 (fun _ => rfl) (fun x8 => ?_)
  refine OJ.go 1 [(23, Sl.v r1)] ?_
  refine OJ.rowSlot (d := 24) (t := 43) (parts := [(0, .tmp 23)]) (ps := [(0, cL.val r1)]) (cd := cL) (⟨[r1], rfl⟩ : Vec Sl 1) (owed := []) Ty22 (Filled.cons (cd := cL) (q := r1) (o := 0) rfl (Upd.arr (i := 0) (by decide) (by decide)) Filled.nil) (fun b9 => ?_)
  refine OW.nil ?_
  refine OJ.appl (d := 25) (t := 43) (u := 43) (so := .tmp 22) (xo := .tmp 24) (j := 0) (b := b9) (l := (cL.arr 1).enc (⟨[r1], rfl⟩ : Vec Sl 1)) (n := 1) (k := 1) [r1] (owed := []) Ty22 (by rfl) (Cod.arr_enc _ _ _) (by rfl) (fun r10 => ?_)
  refine OW.nil ?_
  refine OJ.nilck (d := 26) (y := .tmp 18) (fun p11 => ?_)
  refine OJ.go 1 [(27, .pointer (some (Addr.add p11 1)))] ?_
  refine OJ.st (y := .tmp 27) (z := .tmp 25) (owed := []) Ty43 ?_
  refine OW.nil ?_
  refine OJ.nil ?_
  exact SJ.end_ rfl (Res.run (ys := []) .nil rfl)

/-! ### weir/weirlaw3.same: function 35 -/
noncomputable def weirlaw3_same.B : Code := (Try.f35.body).getD .skip
noncomputable def weirlaw3_same.cx : Fx := ⟨Try.prog, 35, Try.f35⟩
noncomputable def weirlaw3_same.out (r_ : Bool) : Value := .bool r_
noncomputable def weirlaw3_same.F0 (r_ : Bool) : Reach := .ret (weirlaw3_same.out r_)
noncomputable def weirlaw3_same.F1 (a0 : Sl) (a1 : Sl) : (LS Int Bool) → Reach := loopF [.inLoop (c1 (c1 (c2 (c1 (c2 (c2 weirlaw3_same.B)))))), .inBlock 0, .code (c2 (c2 (c2 weirlaw3_same.B)))] (fun s_ : Int => [(0, Sl.v a0), (1, Sl.v a1), (5, .int .i64 s_)]) (fun s_ : Int => []) weirlaw3_same.F0
noncomputable def weirlaw3_same.L1 (a0 : Sl) (a1 : Sl) (s1 : Int) : M (LS Int Bool) :=
  if s1 < (a0.len : Int) then
    draw >>= fun _ =>
    idx a0.a a0.len s1 1 >>= fun p8 =>
    ld (cI .i64) p8 >>= fun x9 =>
    idx a1.a a1.len s1 1 >>= fun p10 =>
    ld (cI .i64) p10 >>= fun x11 =>
    if x9 ≠ x11 then
      pure (LS.done false)
    else
      pure (LS.next (IntKind.wrap .i64 (s1 + 1)))
  else
    pure (LS.done true)
theorem weirlaw3_same.L1_ok (a0 : Sl) (a1 : Sl) (s1 : Int) :
    SJ weirlaw3_same.cx [.code (c1 (c1 (c2 (c1 (c2 (c2 weirlaw3_same.B)))))), .inLoop (c1 (c1 (c2 (c1 (c2 (c2 weirlaw3_same.B)))))), .inBlock 0, .code (c2 (c2 (c2 weirlaw3_same.B)))] [(0, Sl.v a0), (1, Sl.v a1), (5, .int .i64 s1)] [] (weirlaw3_same.L1 a0 a1 s1) (weirlaw3_same.F1 a0 a1) := by
  unfold weirlaw3_same.L1
  refine SJ.seq ?_
  refine SJ.sr 4 ?_
  refine OJ.go 4 [(14, .bool (decide (s1 < (a0.len : Int)))), (13, .int .i64 (a0.len : Int)), (12, Sl.v a0), (11, .int .i64 s1)] ?_
  refine OJ.nil ?_
  refine SJ.cond (t := (.tmp 14)) (b := decide (s1 < (a0.len : Int))) decide_eq_true_iff (fun hc13 => ?_) (fun hc13 => ?_)
  · refine SJ.skip ?_
    refine SJ.seq ?_
    refine SJ.block (id := 1) ?_
    refine SJ.seq ?_
    refine SJ.draw (id := 6) (kd := [0, 0, 0, 1, 0, 0, 0, 1, 0]) (bef := [0, 0, 3, 7, 0, 0, 48, 112, 255]) (ord := [0, 1, 2, 3, 4, 5, 6, 7, 8]) mixed ?_
    refine OJ.go 2 [(18, .int .i64 s1), (17, Sl.v a0)] ?_
    refine OJ.idxS (d := 19) (T := 67) (y := .tmp 17) (j := .tmp 18) (E := 3) (cap := a0.cap) (k := .i64) (fun p8 => ?_)
    refine OJ.ld (d := 20) (y := .tmp 19) (pend2 := fun x9 => [⟨3, 3, p8, (cI .i64).val x9⟩]) Ty3 (fun _ => rfl) (fun x9 => ?_)
    refine OJ.go 2 [(22, .int .i64 s1), (21, Sl.v a1)] ?_
    refine OJ.idxS (d := 23) (T := 67) (y := .tmp 21) (j := .tmp 22) (E := 3) (cap := a1.cap) (k := .i64) (fun p10 => ?_)
    refine OJ.ld (d := 24) (y := .tmp 23) (pend2 := fun x11 => [⟨7, 3, p10, (cI .i64).val x11⟩, ⟨3, 3, p8, (cI .i64).val x9⟩]) Ty3 (fun _ => rfl) (fun x11 => ?_)
    refine OJ.go 1 [(25, .bool (x9 != x11))] ?_
    refine OJ.nil ?_
    refine SJ.cond (t := (.tmp 25)) (b := (x9 != x11)) bne_iff_ne (fun hc12 => ?_) (fun hc12 => ?_)
    · refine SJ.sr 1 ?_
      refine OJ.go 1 [(4, .bool false)] ?_
      refine OJ.nil ?_
      exact SJ.ret rfl (Res.run (ys := [.bool false]) (.tmp (by kernel_rfl) .nil) rfl)
    · refine SJ.skip ?_
      refine SJ.inBlock ?_
      refine SJ.rg 3 ?_
      refine OJ.go 3 [(5, .int .i64 (IntKind.wrap .i64 (s1 + 1))), (16, .int .i64 (IntKind.wrap .i64 (s1 + 1))), (15, .int .i64 s1)] ?_
      refine OJ.nil ?_
      exact SJ.at_ [0, 1, 5] rfl
  · refine SJ.exit (id := 0) (by rfl) ?_
    refine SJ.sr 1 ?_
    refine OJ.go 1 [(4, .bool true)] ?_
    refine OJ.nil ?_
    exact SJ.ret rfl (Res.run (ys := [.bool true]) (.tmp (by kernel_rfl) .nil) rfl)
noncomputable def weirlaw3_same (a0 : Sl) (a1 : Sl) : M Bool :=
  if (a0.len : Int) ≠ (a1.len : Int) then
    pure false
  else
    loopM (fun s_ : Int => weirlaw3_same.L1 a0 a1 s_) 0
theorem weirlaw3_same_ok (a0 : Sl) (a1 : Sl) : Ref Try.prog 35 [Sl.v a0, Sl.v a1] (weirlaw3_same a0 a1) weirlaw3_same.out := by
  refine Ref.of (cd := weirlaw3_same.B) Try.func35 ?_
  show SJ weirlaw3_same.cx [.code weirlaw3_same.B] [(0, Sl.v a0), (1, Sl.v a1)] [] (weirlaw3_same a0 a1) weirlaw3_same.F0
  unfold weirlaw3_same
  refine SJ.sr 1 ?_
  refine OJ.go 1 [(4, .bool false)] ?_
  refine OJ.nil ?_
  refine SJ.seq ?_
  refine SJ.sr 5 ?_
  refine OJ.go 5 [(10, .bool ((a0.len : Int) != (a1.len : Int))), (9, .int .i64 (a1.len : Int)), (8, Sl.v a1), (7, .int .i64 (a0.len : Int)), (6, Sl.v a0)] ?_
  refine OJ.nil ?_
  refine SJ.cond (t := (.tmp 10)) (b := ((a0.len : Int) != (a1.len : Int))) bne_iff_ne (fun hc14 => ?_) (fun hc14 => ?_)
  · refine SJ.sr 1 ?_
    refine OJ.go 1 [(4, .bool false)] ?_
    refine OJ.nil ?_
    exact SJ.ret rfl (Res.run (ys := [.bool false]) (.tmp (by kernel_rfl) .nil) rfl)
  · refine SJ.skip ?_
    refine SJ.seq ?_
    refine SJ.sr 1 ?_
    refine OJ.go 1 [(5, .int .i64 0)] ?_
    refine OJ.nil ?_
    refine SJ.block (id := 0) ?_
    exact SJ.loop (fun s_ : Int => [(0, Sl.v a0), (1, Sl.v a1), (5, .int .i64 s_)]) (fun s_ : Int => []) [0, 1, 5] rfl (fun _ _ => rfl) (fun s_ => weirlaw3_same.L1_ok a0 a1 s_)

/-! ### (*weir/weirlaw3.Ints).Keep: function 36 -/
noncomputable def weirlaw3_Ints_Keep.B : Code := (Try.f36.body).getD .skip
noncomputable def weirlaw3_Ints_Keep.cx : Fx := ⟨Try.prog, 36, Try.f36⟩
noncomputable def weirlaw3_Ints_Keep.out (r_ : Unit) : Value := .tuple #[]
noncomputable def weirlaw3_Ints_Keep.F0 (r_ : Unit) : Reach := .ret (weirlaw3_Ints_Keep.out r_)
noncomputable def weirlaw3_Ints_Keep (a0 : (Option Addr)) (a1 : Sl) : M Unit :=
  appS (cI .i64) 3 8 0 Sl.nil a1 >>= fun r1 =>
  nilck a0 >>= fun p2 =>
  ld cL p2 >>= fun x3 =>
  slot 67 >>= fun b4 =>
  appl cL 67 24 Sl.nil x3 [a1] >>= fun r5 =>
  nilck a0 >>= fun p6 =>
  st cL p6 r5 >>= fun _ =>
  nilck a0 >>= fun p7 =>
  ld cL (Addr.add p7 1) >>= fun x8 =>
  slot 67 >>= fun b9 =>
  appl cL 67 24 Sl.nil x8 [r1] >>= fun r10 =>
  nilck a0 >>= fun p11 =>
  st cL (Addr.add p11 1) r10 >>= fun _ =>
  pure ()
theorem weirlaw3_Ints_Keep_ok (a0 : (Option Addr)) (a1 : Sl) : Ref Try.prog 36 [.pointer a0, Sl.v a1] (weirlaw3_Ints_Keep a0 a1) weirlaw3_Ints_Keep.out := by
  refine Ref.of (cd := weirlaw3_Ints_Keep.B) Try.func36 ?_
  show SJ weirlaw3_Ints_Keep.cx [.code weirlaw3_Ints_Keep.B] [(0, .pointer a0), (1, Sl.v a1)] [] (weirlaw3_Ints_Keep a0 a1) weirlaw3_Ints_Keep.F0
  unfold weirlaw3_Ints_Keep
  refine SJ.sr 1 ?_
  refine OJ.go 1 [(4, Sl.v Sl.nil)] ?_
  refine OJ.nil ?_
  refine SJ.sr 4 ?_
  refine OJ.go 2 [(6, Sl.v a1), (5, Sl.v Sl.nil)] ?_
  refine OJ.appS (d := 7) (t := 67) (u := 67) (so := .tmp 5) (xo := .tmp 6) (owed := []) Ty3 (fun r1 => ?_)
  refine OW.nil ?_
  refine OJ.go 1 [(4, Sl.v r1)] ?_
  refine OJ.nil ?_
  refine SJ.sr 11 ?_
  refine OJ.go 2 [(9, .pointer a0), (8, .pointer a0)] ?_
  refine OJ.nilck (d := 10) (y := .tmp 9) (fun p2 => ?_)
  refine OJ.go 1 [(11, .pointer (some p2))] ?_
  refine OJ.ld (d := 12) (y := .tmp 11) (pend2 := fun x3 => []) Ty74 (fun _ => rfl) (fun x3 => ?_)
  refine OJ.go 1 [(13, Sl.v a1)] ?_
  refine OJ.rowSlot (d := 14) (t := 74) (parts := [(0, .tmp 13)]) (ps := [(0, cL.val a1)]) (cd := cL) (⟨[a1], rfl⟩ : Vec Sl 1) (owed := []) Ty67 (Filled.cons (cd := cL) (q := a1) (o := 0) rfl (Upd.arr (i := 0) (by decide) (by decide)) Filled.nil) (fun b4 => ?_)
  refine OW.nil ?_
  refine OJ.appl (d := 15) (t := 74) (u := 74) (so := .tmp 12) (xo := .tmp 14) (j := 0) (b := b4) (l := (cL.arr 1).enc (⟨[a1], rfl⟩ : Vec Sl 1)) (n := 1) (k := 1) [a1] (owed := []) Ty67 (by rfl) (Cod.arr_enc _ _ _) (by rfl) (fun r5 => ?_)
  refine OW.nil ?_
  refine OJ.nilck (d := 16) (y := .tmp 8) (fun p6 => ?_)
  refine OJ.go 1 [(17, .pointer (some p6))] ?_
  refine OJ.st (y := .tmp 17) (z := .tmp 15) (owed := []) Ty74 ?_
  refine OW.nil ?_
  refine OJ.nil ?_
  refine SJ.rg 11 ?_
  refine OJ.go 2 [(19, .pointer a0), (18, .pointer a0)] ?_
  refine OJ.nilck (d := 20) (y := .tmp 19) (fun p7 => ?_)
  refine OJ.go 1 [(21, .pointer (some (Addr.add p7 1)))] ?_
  refine OJ.ld (d := 22) (y := .tmp 21) (pend2 := fun x8 => []) Ty74 (fun _ => rfl) (fun x8 => ?_)
  refine OJ.go 1 [(23, Sl.v r1)] ?_
  refine OJ.rowSlot (d := 24) (t := 74) (parts := [(0, .tmp 23)]) (ps := [(0, cL.val r1)]) (cd := cL) (⟨[r1], rfl⟩ : Vec Sl 1) (owed := []) Ty67 (Filled.cons (cd := cL) (q := r1) (o := 0) rfl (Upd.arr (i := 0) (by decide) (by decide)) Filled.nil) (fun b9 => ?_)
  refine OW.nil ?_
  refine OJ.appl (d := 25) (t := 74) (u := 74) (so := .tmp 22) (xo := .tmp 24) (j := 0) (b := b9) (l := (cL.arr 1).enc (⟨[r1], rfl⟩ : Vec Sl 1)) (n := 1) (k := 1) [r1] (owed := []) Ty67 (by rfl) (Cod.arr_enc _ _ _) (by rfl) (fun r10 => ?_)
  refine OW.nil ?_
  refine OJ.nilck (d := 26) (y := .tmp 18) (fun p11 => ?_)
  refine OJ.go 1 [(27, .pointer (some (Addr.add p11 1)))] ?_
  refine OJ.st (y := .tmp 27) (z := .tmp 25) (owed := []) Ty74 ?_
  refine OW.nil ?_
  refine OJ.nil ?_
  exact SJ.end_ rfl (Res.run (ys := []) .nil rfl)

/-! ### weir/weirlaw3.do: function 26 -/
noncomputable def weirlaw3_do.B : Code := (Try.f26.body).getD .skip
noncomputable def weirlaw3_do.cx : Fx := ⟨Try.prog, 26, Try.f26⟩
noncomputable def weirlaw3_do.out (r_ : Int) : Value := .int .i64 r_
noncomputable def weirlaw3_do.F0 (r_ : Int) : Reach := .ret (weirlaw3_do.out r_)
noncomputable def weirlaw3_do (a0 : (Option Addr)) (a1 : weirlaw3_Op) : M Int :=
  slot 45 >>= fun b1 =>
  if a1.Kind = 1 then
    ring_Port_Refill a0 a1.N >>= fun r506 =>
    pure 0
  else
    if a1.Kind = 2 then
      ring_Port_Arrive a0 a1.B >>= fun r758 =>
      weirlaw3_num r758 >>= fun r759 =>
      pure r759
    else
      if a1.Kind = 3 then
        ring_Port_Poll a0 >>= fun r884 =>
        pure 0
      else
        if a1.Kind = 4 then
          ring_Port_Take a0 >>= fun r946 =>
          weirlaw3_num r946.2.2 >>= fun r947 =>
          pure r947
        else
          if a1.Kind = 5 then
            ring_Port_Buffer a0 a1.I >>= fun r977 =>
            weirlaw3_num r977.2 >>= fun r978 =>
            pure r978
          else
            if a1.Kind = 6 then
              ring_Port_Release a0 a1.I >>= fun r992 =>
              weirlaw3_num r992 >>= fun r993 =>
              pure r993
            else
              if a1.Kind = 7 then
                ring_Port_Send a0 a1.I a1.N >>= fun r999 =>
                weirlaw3_num r999 >>= fun r1000 =>
                pure r1000
              else
                if a1.Kind = 8 then
                  ring_Port_Drain a0 >>= fun r1002 =>
                  pure 0
                else
                  pure 0
theorem weirlaw3_do_ok (a0 : (Option Addr)) (a1 : weirlaw3_Op) : Ref Try.prog 26 [.pointer a0, c_weirlaw3_Op.val a1] (weirlaw3_do a0 a1) weirlaw3_do.out := by
  refine Ref.of (cd := weirlaw3_do.B) Try.func26 ?_
  show SJ weirlaw3_do.cx [.code weirlaw3_do.B] [(0, .pointer a0), (1, c_weirlaw3_Op.val a1)] [] (weirlaw3_do a0 a1) weirlaw3_do.F0
  unfold weirlaw3_do
  refine SJ.sr 2 ?_
  refine OJ.slotOf (d := 3) (op := (.box 45 (.tmp 1))) (cd := c_weirlaw3_Op) (u := a1) (owed := []) (box_run (by kernel_rfl)) (fun b1 => ?_)
  refine OW.nil ?_
  refine OJ.go 1 [(4, .int .i64 0)] ?_
  refine OJ.nil ?_
  refine SJ.seq ?_
  refine SJ.sr 2 ?_
  refine OJ.go 1 [(10, .pointer (some (pt b1 0)))] ?_
  refine OJ.kld (d := 11) (y := .tmp 10) (cd := (cI .i64)) (j := 0) (b := b1) (o := 0) a1.Kind (pend2 := []) Ty3 rfl (At_weirlaw3_Op_Kind a1) rfl ?_
  refine OJ.nil ?_
  refine SJ.block (id := 0) ?_
  refine SJ.sr 2 ?_
  refine OJ.go 2 [(12, .bool (a1.Kind == 1)), (13, .bool (a1.Kind == 1))] ?_
  refine OJ.nil ?_
  refine SJ.cond (t := (.tmp 12)) (b := (a1.Kind == 1)) beq_iff_eq (fun hc1010 => ?_) (fun hc1010 => ?_)
  · refine SJ.rg 4 ?_
    refine OJ.go 2 [(15, .pointer (some (pt b1 3))), (14, .pointer a0)] ?_
    refine OJ.kld (d := 16) (y := .tmp 15) (cd := (cI .i64)) (j := 0) (b := b1) (o := 3) a1.N (pend2 := []) Ty3 rfl (At_weirlaw3_Op_N a1) rfl ?_
    refine OJ.call (d := 17) (g := 15) (ats := #[23, 3]) (args := [.tmp 14, .tmp 16]) (owed := []) F15 (ring_Port_Refill_ok a0 a1.N) (fun r506 => ?_)
    refine OW.nil ?_
    refine OJ.nil ?_
    refine SJ.inBlock ?_
    refine SJ.sr 1 ?_
    refine OJ.go 1 [(4, .int .i64 0)] ?_
    refine OJ.nil ?_
    exact SJ.ret rfl (Res.run (ys := [.int .i64 0]) (.tmp (by kernel_rfl) .nil) rfl)
  · refine SJ.sr 2 ?_
    refine OJ.go 2 [(18, .bool (a1.Kind == 2)), (19, .bool (a1.Kind == 2))] ?_
    refine OJ.nil ?_
    refine SJ.cond (t := (.tmp 18)) (b := (a1.Kind == 2)) beq_iff_eq (fun hc1009 => ?_) (fun hc1009 => ?_)
    · refine SJ.sr 6 ?_
      refine OJ.go 2 [(21, .pointer (some (pt b1 4))), (20, .pointer a0)] ?_
      refine OJ.kld (d := 22) (y := .tmp 21) (cd := cL) (j := 0) (b := b1) (o := 4) a1.B (pend2 := []) Ty22 rfl (At_weirlaw3_Op_B a1) rfl ?_
      refine OJ.call (d := 23) (g := 16) (ats := #[23, 22]) (args := [.tmp 20, .tmp 22]) (owed := []) F16 (ring_Port_Arrive_ok a0 a1.B) (fun r758 => ?_)
      refine OW.nil ?_
      refine OJ.call (d := 24) (g := 14) (ats := #[24]) (args := [.tmp 23]) (owed := []) F14 (weirlaw3_num_ok r758) (fun r759 => ?_)
      refine OW.nil ?_
      refine OJ.go 1 [(4, .int .i64 r759)] ?_
      refine OJ.nil ?_
      exact SJ.ret rfl (Res.run (ys := [.int .i64 r759]) (.tmp (by kernel_rfl) .nil) rfl)
    · refine SJ.sr 2 ?_
      refine OJ.go 2 [(25, .bool (a1.Kind == 3)), (26, .bool (a1.Kind == 3))] ?_
      refine OJ.nil ?_
      refine SJ.cond (t := (.tmp 25)) (b := (a1.Kind == 3)) beq_iff_eq (fun hc1008 => ?_) (fun hc1008 => ?_)
      · refine SJ.rg 2 ?_
        refine OJ.go 1 [(27, .pointer a0)] ?_
        refine OJ.call (d := 28) (g := 17) (ats := #[23]) (args := [.tmp 27]) (owed := []) F17 (ring_Port_Poll_ok a0) (fun r884 => ?_)
        refine OW.nil ?_
        refine OJ.nil ?_
        refine SJ.inBlock ?_
        refine SJ.sr 1 ?_
        refine OJ.go 1 [(4, .int .i64 0)] ?_
        refine OJ.nil ?_
        exact SJ.ret rfl (Res.run (ys := [.int .i64 0]) (.tmp (by kernel_rfl) .nil) rfl)
      · refine SJ.sr 2 ?_
        refine OJ.go 2 [(29, .bool (a1.Kind == 4)), (30, .bool (a1.Kind == 4))] ?_
        refine OJ.nil ?_
        refine SJ.cond (t := (.tmp 29)) (b := (a1.Kind == 4)) beq_iff_eq (fun hc1007 => ?_) (fun hc1007 => ?_)
        · refine SJ.sr 9 ?_
          refine OJ.go 1 [(32, .pointer a0)] ?_
          refine OJ.call (d := 33) (g := 25) (ats := #[23]) (args := [.tmp 32]) (owed := []) F25 (ring_Port_Take_ok a0) (fun r946 => ?_)
          refine OW.nil ?_
          refine OJ.go 7 [(7, .int .i64 r946.2.2), (6, Sl.v r946.2.1), (5, .int .i64 r946.1), (36, .int .i64 r946.2.2), (35, Sl.v r946.2.1), (34, .int .i64 r946.1), (31, .tuple #[.int .i64 r946.1, Sl.v r946.2.1, .int .i64 r946.2.2])] ?_
          refine OJ.nil ?_
          refine SJ.sr 3 ?_
          refine OJ.go 1 [(37, .int .i64 r946.2.2)] ?_
          refine OJ.call (d := 38) (g := 14) (ats := #[24]) (args := [.tmp 37]) (owed := []) F14 (weirlaw3_num_ok r946.2.2) (fun r947 => ?_)
          refine OW.nil ?_
          refine OJ.go 1 [(4, .int .i64 r947)] ?_
          refine OJ.nil ?_
          exact SJ.ret rfl (Res.run (ys := [.int .i64 r947]) (.tmp (by kernel_rfl) .nil) rfl)
        · refine SJ.sr 2 ?_
          refine OJ.go 2 [(39, .bool (a1.Kind == 5)), (40, .bool (a1.Kind == 5))] ?_
          refine OJ.nil ?_
          refine SJ.cond (t := (.tmp 39)) (b := (a1.Kind == 5)) beq_iff_eq (fun hc1006 => ?_) (fun hc1006 => ?_)
          · refine SJ.sr 9 ?_
            refine OJ.go 2 [(43, .pointer (some (pt b1 2))), (42, .pointer a0)] ?_
            refine OJ.kld (d := 44) (y := .tmp 43) (cd := (cI .i64)) (j := 0) (b := b1) (o := 2) a1.I (pend2 := []) Ty3 rfl (At_weirlaw3_Op_I a1) rfl ?_
            refine OJ.call (d := 45) (g := 18) (ats := #[23, 3]) (args := [.tmp 42, .tmp 44]) (owed := []) F18 (ring_Port_Buffer_ok a0 a1.I) (fun r977 => ?_)
            refine OW.nil ?_
            refine OJ.go 5 [(9, .int .i64 r977.2), (8, Sl.v r977.1), (47, .int .i64 r977.2), (46, Sl.v r977.1), (41, .tuple #[Sl.v r977.1, .int .i64 r977.2])] ?_
            refine OJ.nil ?_
            refine SJ.sr 3 ?_
            refine OJ.go 1 [(48, .int .i64 r977.2)] ?_
            refine OJ.call (d := 49) (g := 14) (ats := #[24]) (args := [.tmp 48]) (owed := []) F14 (weirlaw3_num_ok r977.2) (fun r978 => ?_)
            refine OW.nil ?_
            refine OJ.go 1 [(4, .int .i64 r978)] ?_
            refine OJ.nil ?_
            exact SJ.ret rfl (Res.run (ys := [.int .i64 r978]) (.tmp (by kernel_rfl) .nil) rfl)
          · refine SJ.sr 2 ?_
            refine OJ.go 2 [(50, .bool (a1.Kind == 6)), (51, .bool (a1.Kind == 6))] ?_
            refine OJ.nil ?_
            refine SJ.cond (t := (.tmp 50)) (b := (a1.Kind == 6)) beq_iff_eq (fun hc1005 => ?_) (fun hc1005 => ?_)
            · refine SJ.sr 6 ?_
              refine OJ.go 2 [(53, .pointer (some (pt b1 2))), (52, .pointer a0)] ?_
              refine OJ.kld (d := 54) (y := .tmp 53) (cd := (cI .i64)) (j := 0) (b := b1) (o := 2) a1.I (pend2 := []) Ty3 rfl (At_weirlaw3_Op_I a1) rfl ?_
              refine OJ.call (d := 55) (g := 24) (ats := #[23, 3]) (args := [.tmp 52, .tmp 54]) (owed := []) F24 (ring_Port_Release_ok a0 a1.I) (fun r992 => ?_)
              refine OW.nil ?_
              refine OJ.call (d := 56) (g := 14) (ats := #[24]) (args := [.tmp 55]) (owed := []) F14 (weirlaw3_num_ok r992) (fun r993 => ?_)
              refine OW.nil ?_
              refine OJ.go 1 [(4, .int .i64 r993)] ?_
              refine OJ.nil ?_
              exact SJ.ret rfl (Res.run (ys := [.int .i64 r993]) (.tmp (by kernel_rfl) .nil) rfl)
            · refine SJ.sr 2 ?_
              refine OJ.go 2 [(57, .bool (a1.Kind == 7)), (58, .bool (a1.Kind == 7))] ?_
              refine OJ.nil ?_
              refine SJ.cond (t := (.tmp 57)) (b := (a1.Kind == 7)) beq_iff_eq (fun hc1004 => ?_) (fun hc1004 => ?_)
              · refine SJ.sr 8 ?_
                refine OJ.go 2 [(60, .pointer (some (pt b1 2))), (59, .pointer a0)] ?_
                refine OJ.kld (d := 61) (y := .tmp 60) (cd := (cI .i64)) (j := 0) (b := b1) (o := 2) a1.I (pend2 := []) Ty3 rfl (At_weirlaw3_Op_I a1) rfl ?_
                refine OJ.go 1 [(62, .pointer (some (pt b1 3)))] ?_
                refine OJ.kld (d := 63) (y := .tmp 62) (cd := (cI .i64)) (j := 0) (b := b1) (o := 3) a1.N (pend2 := []) Ty3 rfl (At_weirlaw3_Op_N a1) rfl ?_
                refine OJ.call (d := 64) (g := 21) (ats := #[23, 3, 3]) (args := [.tmp 59, .tmp 61, .tmp 63]) (owed := []) F21 (ring_Port_Send_ok a0 a1.I a1.N) (fun r999 => ?_)
                refine OW.nil ?_
                refine OJ.call (d := 65) (g := 14) (ats := #[24]) (args := [.tmp 64]) (owed := []) F14 (weirlaw3_num_ok r999) (fun r1000 => ?_)
                refine OW.nil ?_
                refine OJ.go 1 [(4, .int .i64 r1000)] ?_
                refine OJ.nil ?_
                exact SJ.ret rfl (Res.run (ys := [.int .i64 r1000]) (.tmp (by kernel_rfl) .nil) rfl)
              · refine SJ.sr 2 ?_
                refine OJ.go 2 [(66, .bool (a1.Kind == 8)), (67, .bool (a1.Kind == 8))] ?_
                refine OJ.nil ?_
                refine SJ.cond (t := (.tmp 66)) (b := (a1.Kind == 8)) beq_iff_eq (fun hc1003 => ?_) (fun hc1003 => ?_)
                · refine SJ.rg 2 ?_
                  refine OJ.go 1 [(68, .pointer a0)] ?_
                  refine OJ.call (d := 69) (g := 22) (ats := #[23]) (args := [.tmp 68]) (owed := []) F22 (ring_Port_Drain_ok a0) (fun r1002 => ?_)
                  refine OW.nil ?_
                  refine OJ.nil ?_
                  refine SJ.inBlock ?_
                  refine SJ.sr 1 ?_
                  refine OJ.go 1 [(4, .int .i64 0)] ?_
                  refine OJ.nil ?_
                  exact SJ.ret rfl (Res.run (ys := [.int .i64 0]) (.tmp (by kernel_rfl) .nil) rfl)
                · refine SJ.skip ?_
                  refine SJ.inBlock ?_
                  refine SJ.sr 1 ?_
                  refine OJ.go 1 [(4, .int .i64 0)] ?_
                  refine OJ.nil ?_
                  exact SJ.ret rfl (Res.run (ys := [.int .i64 0]) (.tmp (by kernel_rfl) .nil) rfl)

/-! ### (*weir/weirlaw3.Book).Untouched: function 37 -/
noncomputable def weirlaw3_Book_Untouched.B : Code := (Try.f37.body).getD .skip
noncomputable def weirlaw3_Book_Untouched.cx : Fx := ⟨Try.prog, 37, Try.f37⟩
noncomputable def weirlaw3_Book_Untouched.out (r_ : Bool) : Value := .bool r_
noncomputable def weirlaw3_Book_Untouched.F0 (r_ : Bool) : Reach := .ret (weirlaw3_Book_Untouched.out r_)
noncomputable def weirlaw3_Book_Untouched.F1 (a0 : (Option Addr)) : (LS Int Bool) → Reach := loopF [.inLoop (c1 (c1 (c2 (c1 (c2 weirlaw3_Book_Untouched.B))))), .inBlock 0, .code (c2 (c2 weirlaw3_Book_Untouched.B))] (fun s_ : Int => [(0, .pointer a0), (3, .int .i64 s_)]) (fun s_ : Int => []) weirlaw3_Book_Untouched.F0
noncomputable def weirlaw3_Book_Untouched.L1 (a0 : (Option Addr)) (s1 : Int) : M (LS Int Bool) :=
  nilck a0 >>= fun p15 =>
  ld cL p15 >>= fun x16 =>
  if s1 < (x16.len : Int) then
    draw >>= fun _ =>
    nilck a0 >>= fun p17 =>
    ld cL p17 >>= fun x18 =>
    idx x18.a x18.len s1 1 >>= fun p19 =>
    ld cL p19 >>= fun x20 =>
    nilck a0 >>= fun p21 =>
    ld cL (Addr.add p21 1) >>= fun x22 =>
    idx x22.a x22.len s1 1 >>= fun p23 =>
    ld cL p23 >>= fun x24 =>
    weirlaw3_alike x20 x24 >>= fun r25 =>
    if ¬ (r25 = true) then
      pure (LS.done false)
    else
      pure (LS.next (IntKind.wrap .i64 (s1 + 1)))
  else
    pure (LS.done true)
theorem weirlaw3_Book_Untouched.L1_ok (a0 : (Option Addr)) (s1 : Int) :
    SJ weirlaw3_Book_Untouched.cx [.code (c1 (c1 (c2 (c1 (c2 weirlaw3_Book_Untouched.B))))), .inLoop (c1 (c1 (c2 (c1 (c2 weirlaw3_Book_Untouched.B))))), .inBlock 0, .code (c2 (c2 weirlaw3_Book_Untouched.B))] [(0, .pointer a0), (3, .int .i64 s1)] [] (weirlaw3_Book_Untouched.L1 a0 s1) (weirlaw3_Book_Untouched.F1 a0) := by
  unfold weirlaw3_Book_Untouched.L1
  refine SJ.seq ?_
  refine SJ.sr 7 ?_
  refine OJ.go 2 [(5, .pointer a0), (4, .int .i64 s1)] ?_
  refine OJ.nilck (d := 6) (y := .tmp 5) (fun p15 => ?_)
  refine OJ.go 1 [(7, .pointer (some p15))] ?_
  refine OJ.ld (d := 8) (y := .tmp 7) (pend2 := fun x16 => []) Ty43 (fun _ => rfl) (fun x16 => ?_)
  refine OJ.go 2 [(10, .bool (decide (s1 < (x16.len : Int)))), (9, .int .i64 (x16.len : Int))] ?_
  refine OJ.nil ?_
  refine SJ.cond (t := (.tmp 10)) (b := decide (s1 < (x16.len : Int))) decide_eq_true_iff (fun hc27 => ?_) (fun hc27 => ?_)
  · refine SJ.skip ?_
    refine SJ.seq ?_
    refine SJ.block (id := 1) ?_
    refine SJ.seq ?_
    refine SJ.draw (id := 4) (kd := [0, 0, 0, 1, 0, 0, 1, 0, 0, 0, 1, 0, 0, 1, 2, 0]) (bef := [0, 1, 3, 7, 0, 31, 63, 0, 128, 384, 896, 0, 3968, 8064, 16383, 32767]) (ord := [0, 1, 2, 3, 4, 5, 6, 7, 8, 9, 10, 11, 12, 13, 14, 15]) mixed ?_
    refine OJ.go 1 [(13, .pointer a0)] ?_
    refine OJ.nilck (d := 14) (y := .tmp 13) (fun p17 => ?_)
    refine OJ.go 1 [(15, .pointer (some p17))] ?_
    refine OJ.ld (d := 16) (y := .tmp 15) (pend2 := fun x18 => [⟨3, 43, p17, cL.val x18⟩]) Ty43 (fun _ => rfl) (fun x18 => ?_)
    refine OJ.go 1 [(17, .int .i64 s1)] ?_
    refine OJ.idxS (d := 18) (T := 43) (y := .tmp 16) (j := .tmp 17) (E := 22) (cap := x18.cap) (k := .i64) (fun p19 => ?_)
    refine OJ.ld (d := 19) (y := .tmp 18) (pend2 := fun x20 => [⟨6, 22, p19, cL.val x20⟩, ⟨3, 43, p17, cL.val x18⟩]) Ty22 (fun _ => rfl) (fun x20 => ?_)
    refine OJ.go 1 [(20, .pointer a0)] ?_
    refine OJ.nilck (d := 21) (y := .tmp 20) (fun p21 => ?_)
    refine OJ.go 1 [(22, .pointer (some (Addr.add p21 1)))] ?_
    refine OJ.ld (d := 23) (y := .tmp 22) (pend2 := fun x22 => [⟨10, 43, (Addr.add p21 1), cL.val x22⟩, ⟨6, 22, p19, cL.val x20⟩, ⟨3, 43, p17, cL.val x18⟩]) Ty43 (fun _ => rfl) (fun x22 => ?_)
    refine OJ.go 1 [(24, .int .i64 s1)] ?_
    refine OJ.idxS (d := 25) (T := 43) (y := .tmp 23) (j := .tmp 24) (E := 22) (cap := x22.cap) (k := .i64) (fun p23 => ?_)
    refine OJ.ld (d := 26) (y := .tmp 25) (pend2 := fun x24 => [⟨13, 22, p23, cL.val x24⟩, ⟨10, 43, (Addr.add p21 1), cL.val x22⟩, ⟨6, 22, p19, cL.val x20⟩, ⟨3, 43, p17, cL.val x18⟩]) Ty22 (fun _ => rfl) (fun x24 => ?_)
    refine OJ.call (d := 27) (g := 19) (ats := #[22, 22]) (args := [.tmp 19, .tmp 26]) (owed := []) F19 (weirlaw3_alike_ok x20 x24) (fun r25 => ?_)
    refine OW.nil ?_
    refine OJ.go 1 [(28, .bool (!r25))] ?_
    refine OJ.nil ?_
    refine SJ.cond (t := (.tmp 28)) (b := (!r25)) (bnot_iff Iff.rfl) (fun hc26 => ?_) (fun hc26 => ?_)
    · refine SJ.sr 1 ?_
      refine OJ.go 1 [(2, .bool false)] ?_
      refine OJ.nil ?_
      exact SJ.ret rfl (Res.run (ys := [.bool false]) (.tmp (by kernel_rfl) .nil) rfl)
    · refine SJ.skip ?_
      refine SJ.inBlock ?_
      refine SJ.rg 3 ?_
      refine OJ.go 3 [(3, .int .i64 (IntKind.wrap .i64 (s1 + 1))), (12, .int .i64 (IntKind.wrap .i64 (s1 + 1))), (11, .int .i64 s1)] ?_
      refine OJ.nil ?_
      exact SJ.at_ [0, 3] rfl
  · refine SJ.exit (id := 0) (by rfl) ?_
    refine SJ.sr 1 ?_
    refine OJ.go 1 [(2, .bool true)] ?_
    refine OJ.nil ?_
    exact SJ.ret rfl (Res.run (ys := [.bool true]) (.tmp (by kernel_rfl) .nil) rfl)
noncomputable def weirlaw3_Book_Untouched (a0 : (Option Addr)) : M Bool :=
  loopM (fun s_ : Int => weirlaw3_Book_Untouched.L1 a0 s_) 0
theorem weirlaw3_Book_Untouched_ok (a0 : (Option Addr)) : Ref Try.prog 37 [.pointer a0] (weirlaw3_Book_Untouched a0) weirlaw3_Book_Untouched.out := by
  refine Ref.of (cd := weirlaw3_Book_Untouched.B) Try.func37 ?_
  show SJ weirlaw3_Book_Untouched.cx [.code weirlaw3_Book_Untouched.B] [(0, .pointer a0)] [] (weirlaw3_Book_Untouched a0) weirlaw3_Book_Untouched.F0
  unfold weirlaw3_Book_Untouched
  refine SJ.sr 1 ?_
  refine OJ.go 1 [(2, .bool false)] ?_
  refine OJ.nil ?_
  refine SJ.seq ?_
  refine SJ.sr 1 ?_
  refine OJ.go 1 [(3, .int .i64 0)] ?_
  refine OJ.nil ?_
  refine SJ.block (id := 0) ?_
  exact SJ.loop (fun s_ : Int => [(0, .pointer a0), (3, .int .i64 s_)]) (fun s_ : Int => []) [0, 3] rfl (fun _ _ => rfl) (fun s_ => weirlaw3_Book_Untouched.L1_ok a0 s_)

/-! ### (*weir/weirlaw3.Ints).Untouched: function 38 -/
noncomputable def weirlaw3_Ints_Untouched.B : Code := (Try.f38.body).getD .skip
noncomputable def weirlaw3_Ints_Untouched.cx : Fx := ⟨Try.prog, 38, Try.f38⟩
noncomputable def weirlaw3_Ints_Untouched.out (r_ : Bool) : Value := .bool r_
noncomputable def weirlaw3_Ints_Untouched.F0 (r_ : Bool) : Reach := .ret (weirlaw3_Ints_Untouched.out r_)
noncomputable def weirlaw3_Ints_Untouched.F1 (a0 : (Option Addr)) : (LS Int Bool) → Reach := loopF [.inLoop (c1 (c1 (c2 (c1 (c2 weirlaw3_Ints_Untouched.B))))), .inBlock 0, .code (c2 (c2 weirlaw3_Ints_Untouched.B))] (fun s_ : Int => [(0, .pointer a0), (3, .int .i64 s_)]) (fun s_ : Int => []) weirlaw3_Ints_Untouched.F0
noncomputable def weirlaw3_Ints_Untouched.L1 (a0 : (Option Addr)) (s1 : Int) : M (LS Int Bool) :=
  nilck a0 >>= fun p15 =>
  ld cL p15 >>= fun x16 =>
  if s1 < (x16.len : Int) then
    draw >>= fun _ =>
    nilck a0 >>= fun p17 =>
    ld cL p17 >>= fun x18 =>
    idx x18.a x18.len s1 1 >>= fun p19 =>
    ld cL p19 >>= fun x20 =>
    nilck a0 >>= fun p21 =>
    ld cL (Addr.add p21 1) >>= fun x22 =>
    idx x22.a x22.len s1 1 >>= fun p23 =>
    ld cL p23 >>= fun x24 =>
    weirlaw3_same x20 x24 >>= fun r25 =>
    if ¬ (r25 = true) then
      pure (LS.done false)
    else
      pure (LS.next (IntKind.wrap .i64 (s1 + 1)))
  else
    pure (LS.done true)
theorem weirlaw3_Ints_Untouched.L1_ok (a0 : (Option Addr)) (s1 : Int) :
    SJ weirlaw3_Ints_Untouched.cx [.code (c1 (c1 (c2 (c1 (c2 weirlaw3_Ints_Untouched.B))))), .inLoop (c1 (c1 (c2 (c1 (c2 weirlaw3_Ints_Untouched.B))))), .inBlock 0, .code (c2 (c2 weirlaw3_Ints_Untouched.B))] [(0, .pointer a0), (3, .int .i64 s1)] [] (weirlaw3_Ints_Untouched.L1 a0 s1) (weirlaw3_Ints_Untouched.F1 a0) := by
  unfold weirlaw3_Ints_Untouched.L1
  refine SJ.seq ?_
  refine SJ.sr 7 ?_
  refine OJ.go 2 [(5, .pointer a0), (4, .int .i64 s1)] ?_
  refine OJ.nilck (d := 6) (y := .tmp 5) (fun p15 => ?_)
  refine OJ.go 1 [(7, .pointer (some p15))] ?_
  refine OJ.ld (d := 8) (y := .tmp 7) (pend2 := fun x16 => []) Ty74 (fun _ => rfl) (fun x16 => ?_)
  refine OJ.go 2 [(10, .bool (decide (s1 < (x16.len : Int)))), (9, .int .i64 (x16.len : Int))] ?_
  refine OJ.nil ?_
  refine SJ.cond (t := (.tmp 10)) (b := decide (s1 < (x16.len : Int))) decide_eq_true_iff (fun hc27 => ?_) (fun hc27 => ?_)
  · refine SJ.skip ?_
    refine SJ.seq ?_
    refine SJ.block (id := 1) ?_
    refine SJ.seq ?_
    refine SJ.draw (id := 4) (kd := [0, 0, 0, 1, 0, 0, 1, 0, 0, 0, 1, 0, 0, 1, 2, 0]) (bef := [0, 1, 3, 7, 0, 31, 63, 0, 128, 384, 896, 0, 3968, 8064, 16383, 32767]) (ord := [0, 1, 2, 3, 4, 5, 6, 7, 8, 9, 10, 11, 12, 13, 14, 15]) mixed ?_
    refine OJ.go 1 [(13, .pointer a0)] ?_
    refine OJ.nilck (d := 14) (y := .tmp 13) (fun p17 => ?_)
    refine OJ.go 1 [(15, .pointer (some p17))] ?_
    refine OJ.ld (d := 16) (y := .tmp 15) (pend2 := fun x18 => [⟨3, 74, p17, cL.val x18⟩]) Ty74 (fun _ => rfl) (fun x18 => ?_)
    refine OJ.go 1 [(17, .int .i64 s1)] ?_
    refine OJ.idxS (d := 18) (T := 74) (y := .tmp 16) (j := .tmp 17) (E := 67) (cap := x18.cap) (k := .i64) (fun p19 => ?_)
    refine OJ.ld (d := 19) (y := .tmp 18) (pend2 := fun x20 => [⟨6, 67, p19, cL.val x20⟩, ⟨3, 74, p17, cL.val x18⟩]) Ty67 (fun _ => rfl) (fun x20 => ?_)
    refine OJ.go 1 [(20, .pointer a0)] ?_
    refine OJ.nilck (d := 21) (y := .tmp 20) (fun p21 => ?_)
    refine OJ.go 1 [(22, .pointer (some (Addr.add p21 1)))] ?_
    refine OJ.ld (d := 23) (y := .tmp 22) (pend2 := fun x22 => [⟨10, 74, (Addr.add p21 1), cL.val x22⟩, ⟨6, 67, p19, cL.val x20⟩, ⟨3, 74, p17, cL.val x18⟩]) Ty74 (fun _ => rfl) (fun x22 => ?_)
    refine OJ.go 1 [(24, .int .i64 s1)] ?_
    refine OJ.idxS (d := 25) (T := 74) (y := .tmp 23) (j := .tmp 24) (E := 67) (cap := x22.cap) (k := .i64) (fun p23 => ?_)
    refine OJ.ld (d := 26) (y := .tmp 25) (pend2 := fun x24 => [⟨13, 67, p23, cL.val x24⟩, ⟨10, 74, (Addr.add p21 1), cL.val x22⟩, ⟨6, 67, p19, cL.val x20⟩, ⟨3, 74, p17, cL.val x18⟩]) Ty67 (fun _ => rfl) (fun x24 => ?_)
    refine OJ.call (d := 27) (g := 35) (ats := #[67, 67]) (args := [.tmp 19, .tmp 26]) (owed := []) F35 (weirlaw3_same_ok x20 x24) (fun r25 => ?_)
    refine OW.nil ?_
    refine OJ.go 1 [(28, .bool (!r25))] ?_
    refine OJ.nil ?_
    refine SJ.cond (t := (.tmp 28)) (b := (!r25)) (bnot_iff Iff.rfl) (fun hc26 => ?_) (fun hc26 => ?_)
    · refine SJ.sr 1 ?_
      refine OJ.go 1 [(2, .bool false)] ?_
      refine OJ.nil ?_
      exact SJ.ret rfl (Res.run (ys := [.bool false]) (.tmp (by kernel_rfl) .nil) rfl)
    · refine SJ.skip ?_
      refine SJ.inBlock ?_
      refine SJ.rg 3 ?_
      refine OJ.go 3 [(3, .int .i64 (IntKind.wrap .i64 (s1 + 1))), (12, .int .i64 (IntKind.wrap .i64 (s1 + 1))), (11, .int .i64 s1)] ?_
      refine OJ.nil ?_
      exact SJ.at_ [0, 3] rfl
  · refine SJ.exit (id := 0) (by rfl) ?_
    refine SJ.sr 1 ?_
    refine OJ.go 1 [(2, .bool true)] ?_
    refine OJ.nil ?_
    exact SJ.ret rfl (Res.run (ys := [.bool true]) (.tmp (by kernel_rfl) .nil) rfl)
noncomputable def weirlaw3_Ints_Untouched (a0 : (Option Addr)) : M Bool :=
  loopM (fun s_ : Int => weirlaw3_Ints_Untouched.L1 a0 s_) 0
theorem weirlaw3_Ints_Untouched_ok (a0 : (Option Addr)) : Ref Try.prog 38 [.pointer a0] (weirlaw3_Ints_Untouched a0) weirlaw3_Ints_Untouched.out := by
  refine Ref.of (cd := weirlaw3_Ints_Untouched.B) Try.func38 ?_
  show SJ weirlaw3_Ints_Untouched.cx [.code weirlaw3_Ints_Untouched.B] [(0, .pointer a0)] [] (weirlaw3_Ints_Untouched a0) weirlaw3_Ints_Untouched.F0
  unfold weirlaw3_Ints_Untouched
  refine SJ.sr 1 ?_
  refine OJ.go 1 [(2, .bool false)] ?_
  refine OJ.nil ?_
  refine SJ.seq ?_
  refine SJ.sr 1 ?_
  refine OJ.go 1 [(3, .int .i64 0)] ?_
  refine OJ.nil ?_
  refine SJ.block (id := 0) ?_
  exact SJ.loop (fun s_ : Int => [(0, .pointer a0), (3, .int .i64 s_)]) (fun s_ : Int => []) [0, 3] rfl (fun _ _ => rfl) (fun s_ => weirlaw3_Ints_Untouched.L1_ok a0 s_)

/-! ### weir/weirlaw3.full: function 54 -/
noncomputable def weirlaw3_full.B : Code := (Try.f54.body).getD .skip
noncomputable def weirlaw3_full.cx : Fx := ⟨Try.prog, 54, Try.f54⟩
noncomputable def weirlaw3_full.out (r_ : Bool) : Value := .bool r_
noncomputable def weirlaw3_full.F0 (r_ : Bool) : Reach := .ret (weirlaw3_full.out r_)
noncomputable def weirlaw3_full.F1 (a0 : Sl) (a1 : Int) : (LS Int Bool) → Reach := loopF [.inLoop (c1 (c1 (c2 (c1 (c2 weirlaw3_full.B))))), .inBlock 0, .code (c2 (c2 weirlaw3_full.B))] (fun s_ : Int => [(0, Sl.v a0), (1, .int .u8 a1), (5, .int .i64 s_)]) (fun s_ : Int => []) weirlaw3_full.F0
noncomputable def weirlaw3_full.L1 (a0 : Sl) (a1 : Int) (s1 : Int) : M (LS Int Bool) :=
  if s1 < (a0.len : Int) then
    idx a0.a a0.len s1 1 >>= fun p6 =>
    ld (cI .u8) p6 >>= fun x7 =>
    if x7 ≠ a1 then
      pure (LS.done false)
    else
      pure (LS.next (IntKind.wrap .i64 (s1 + 1)))
  else
    pure (LS.done true)
theorem weirlaw3_full.L1_ok (a0 : Sl) (a1 : Int) (s1 : Int) :
    SJ weirlaw3_full.cx [.code (c1 (c1 (c2 (c1 (c2 weirlaw3_full.B))))), .inLoop (c1 (c1 (c2 (c1 (c2 weirlaw3_full.B))))), .inBlock 0, .code (c2 (c2 weirlaw3_full.B))] [(0, Sl.v a0), (1, .int .u8 a1), (5, .int .i64 s1)] [] (weirlaw3_full.L1 a0 a1 s1) (weirlaw3_full.F1 a0 a1) := by
  unfold weirlaw3_full.L1
  refine SJ.seq ?_
  refine SJ.sr 4 ?_
  refine OJ.go 4 [(9, .bool (decide (s1 < (a0.len : Int)))), (8, .int .i64 (a0.len : Int)), (7, Sl.v a0), (6, .int .i64 s1)] ?_
  refine OJ.nil ?_
  refine SJ.cond (t := (.tmp 9)) (b := decide (s1 < (a0.len : Int))) decide_eq_true_iff (fun hc9 => ?_) (fun hc9 => ?_)
  · refine SJ.skip ?_
    refine SJ.seq ?_
    refine SJ.block (id := 1) ?_
    refine SJ.sr 6 ?_
    refine OJ.go 2 [(13, .int .i64 s1), (12, Sl.v a0)] ?_
    refine OJ.idxS (d := 14) (T := 22) (y := .tmp 12) (j := .tmp 13) (E := 5) (cap := a0.cap) (k := .i64) (fun p6 => ?_)
    refine OJ.ld (d := 15) (y := .tmp 14) (pend2 := fun x7 => []) Ty5 (fun _ => rfl) (fun x7 => ?_)
    refine OJ.go 2 [(17, .bool (x7 != a1)), (16, .int .u8 a1)] ?_
    refine OJ.nil ?_
    refine SJ.cond (t := (.tmp 17)) (b := (x7 != a1)) bne_iff_ne (fun hc8 => ?_) (fun hc8 => ?_)
    · refine SJ.sr 1 ?_
      refine OJ.go 1 [(4, .bool false)] ?_
      refine OJ.nil ?_
      exact SJ.ret rfl (Res.run (ys := [.bool false]) (.tmp (by kernel_rfl) .nil) rfl)
    · refine SJ.skip ?_
      refine SJ.inBlock ?_
      refine SJ.rg 3 ?_
      refine OJ.go 3 [(5, .int .i64 (IntKind.wrap .i64 (s1 + 1))), (11, .int .i64 (IntKind.wrap .i64 (s1 + 1))), (10, .int .i64 s1)] ?_
      refine OJ.nil ?_
      exact SJ.at_ [0, 1, 5] rfl
  · refine SJ.exit (id := 0) (by rfl) ?_
    refine SJ.sr 1 ?_
    refine OJ.go 1 [(4, .bool true)] ?_
    refine OJ.nil ?_
    exact SJ.ret rfl (Res.run (ys := [.bool true]) (.tmp (by kernel_rfl) .nil) rfl)
noncomputable def weirlaw3_full (a0 : Sl) (a1 : Int) : M Bool :=
  loopM (fun s_ : Int => weirlaw3_full.L1 a0 a1 s_) 0
theorem weirlaw3_full_ok (a0 : Sl) (a1 : Int) : Ref Try.prog 54 [Sl.v a0, .int .u8 a1] (weirlaw3_full a0 a1) weirlaw3_full.out := by
  refine Ref.of (cd := weirlaw3_full.B) Try.func54 ?_
  show SJ weirlaw3_full.cx [.code weirlaw3_full.B] [(0, Sl.v a0), (1, .int .u8 a1)] [] (weirlaw3_full a0 a1) weirlaw3_full.F0
  unfold weirlaw3_full
  refine SJ.sr 1 ?_
  refine OJ.go 1 [(4, .bool false)] ?_
  refine OJ.nil ?_
  refine SJ.seq ?_
  refine SJ.sr 1 ?_
  refine OJ.go 1 [(5, .int .i64 0)] ?_
  refine OJ.nil ?_
  refine SJ.block (id := 0) ?_
  exact SJ.loop (fun s_ : Int => [(0, Sl.v a0), (1, .int .u8 a1), (5, .int .i64 s_)]) (fun s_ : Int => []) [0, 1, 5] rfl (fun _ _ => rfl) (fun s_ => weirlaw3_full.L1_ok a0 a1 s_)

/-! ### (*weir/weirlaw3.Book).Settle: function 39 -/
noncomputable def weirlaw3_Book_Settle.B : Code := (Try.f39.body).getD .skip
noncomputable def weirlaw3_Book_Settle.cx : Fx := ⟨Try.prog, 39, Try.f39⟩
noncomputable def weirlaw3_Book_Settle.out (r_ : Bool) : Value := .bool r_
noncomputable def weirlaw3_Book_Settle.F0 (r_ : Bool) : Reach := .ret (weirlaw3_Book_Settle.out r_)
noncomputable def weirlaw3_Book_Settle.F1 (a0 : (Option Addr)) (s27 : Sl) : (LS Int Bool) → Reach := loopF [.inLoop (c1 (c1 (c2 (c1 (c2 (c2 (c2 (c2 (c2 weirlaw3_Book_Settle.B))))))))), .inBlock 8, .code (c2 (c2 (c2 (c2 (c2 (c2 weirlaw3_Book_Settle.B))))))] (fun s_ : Int => [(0, .pointer a0), (5, Sl.v s27), (9, .int .i64 s_)]) (fun s_ : Int => []) weirlaw3_Book_Settle.F0
noncomputable def weirlaw3_Book_Settle.L1 (a0 : (Option Addr)) (s27 : Sl) (s47 : Int) : M (LS Int Bool) :=
  nilck a0 >>= fun p61 =>
  ld cL p61 >>= fun x62 =>
  if s47 < (x62.len : Int) then
    nilck a0 >>= fun p63 =>
    ld cL p63 >>= fun x64 =>
    idx x64.a x64.len s47 1 >>= fun p65 =>
    ld cL p65 >>= fun x66 =>
    weirlaw3_full x66 (IntKind.wrap .u8 (IntKind.wrap .i64 (1 + (Int.tmod s47 251)))) >>= fun r67 =>
    (if ¬ (r67 = true) then
        pure true
      else
        idx s27.a s27.len s47 1 >>= fun p68 =>
        ld cL p68 >>= fun x69 =>
        weirlaw3_full x69 (IntKind.wrap .u8 (IntKind.wrap .i64 (1 + (Int.tmod s47 251)))) >>= fun r70 =>
        pure (!r70)) >>= fun y71 =>
    if y71 = true then
      pure (LS.done false)
    else
      pure (LS.next (IntKind.wrap .i64 (s47 + 1)))
  else
    pure (LS.done true)
theorem weirlaw3_Book_Settle.L1_ok (a0 : (Option Addr)) (s27 : Sl) (s47 : Int) :
    SJ weirlaw3_Book_Settle.cx [.code (c1 (c1 (c2 (c1 (c2 (c2 (c2 (c2 (c2 weirlaw3_Book_Settle.B))))))))), .inLoop (c1 (c1 (c2 (c1 (c2 (c2 (c2 (c2 (c2 weirlaw3_Book_Settle.B))))))))), .inBlock 8, .code (c2 (c2 (c2 (c2 (c2 (c2 weirlaw3_Book_Settle.B))))))] [(0, .pointer a0), (5, Sl.v s27), (9, .int .i64 s47)] [] (weirlaw3_Book_Settle.L1 a0 s27 s47) (weirlaw3_Book_Settle.F1 a0 s27) := by
  unfold weirlaw3_Book_Settle.L1
  refine SJ.seq ?_
  refine SJ.sr 7 ?_
  refine OJ.go 2 [(83, .pointer a0), (82, .int .i64 s47)] ?_
  refine OJ.nilck (d := 84) (y := .tmp 83) (fun p61 => ?_)
  refine OJ.go 1 [(85, .pointer (some p61))] ?_
  refine OJ.ld (d := 86) (y := .tmp 85) (pend2 := fun x62 => []) Ty43 (fun _ => rfl) (fun x62 => ?_)
  refine OJ.go 2 [(88, .bool (decide (s47 < (x62.len : Int)))), (87, .int .i64 (x62.len : Int))] ?_
  refine OJ.nil ?_
  refine SJ.cond (t := (.tmp 88)) (b := decide (s47 < (x62.len : Int))) decide_eq_true_iff (fun hc73 => ?_) (fun hc73 => ?_)
  · refine SJ.skip ?_
    refine SJ.seq ?_
    refine SJ.block (id := 9) ?_
    refine SJ.sr 25 ?_
    refine OJ.go 1 [(91, .pointer a0)] ?_
    refine OJ.nilck (d := 92) (y := .tmp 91) (fun p63 => ?_)
    refine OJ.go 1 [(93, .pointer (some p63))] ?_
    refine OJ.ld (d := 94) (y := .tmp 93) (pend2 := fun x64 => []) Ty43 (fun _ => rfl) (fun x64 => ?_)
    refine OJ.go 1 [(95, .int .i64 s47)] ?_
    refine OJ.idxS (d := 96) (T := 43) (y := .tmp 94) (j := .tmp 95) (E := 22) (cap := x64.cap) (k := .i64) (fun p65 => ?_)
    refine OJ.ld (d := 97) (y := .tmp 96) (pend2 := fun x66 => []) Ty22 (fun _ => rfl) (fun x66 => ?_)
    refine OJ.go 4 [(101, .int .u8 (IntKind.wrap .u8 (IntKind.wrap .i64 (1 + (Int.tmod s47 251))))), (100, .int .i64 (IntKind.wrap .i64 (1 + (Int.tmod s47 251)))), (99, .int .i64 (Int.tmod s47 251)), (98, .int .i64 s47)] ?_
    refine OJ.call (d := 102) (g := 54) (ats := #[22, 5]) (args := [.tmp 97, .tmp 101]) (owed := []) F54 (weirlaw3_full_ok x66 (IntKind.wrap .u8 (IntKind.wrap .i64 (1 + (Int.tmod s47 251))))) (fun r67 => ?_)
    refine OW.nil ?_
    refine OJ.go 2 [(104, .bool (!r67)), (103, .bool (!r67))] ?_
    refine OJ.join (b := (!r67)) [14, 15, 16, 17, 18, 19, 20, 21, 22, 23, 24] [] [0, 5, 9, 115] (fun y71 => [(0, .pointer a0), (5, Sl.v s27), (9, .int .i64 s47), (115, .bool y71)]) [] [] (t := 104) (bnot_iff Iff.rfl) (fun hp_ => ?_) (fun hp_ => ?_) (fun _ _ _ _ _ _ h_ => h_) (fun y71 => ?_)
    · refine OJ.go 11 [(115, .bool true), (114, undef), (113, undef), (112, undef), (111, undef), (110, undef), (109, undef), (108, undef), (107, undef), (106, undef), (105, undef)] ?_
      exact OJ.nil ⟨(Cov.mem Cov.nil), rfl, _, rfl, by kernel_rfl⟩
    · refine OJ.go 2 [(106, .int .i64 s47), (105, Sl.v s27)] ?_
      refine OJ.idxS (d := 107) (T := 43) (y := .tmp 105) (j := .tmp 106) (E := 22) (cap := s27.cap) (k := .i64) (fun p68 => ?_)
      refine OJ.ld (d := 108) (y := .tmp 107) (pend2 := fun x69 => []) Ty22 (fun _ => rfl) (fun x69 => ?_)
      refine OJ.go 4 [(112, .int .u8 (IntKind.wrap .u8 (IntKind.wrap .i64 (1 + (Int.tmod s47 251))))), (111, .int .i64 (IntKind.wrap .i64 (1 + (Int.tmod s47 251)))), (110, .int .i64 (Int.tmod s47 251)), (109, .int .i64 s47)] ?_
      refine OJ.call (d := 113) (g := 54) (ats := #[22, 5]) (args := [.tmp 108, .tmp 112]) (owed := []) F54 (weirlaw3_full_ok x69 (IntKind.wrap .u8 (IntKind.wrap .i64 (1 + (Int.tmod s47 251))))) (fun r70 => ?_)
      refine OW.nil ?_
      refine OJ.go 2 [(115, .bool (!r70)), (114, .bool (!r70))] ?_
      exact OJ.nil ⟨(Cov.mem Cov.nil), rfl, _, rfl, by kernel_rfl⟩
    · refine OJ.nil ?_
      refine SJ.cond (t := (.tmp 115)) (b := y71) Iff.rfl (fun hc72 => ?_) (fun hc72 => ?_)
      · refine SJ.sr 1 ?_
        refine OJ.go 1 [(2, .bool false)] ?_
        refine OJ.nil ?_
        exact SJ.ret rfl (Res.run (ys := [.bool false]) (.tmp (by kernel_rfl) .nil) rfl)
      · refine SJ.skip ?_
        refine SJ.inBlock ?_
        refine SJ.rg 3 ?_
        refine OJ.go 3 [(9, .int .i64 (IntKind.wrap .i64 (s47 + 1))), (90, .int .i64 (IntKind.wrap .i64 (s47 + 1))), (89, .int .i64 s47)] ?_
        refine OJ.nil ?_
        exact SJ.at_ [0, 5, 9] rfl
  · refine SJ.exit (id := 8) (by rfl) ?_
    refine SJ.sr 1 ?_
    refine OJ.go 1 [(2, .bool true)] ?_
    refine OJ.nil ?_
    exact SJ.ret rfl (Res.run (ys := [.bool true]) (.tmp (by kernel_rfl) .nil) rfl)
noncomputable def weirlaw3_Book_Settle.K1 (a0 : (Option Addr)) (s27 : Sl) : M Bool :=
  loopM (fun s_ : Int => weirlaw3_Book_Settle.L1 a0 s27 s_) 0
theorem weirlaw3_Book_Settle.K1_ok (a0 : (Option Addr)) (s27 : Sl) :
    SJ weirlaw3_Book_Settle.cx [.code (c2 (c2 (c2 (c2 (c2 weirlaw3_Book_Settle.B)))))] [(0, .pointer a0), (5, Sl.v s27)] [] (weirlaw3_Book_Settle.K1 a0 s27) weirlaw3_Book_Settle.F0 := by
  unfold weirlaw3_Book_Settle.K1
  refine SJ.seq ?_
  refine SJ.sr 1 ?_
  refine OJ.go 1 [(9, .int .i64 0)] ?_
  refine OJ.nil ?_
  refine SJ.block (id := 8) ?_
  exact SJ.loop (fun s_ : Int => [(0, .pointer a0), (5, Sl.v s27), (9, .int .i64 s_)]) (fun s_ : Int => []) [0, 5, 9] rfl (fun _ _ => rfl) (fun s_ => weirlaw3_Book_Settle.L1_ok a0 s27 s_)
noncomputable def weirlaw3_Book_Settle.F2 (a0 : (Option Addr)) : (LS (Sl × Int) Bool) → Reach := loopF [.inLoop (c1 (c1 (c2 (c1 (c2 (c2 (c2 (c2 weirlaw3_Book_Settle.B)))))))), .inBlock 4, .code (c2 (c2 (c2 (c2 (c2 weirlaw3_Book_Settle.B)))))] (fun s_ : (Sl × Int) => [(0, .pointer a0), (5, Sl.v s_.1), (6, .int .i64 s_.2)]) (fun s_ : (Sl × Int) => []) weirlaw3_Book_Settle.F0
noncomputable def weirlaw3_Book_Settle.F3 (a0 : (Option Addr)) (s27 : Sl) (s28 : Int) (x79 : Sl) : (LS Sl (LS (Sl × Int) Bool)) → Reach := loopF [.inLoop (c1 (c1 (c1 (c2 (c2 (c1 (c1 (c2 (c1 (c1 (c2 (c1 (c2 (c2 (c2 (c2 weirlaw3_Book_Settle.B)))))))))))))))), .inBlock 6, .code (c2 (c2 (c2 (c1 (c1 (c2 (c1 (c1 (c2 (c1 (c2 (c2 (c2 (c2 weirlaw3_Book_Settle.B)))))))))))))), .inBlock 5, .code (c2 (c2 (c1 (c1 (c2 (c1 (c2 (c2 (c2 (c2 weirlaw3_Book_Settle.B)))))))))), .inLoop (c1 (c1 (c2 (c1 (c2 (c2 (c2 (c2 weirlaw3_Book_Settle.B)))))))), .inBlock 4, .code (c2 (c2 (c2 (c2 (c2 weirlaw3_Book_Settle.B)))))] (fun s_ : Sl => [(0, .pointer a0), (5, Sl.v s27), (6, .int .i64 s28), (7, Sl.v s_), (8, .int .i64 (IntKind.wrap .i64 ((IntKind.wrap .i64 (2 * (x79.len : Int))) + 70)))]) (fun s_ : Sl => []) (weirlaw3_Book_Settle.F2 a0)
noncomputable def weirlaw3_Book_Settle.L3 (s27 : Sl) (s28 : Int) (x79 : Sl) (s80 : Sl) : M (LS Sl (LS (Sl × Int) Bool)) :=
  if (s80.len : Int) < (IntKind.wrap .i64 ((IntKind.wrap .i64 (2 * (x79.len : Int))) + 70)) then
    slot 5 >>= fun b86 =>
    appl (cI .u8) 5 1 0 s80 [IntKind.wrap .u8 (IntKind.wrap .i64 (1 + (Int.tmod s28 251)))] >>= fun r87 =>
    pure (LS.next r87)
  else
    slot 22 >>= fun b88 =>
    appl cL 22 24 Sl.nil s27 [s80] >>= fun r89 =>
    pure (LS.done (LS.next (r89, IntKind.wrap .i64 (s28 + 1))))
theorem weirlaw3_Book_Settle.L3_ok (a0 : (Option Addr)) (s27 : Sl) (s28 : Int) (x79 : Sl) (s80 : Sl) :
    SJ weirlaw3_Book_Settle.cx [.code (c1 (c1 (c1 (c2 (c2 (c1 (c1 (c2 (c1 (c1 (c2 (c1 (c2 (c2 (c2 (c2 weirlaw3_Book_Settle.B)))))))))))))))), .inLoop (c1 (c1 (c1 (c2 (c2 (c1 (c1 (c2 (c1 (c1 (c2 (c1 (c2 (c2 (c2 (c2 weirlaw3_Book_Settle.B)))))))))))))))), .inBlock 6, .code (c2 (c2 (c2 (c1 (c1 (c2 (c1 (c1 (c2 (c1 (c2 (c2 (c2 (c2 weirlaw3_Book_Settle.B)))))))))))))), .inBlock 5, .code (c2 (c2 (c1 (c1 (c2 (c1 (c2 (c2 (c2 (c2 weirlaw3_Book_Settle.B)))))))))), .inLoop (c1 (c1 (c2 (c1 (c2 (c2 (c2 (c2 weirlaw3_Book_Settle.B)))))))), .inBlock 4, .code (c2 (c2 (c2 (c2 (c2 weirlaw3_Book_Settle.B)))))] [(0, .pointer a0), (5, Sl.v s27), (6, .int .i64 s28), (7, Sl.v s80), (8, .int .i64 (IntKind.wrap .i64 ((IntKind.wrap .i64 (2 * (x79.len : Int))) + 70)))] [] (weirlaw3_Book_Settle.L3 s27 s28 x79 s80) (weirlaw3_Book_Settle.F3 a0 s27 s28 x79) := by
  unfold weirlaw3_Book_Settle.L3
  refine SJ.seq ?_
  refine SJ.sr 4 ?_
  refine OJ.go 4 [(70, .bool (decide ((s80.len : Int) < (IntKind.wrap .i64 ((IntKind.wrap .i64 (2 * (x79.len : Int))) + 70))))), (69, .int .i64 (IntKind.wrap .i64 ((IntKind.wrap .i64 (2 * (x79.len : Int))) + 70))), (68, .int .i64 (s80.len : Int)), (67, Sl.v s80)] ?_
  refine OJ.nil ?_
  refine SJ.cond (t := (.tmp 70)) (b := decide ((s80.len : Int) < (IntKind.wrap .i64 ((IntKind.wrap .i64 (2 * (x79.len : Int))) + 70)))) decide_eq_true_iff (fun hc90 => ?_) (fun hc90 => ?_)
  · refine SJ.skip ?_
    refine SJ.block (id := 7) ?_
    refine SJ.rg 8 ?_
    refine OJ.go 5 [(75, .int .u8 (IntKind.wrap .u8 (IntKind.wrap .i64 (1 + (Int.tmod s28 251))))), (74, .int .i64 (IntKind.wrap .i64 (1 + (Int.tmod s28 251)))), (73, .int .i64 (Int.tmod s28 251)), (72, .int .i64 s28), (71, Sl.v s80)] ?_
    refine OJ.rowSlot (d := 76) (t := 22) (parts := [(0, .tmp 75)]) (ps := [(0, (cI .u8).val (IntKind.wrap .u8 (IntKind.wrap .i64 (1 + (Int.tmod s28 251)))))]) (cd := (cI .u8)) (⟨[IntKind.wrap .u8 (IntKind.wrap .i64 (1 + (Int.tmod s28 251)))], rfl⟩ : Vec Int 1) (owed := []) Ty5 (Filled.cons (cd := (cI .u8)) (q := (IntKind.wrap .u8 (IntKind.wrap .i64 (1 + (Int.tmod s28 251))))) (o := 0) rfl (Upd.arr (i := 0) (by decide) (by decide)) Filled.nil) (fun b86 => ?_)
    refine OW.nil ?_
    refine OJ.appl (d := 77) (t := 22) (u := 22) (so := .tmp 71) (xo := .tmp 76) (j := 0) (b := b86) (l := ((cI .u8).arr 1).enc (⟨[IntKind.wrap .u8 (IntKind.wrap .i64 (1 + (Int.tmod s28 251)))], rfl⟩ : Vec Int 1)) (n := 1) (k := 1) [IntKind.wrap .u8 (IntKind.wrap .i64 (1 + (Int.tmod s28 251)))] (owed := []) Ty5 (by rfl) (Cod.arr_enc _ _ _) (by rfl) (fun r87 => ?_)
    refine OW.nil ?_
    refine OJ.go 1 [(7, Sl.v r87)] ?_
    refine OJ.nil ?_
    refine SJ.inBlock ?_
    refine SJ.forget (List.Sublist.cons _ List.Sublist.slnil) ?_
    exact SJ.at_ [0, 5, 6, 7, 8] rfl
  · refine SJ.exit (id := 6) (by rfl) ?_
    refine SJ.rg 5 ?_
    refine OJ.go 2 [(79, Sl.v s80), (78, Sl.v s27)] ?_
    refine OJ.rowSlot (d := 80) (t := 43) (parts := [(0, .tmp 79)]) (ps := [(0, cL.val s80)]) (cd := cL) (⟨[s80], rfl⟩ : Vec Sl 1) (owed := []) Ty22 (Filled.cons (cd := cL) (q := s80) (o := 0) rfl (Upd.arr (i := 0) (by decide) (by decide)) Filled.nil) (fun b88 => ?_)
    refine OW.nil ?_
    refine OJ.appl (d := 81) (t := 43) (u := 43) (so := .tmp 78) (xo := .tmp 80) (j := 0) (b := b88) (l := (cL.arr 1).enc (⟨[s80], rfl⟩ : Vec Sl 1)) (n := 1) (k := 1) [s80] (owed := []) Ty22 (by rfl) (Cod.arr_enc _ _ _) (by rfl) (fun r89 => ?_)
    refine OW.nil ?_
    refine OJ.go 1 [(5, Sl.v r89)] ?_
    refine OJ.nil ?_
    refine SJ.inBlock ?_
    refine SJ.rg 3 ?_
    refine OJ.go 3 [(6, .int .i64 (IntKind.wrap .i64 (s28 + 1))), (55, .int .i64 (IntKind.wrap .i64 (s28 + 1))), (54, .int .i64 s28)] ?_
    refine OJ.nil ?_
    refine SJ.forget (List.Sublist.cons _ List.Sublist.slnil) ?_
    exact SJ.at_ [0, 5, 6] rfl
noncomputable def weirlaw3_Book_Settle.L2 (a0 : (Option Addr)) (s27 : Sl) (s28 : Int) : M (LS (Sl × Int) Bool) :=
  nilck a0 >>= fun p74 =>
  ld cL p74 >>= fun x75 =>
  if s28 < (x75.len : Int) then
    nilck a0 >>= fun p76 =>
    ld cL p76 >>= fun x77 =>
    idx x77.a x77.len s28 1 >>= fun p78 =>
    ld cL p78 >>= fun x79 =>
    loopM (fun s_ : Sl => weirlaw3_Book_Settle.L3 s27 s28 x79 s_) x79
  else
    (weirlaw3_Book_Settle.K1 a0 s27) >>= fun b => pure (LS.done b)
theorem weirlaw3_Book_Settle.L2_ok (a0 : (Option Addr)) (s27 : Sl) (s28 : Int) :
    SJ weirlaw3_Book_Settle.cx [.code (c1 (c1 (c2 (c1 (c2 (c2 (c2 (c2 weirlaw3_Book_Settle.B)))))))), .inLoop (c1 (c1 (c2 (c1 (c2 (c2 (c2 (c2 weirlaw3_Book_Settle.B)))))))), .inBlock 4, .code (c2 (c2 (c2 (c2 (c2 weirlaw3_Book_Settle.B)))))] [(0, .pointer a0), (5, Sl.v s27), (6, .int .i64 s28)] [] (weirlaw3_Book_Settle.L2 a0 s27 s28) (weirlaw3_Book_Settle.F2 a0) := by
  unfold weirlaw3_Book_Settle.L2
  refine SJ.seq ?_
  refine SJ.sr 7 ?_
  refine OJ.go 2 [(48, .pointer a0), (47, .int .i64 s28)] ?_
  refine OJ.nilck (d := 49) (y := .tmp 48) (fun p74 => ?_)
  refine OJ.go 1 [(50, .pointer (some p74))] ?_
  refine OJ.ld (d := 51) (y := .tmp 50) (pend2 := fun x75 => []) Ty43 (fun _ => rfl) (fun x75 => ?_)
  refine OJ.go 2 [(53, .bool (decide (s28 < (x75.len : Int)))), (52, .int .i64 (x75.len : Int))] ?_
  refine OJ.nil ?_
  refine SJ.cond (t := (.tmp 53)) (b := decide (s28 < (x75.len : Int))) decide_eq_true_iff (fun hc91 => ?_) (fun hc91 => ?_)
  · refine SJ.skip ?_
    refine SJ.seq ?_
    refine SJ.block (id := 5) ?_
    refine SJ.sr 8 ?_
    refine OJ.go 1 [(56, .pointer a0)] ?_
    refine OJ.nilck (d := 57) (y := .tmp 56) (fun p76 => ?_)
    refine OJ.go 1 [(58, .pointer (some p76))] ?_
    refine OJ.ld (d := 59) (y := .tmp 58) (pend2 := fun x77 => []) Ty43 (fun _ => rfl) (fun x77 => ?_)
    refine OJ.go 1 [(60, .int .i64 s28)] ?_
    refine OJ.idxS (d := 61) (T := 43) (y := .tmp 59) (j := .tmp 60) (E := 22) (cap := x77.cap) (k := .i64) (fun p78 => ?_)
    refine OJ.ld (d := 62) (y := .tmp 61) (pend2 := fun x79 => []) Ty22 (fun _ => rfl) (fun x79 => ?_)
    refine OJ.go 1 [(7, Sl.v x79)] ?_
    refine OJ.nil ?_
    refine SJ.sr 5 ?_
    refine OJ.go 5 [(8, .int .i64 (IntKind.wrap .i64 ((IntKind.wrap .i64 (2 * (x79.len : Int))) + 70))), (66, .int .i64 (IntKind.wrap .i64 ((IntKind.wrap .i64 (2 * (x79.len : Int))) + 70))), (65, .int .i64 (IntKind.wrap .i64 (2 * (x79.len : Int)))), (64, .int .i64 (x79.len : Int)), (63, Sl.v x79)] ?_
    refine OJ.nil ?_
    refine SJ.seq ?_
    refine SJ.block (id := 6) ?_
    exact SJ.loop (fun s_ : Sl => [(0, .pointer a0), (5, Sl.v s27), (6, .int .i64 s28), (7, Sl.v s_), (8, .int .i64 (IntKind.wrap .i64 ((IntKind.wrap .i64 (2 * (x79.len : Int))) + 70)))]) (fun s_ : Sl => []) [0, 5, 6, 7, 8] rfl (fun _ _ => rfl) (fun s_ => weirlaw3_Book_Settle.L3_ok a0 s27 s28 x79 s_)
  · refine SJ.exit (id := 4) (by rfl) ?_
    refine SJ.less [0, 5] (m' := [(0, .pointer a0), (5, Sl.v s27)]) ?_
    refine SJ.done ?_
    exact weirlaw3_Book_Settle.K1_ok a0 s27
noncomputable def weirlaw3_Book_Settle.K2 (a0 : (Option Addr)) : M Bool :=
  loopM (fun s_ : (Sl × Int) => weirlaw3_Book_Settle.L2 a0 s_.1 s_.2) (Sl.nil, 0)
theorem weirlaw3_Book_Settle.K2_ok (a0 : (Option Addr)) :
    SJ weirlaw3_Book_Settle.cx [.code (c2 (c2 (c2 weirlaw3_Book_Settle.B)))] [(0, .pointer a0)] [] (weirlaw3_Book_Settle.K2 a0) weirlaw3_Book_Settle.F0 := by
  unfold weirlaw3_Book_Settle.K2
  refine SJ.sr 1 ?_
  refine OJ.go 1 [(5, Sl.v Sl.nil)] ?_
  refine OJ.nil ?_
  refine SJ.seq ?_
  refine SJ.sr 1 ?_
  refine OJ.go 1 [(6, .int .i64 0)] ?_
  refine OJ.nil ?_
  refine SJ.block (id := 4) ?_
  exact SJ.loop (fun s_ : (Sl × Int) => [(0, .pointer a0), (5, Sl.v s_.1), (6, .int .i64 s_.2)]) (fun s_ : (Sl × Int) => []) [0, 5, 6] rfl (fun _ _ => rfl) (fun s_ => weirlaw3_Book_Settle.L2_ok a0 s_.1 s_.2)
noncomputable def weirlaw3_Book_Settle.F4 (a0 : (Option Addr)) : (LS Int Bool) → Reach := loopF [.inLoop (c1 (c1 (c2 (c1 (c2 (c2 weirlaw3_Book_Settle.B)))))), .inBlock 0, .code (c2 (c2 (c2 weirlaw3_Book_Settle.B)))] (fun s_ : Int => [(0, .pointer a0), (3, .int .i64 s_)]) (fun s_ : Int => []) weirlaw3_Book_Settle.F0
noncomputable def weirlaw3_Book_Settle.F5 (a0 : (Option Addr)) (s2 : Int) : (LS Int (LS Int Bool)) → Reach := loopF [.inLoop (c1 (c1 (c2 (c1 (c1 (c2 (c1 (c1 (c2 (c1 (c2 (c2 weirlaw3_Book_Settle.B)))))))))))), .inBlock 2, .inBlock 1, .code (c2 (c2 (c1 (c1 (c2 (c1 (c2 (c2 weirlaw3_Book_Settle.B)))))))), .inLoop (c1 (c1 (c2 (c1 (c2 (c2 weirlaw3_Book_Settle.B)))))), .inBlock 0, .code (c2 (c2 (c2 weirlaw3_Book_Settle.B)))] (fun s_ : Int => [(0, .pointer a0), (3, .int .i64 s2), (4, .int .i64 s_)]) (fun s_ : Int => []) (weirlaw3_Book_Settle.F4 a0)
noncomputable def weirlaw3_Book_Settle.L5 (a0 : (Option Addr)) (s2 : Int) (s94 : Int) : M (LS Int (LS Int Bool)) :=
  nilck a0 >>= fun p105 =>
  ld cL p105 >>= fun x106 =>
  idx x106.a x106.len s2 1 >>= fun p107 =>
  ld cL p107 >>= fun x108 =>
  if s94 < (x108.len : Int) then
    nilck a0 >>= fun p109 =>
    ld cL p109 >>= fun x110 =>
    idx x110.a x110.len s2 1 >>= fun p111 =>
    ld cL p111 >>= fun x112 =>
    idx x112.a x112.len s94 1 >>= fun p113 =>
    st (cI .u8) p113 (IntKind.wrap .u8 (IntKind.wrap .i64 (1 + (Int.tmod s2 251)))) >>= fun _ =>
    pure (LS.next (IntKind.wrap .i64 (s94 + 1)))
  else
    pure (LS.done (LS.next (IntKind.wrap .i64 (s2 + 1))))
theorem weirlaw3_Book_Settle.L5_ok (a0 : (Option Addr)) (s2 : Int) (s94 : Int) :
    SJ weirlaw3_Book_Settle.cx [.code (c1 (c1 (c2 (c1 (c1 (c2 (c1 (c1 (c2 (c1 (c2 (c2 weirlaw3_Book_Settle.B)))))))))))), .inLoop (c1 (c1 (c2 (c1 (c1 (c2 (c1 (c1 (c2 (c1 (c2 (c2 weirlaw3_Book_Settle.B)))))))))))), .inBlock 2, .inBlock 1, .code (c2 (c2 (c1 (c1 (c2 (c1 (c2 (c2 weirlaw3_Book_Settle.B)))))))), .inLoop (c1 (c1 (c2 (c1 (c2 (c2 weirlaw3_Book_Settle.B)))))), .inBlock 0, .code (c2 (c2 (c2 weirlaw3_Book_Settle.B)))] [(0, .pointer a0), (3, .int .i64 s2), (4, .int .i64 s94)] [] (weirlaw3_Book_Settle.L5 a0 s2 s94) (weirlaw3_Book_Settle.F5 a0 s2) := by
  unfold weirlaw3_Book_Settle.L5
  refine SJ.seq ?_
  refine SJ.sr 10 ?_
  refine OJ.go 2 [(23, .pointer a0), (22, .int .i64 s94)] ?_
  refine OJ.nilck (d := 24) (y := .tmp 23) (fun p105 => ?_)
  refine OJ.go 1 [(25, .pointer (some p105))] ?_
  refine OJ.ld (d := 26) (y := .tmp 25) (pend2 := fun x106 => []) Ty43 (fun _ => rfl) (fun x106 => ?_)
  refine OJ.go 1 [(27, .int .i64 s2)] ?_
  refine OJ.idxS (d := 28) (T := 43) (y := .tmp 26) (j := .tmp 27) (E := 22) (cap := x106.cap) (k := .i64) (fun p107 => ?_)
  refine OJ.ld (d := 29) (y := .tmp 28) (pend2 := fun x108 => []) Ty22 (fun _ => rfl) (fun x108 => ?_)
  refine OJ.go 2 [(31, .bool (decide (s94 < (x108.len : Int)))), (30, .int .i64 (x108.len : Int))] ?_
  refine OJ.nil ?_
  refine SJ.cond (t := (.tmp 31)) (b := decide (s94 < (x108.len : Int))) decide_eq_true_iff (fun hc114 => ?_) (fun hc114 => ?_)
  · refine SJ.skip ?_
    refine SJ.seq ?_
    refine SJ.block (id := 3) ?_
    refine SJ.rg 14 ?_
    refine OJ.go 1 [(34, .pointer a0)] ?_
    refine OJ.nilck (d := 35) (y := .tmp 34) (fun p109 => ?_)
    refine OJ.go 1 [(36, .pointer (some p109))] ?_
    refine OJ.ld (d := 37) (y := .tmp 36) (pend2 := fun x110 => []) Ty43 (fun _ => rfl) (fun x110 => ?_)
    refine OJ.go 1 [(38, .int .i64 s2)] ?_
    refine OJ.idxS (d := 39) (T := 43) (y := .tmp 37) (j := .tmp 38) (E := 22) (cap := x110.cap) (k := .i64) (fun p111 => ?_)
    refine OJ.ld (d := 40) (y := .tmp 39) (pend2 := fun x112 => []) Ty22 (fun _ => rfl) (fun x112 => ?_)
    refine OJ.go 5 [(45, .int .u8 (IntKind.wrap .u8 (IntKind.wrap .i64 (1 + (Int.tmod s2 251))))), (44, .int .i64 (IntKind.wrap .i64 (1 + (Int.tmod s2 251)))), (43, .int .i64 (Int.tmod s2 251)), (42, .int .i64 s2), (41, .int .i64 s94)] ?_
    refine OJ.idxS (d := 46) (T := 22) (y := .tmp 40) (j := .tmp 41) (E := 5) (cap := x112.cap) (k := .i64) (fun p113 => ?_)
    refine OJ.st (y := .tmp 46) (z := .tmp 45) (owed := []) Ty5 ?_
    refine OW.nil ?_
    refine OJ.nil ?_
    refine SJ.inBlock ?_
    refine SJ.rg 3 ?_
    refine OJ.go 3 [(4, .int .i64 (IntKind.wrap .i64 (s94 + 1))), (33, .int .i64 (IntKind.wrap .i64 (s94 + 1))), (32, .int .i64 s94)] ?_
    refine OJ.nil ?_
    exact SJ.at_ [0, 3, 4] rfl
  · refine SJ.exit (id := 2) (by rfl) ?_
    refine SJ.inBlock ?_
    refine SJ.rg 3 ?_
    refine OJ.go 3 [(3, .int .i64 (IntKind.wrap .i64 (s2 + 1))), (21, .int .i64 (IntKind.wrap .i64 (s2 + 1))), (20, .int .i64 s2)] ?_
    refine OJ.nil ?_
    exact SJ.at_ [0, 3] rfl
noncomputable def weirlaw3_Book_Settle.L4 (a0 : (Option Addr)) (s2 : Int) : M (LS Int Bool) :=
  nilck a0 >>= fun p92 =>
  ld cL p92 >>= fun x93 =>
  if s2 < (x93.len : Int) then
    loopM (fun s_ : Int => weirlaw3_Book_Settle.L5 a0 s2 s_) 0
  else
    (weirlaw3_Book_Settle.K2 a0) >>= fun b => pure (LS.done b)
theorem weirlaw3_Book_Settle.L4_ok (a0 : (Option Addr)) (s2 : Int) :
    SJ weirlaw3_Book_Settle.cx [.code (c1 (c1 (c2 (c1 (c2 (c2 weirlaw3_Book_Settle.B)))))), .inLoop (c1 (c1 (c2 (c1 (c2 (c2 weirlaw3_Book_Settle.B)))))), .inBlock 0, .code (c2 (c2 (c2 weirlaw3_Book_Settle.B)))] [(0, .pointer a0), (3, .int .i64 s2)] [] (weirlaw3_Book_Settle.L4 a0 s2) (weirlaw3_Book_Settle.F4 a0) := by
  unfold weirlaw3_Book_Settle.L4
  refine SJ.seq ?_
  refine SJ.sr 7 ?_
  refine OJ.go 2 [(14, .pointer a0), (13, .int .i64 s2)] ?_
  refine OJ.nilck (d := 15) (y := .tmp 14) (fun p92 => ?_)
  refine OJ.go 1 [(16, .pointer (some p92))] ?_
  refine OJ.ld (d := 17) (y := .tmp 16) (pend2 := fun x93 => []) Ty43 (fun _ => rfl) (fun x93 => ?_)
  refine OJ.go 2 [(19, .bool (decide (s2 < (x93.len : Int)))), (18, .int .i64 (x93.len : Int))] ?_
  refine OJ.nil ?_
  refine SJ.cond (t := (.tmp 19)) (b := decide (s2 < (x93.len : Int))) decide_eq_true_iff (fun hc115 => ?_) (fun hc115 => ?_)
  · refine SJ.skip ?_
    refine SJ.seq ?_
    refine SJ.block (id := 1) ?_
    refine SJ.sr 1 ?_
    refine OJ.go 1 [(4, .int .i64 0)] ?_
    refine OJ.nil ?_
    refine SJ.block (id := 2) ?_
    exact SJ.loop (fun s_ : Int => [(0, .pointer a0), (3, .int .i64 s2), (4, .int .i64 s_)]) (fun s_ : Int => []) [0, 3, 4] rfl (fun _ _ => rfl) (fun s_ => weirlaw3_Book_Settle.L5_ok a0 s2 s_)
  · refine SJ.exit (id := 0) (by rfl) ?_
    refine SJ.less [0] (m' := [(0, .pointer a0)]) ?_
    refine SJ.done ?_
    exact weirlaw3_Book_Settle.K2_ok a0
noncomputable def weirlaw3_Book_Settle (a0 : (Option Addr)) : M Bool :=
  weirlaw3_Book_Untouched a0 >>= fun r1 =>
  if ¬ (r1 = true) then
    pure false
  else
    loopM (fun s_ : Int => weirlaw3_Book_Settle.L4 a0 s_) 0
theorem weirlaw3_Book_Settle_ok (a0 : (Option Addr)) : Ref Try.prog 39 [.pointer a0] (weirlaw3_Book_Settle a0) weirlaw3_Book_Settle.out := by
  refine Ref.of (cd := weirlaw3_Book_Settle.B) Try.func39 ?_
  show SJ weirlaw3_Book_Settle.cx [.code weirlaw3_Book_Settle.B] [(0, .pointer a0)] [] (weirlaw3_Book_Settle a0) weirlaw3_Book_Settle.F0
  unfold weirlaw3_Book_Settle
  refine SJ.sr 1 ?_
  refine OJ.go 1 [(2, .bool false)] ?_
  refine OJ.nil ?_
  refine SJ.seq ?_
  refine SJ.sr 3 ?_
  refine OJ.go 1 [(10, .pointer a0)] ?_
  refine OJ.call (d := 11) (g := 37) (ats := #[70]) (args := [.tmp 10]) (owed := []) F37 (weirlaw3_Book_Untouched_ok a0) (fun r1 => ?_)
  refine OW.nil ?_
  refine OJ.go 1 [(12, .bool (!r1))] ?_
  refine OJ.nil ?_
  refine SJ.cond (t := (.tmp 12)) (b := (!r1)) (bnot_iff Iff.rfl) (fun hc116 => ?_) (fun hc116 => ?_)
  · refine SJ.sr 1 ?_
    refine OJ.go 1 [(2, .bool false)] ?_
    refine OJ.nil ?_
    exact SJ.ret rfl (Res.run (ys := [.bool false]) (.tmp (by kernel_rfl) .nil) rfl)
  · refine SJ.skip ?_
    refine SJ.seq ?_
    refine SJ.sr 1 ?_
    refine OJ.go 1 [(3, .int .i64 0)] ?_
    refine OJ.nil ?_
    refine SJ.block (id := 0) ?_
    exact SJ.loop (fun s_ : Int => [(0, .pointer a0), (3, .int .i64 s_)]) (fun s_ : Int => []) [0, 3] rfl (fun _ _ => rfl) (fun s_ => weirlaw3_Book_Settle.L4_ok a0 s_)

/-! ### weir/weirlaw3.only: function 55 -/
noncomputable def weirlaw3_only.B : Code := (Try.f55.body).getD .skip
noncomputable def weirlaw3_only.cx : Fx := ⟨Try.prog, 55, Try.f55⟩
noncomputable def weirlaw3_only.out (r_ : Bool) : Value := .bool r_
noncomputable def weirlaw3_only.F0 (r_ : Bool) : Reach := .ret (weirlaw3_only.out r_)
noncomputable def weirlaw3_only.F1 (a0 : Sl) (a1 : Int) : (LS Int Bool) → Reach := loopF [.inLoop (c1 (c1 (c2 (c1 (c2 weirlaw3_only.B))))), .inBlock 0, .code (c2 (c2 weirlaw3_only.B))] (fun s_ : Int => [(0, Sl.v a0), (1, .int .i64 a1), (5, .int .i64 s_)]) (fun s_ : Int => []) weirlaw3_only.F0
noncomputable def weirlaw3_only.L1 (a0 : Sl) (a1 : Int) (s1 : Int) : M (LS Int Bool) :=
  if s1 < (a0.len : Int) then
    idx a0.a a0.len s1 1 >>= fun p6 =>
    ld (cI .i64) p6 >>= fun x7 =>
    if x7 ≠ a1 then
      pure (LS.done false)
    else
      pure (LS.next (IntKind.wrap .i64 (s1 + 1)))
  else
    pure (LS.done true)
theorem weirlaw3_only.L1_ok (a0 : Sl) (a1 : Int) (s1 : Int) :
    SJ weirlaw3_only.cx [.code (c1 (c1 (c2 (c1 (c2 weirlaw3_only.B))))), .inLoop (c1 (c1 (c2 (c1 (c2 weirlaw3_only.B))))), .inBlock 0, .code (c2 (c2 weirlaw3_only.B))] [(0, Sl.v a0), (1, .int .i64 a1), (5, .int .i64 s1)] [] (weirlaw3_only.L1 a0 a1 s1) (weirlaw3_only.F1 a0 a1) := by
  unfold weirlaw3_only.L1
  refine SJ.seq ?_
  refine SJ.sr 4 ?_
  refine OJ.go 4 [(9, .bool (decide (s1 < (a0.len : Int)))), (8, .int .i64 (a0.len : Int)), (7, Sl.v a0), (6, .int .i64 s1)] ?_
  refine OJ.nil ?_
  refine SJ.cond (t := (.tmp 9)) (b := decide (s1 < (a0.len : Int))) decide_eq_true_iff (fun hc9 => ?_) (fun hc9 => ?_)
  · refine SJ.skip ?_
    refine SJ.seq ?_
    refine SJ.block (id := 1) ?_
    refine SJ.sr 6 ?_
    refine OJ.go 2 [(13, .int .i64 s1), (12, Sl.v a0)] ?_
    refine OJ.idxS (d := 14) (T := 67) (y := .tmp 12) (j := .tmp 13) (E := 3) (cap := a0.cap) (k := .i64) (fun p6 => ?_)
    refine OJ.ld (d := 15) (y := .tmp 14) (pend2 := fun x7 => []) Ty3 (fun _ => rfl) (fun x7 => ?_)
    refine OJ.go 2 [(17, .bool (x7 != a1)), (16, .int .i64 a1)] ?_
    refine OJ.nil ?_
    refine SJ.cond (t := (.tmp 17)) (b := (x7 != a1)) bne_iff_ne (fun hc8 => ?_) (fun hc8 => ?_)
    · refine SJ.sr 1 ?_
      refine OJ.go 1 [(4, .bool false)] ?_
      refine OJ.nil ?_
      exact SJ.ret rfl (Res.run (ys := [.bool false]) (.tmp (by kernel_rfl) .nil) rfl)
    · refine SJ.skip ?_
      refine SJ.inBlock ?_
      refine SJ.rg 3 ?_
      refine OJ.go 3 [(5, .int .i64 (IntKind.wrap .i64 (s1 + 1))), (11, .int .i64 (IntKind.wrap .i64 (s1 + 1))), (10, .int .i64 s1)] ?_
      refine OJ.nil ?_
      exact SJ.at_ [0, 1, 5] rfl
  · refine SJ.exit (id := 0) (by rfl) ?_
    refine SJ.sr 1 ?_
    refine OJ.go 1 [(4, .bool true)] ?_
    refine OJ.nil ?_
    exact SJ.ret rfl (Res.run (ys := [.bool true]) (.tmp (by kernel_rfl) .nil) rfl)
noncomputable def weirlaw3_only (a0 : Sl) (a1 : Int) : M Bool :=
  loopM (fun s_ : Int => weirlaw3_only.L1 a0 a1 s_) 0
theorem weirlaw3_only_ok (a0 : Sl) (a1 : Int) : Ref Try.prog 55 [Sl.v a0, .int .i64 a1] (weirlaw3_only a0 a1) weirlaw3_only.out := by
  refine Ref.of (cd := weirlaw3_only.B) Try.func55 ?_
  show SJ weirlaw3_only.cx [.code weirlaw3_only.B] [(0, Sl.v a0), (1, .int .i64 a1)] [] (weirlaw3_only a0 a1) weirlaw3_only.F0
  unfold weirlaw3_only
  refine SJ.sr 1 ?_
  refine OJ.go 1 [(4, .bool false)] ?_
  refine OJ.nil ?_
  refine SJ.seq ?_
  refine SJ.sr 1 ?_
  refine OJ.go 1 [(5, .int .i64 0)] ?_
  refine OJ.nil ?_
  refine SJ.block (id := 0) ?_
  exact SJ.loop (fun s_ : Int => [(0, Sl.v a0), (1, .int .i64 a1), (5, .int .i64 s_)]) (fun s_ : Int => []) [0, 1, 5] rfl (fun _ _ => rfl) (fun s_ => weirlaw3_only.L1_ok a0 a1 s_)

/-! ### (*weir/weirlaw3.Ints).Settle: function 40 -/
noncomputable def weirlaw3_Ints_Settle.B : Code := (Try.f40.body).getD .skip
noncomputable def weirlaw3_Ints_Settle.cx : Fx := ⟨Try.prog, 40, Try.f40⟩
noncomputable def weirlaw3_Ints_Settle.out (r_ : Bool) : Value := .bool r_
noncomputable def weirlaw3_Ints_Settle.F0 (r_ : Bool) : Reach := .ret (weirlaw3_Ints_Settle.out r_)
noncomputable def weirlaw3_Ints_Settle.F1 (a0 : (Option Addr)) (s27 : Sl) : (LS Int Bool) → Reach := loopF [.inLoop (c1 (c1 (c2 (c1 (c2 (c2 (c2 (c2 (c2 weirlaw3_Ints_Settle.B))))))))), .inBlock 8, .code (c2 (c2 (c2 (c2 (c2 (c2 weirlaw3_Ints_Settle.B))))))] (fun s_ : Int => [(0, .pointer a0), (5, Sl.v s27), (9, .int .i64 s_)]) (fun s_ : Int => []) weirlaw3_Ints_Settle.F0
noncomputable def weirlaw3_Ints_Settle.L1 (a0 : (Option Addr)) (s27 : Sl) (s47 : Int) : M (LS Int Bool) :=
  nilck a0 >>= fun p61 =>
  ld cL p61 >>= fun x62 =>
  if s47 < (x62.len : Int) then
    nilck a0 >>= fun p63 =>
    ld cL p63 >>= fun x64 =>
    idx x64.a x64.len s47 1 >>= fun p65 =>
    ld cL p65 >>= fun x66 =>
    weirlaw3_only x66 (IntKind.wrap .i64 ((-1000) - s47)) >>= fun r67 =>
    (if ¬ (r67 = true) then
        pure true
      else
        idx s27.a s27.len s47 1 >>= fun p68 =>
        ld cL p68 >>= fun x69 =>
        weirlaw3_only x69 (IntKind.wrap .i64 ((-1000) - s47)) >>= fun r70 =>
        pure (!r70)) >>= fun y71 =>
    if y71 = true then
      pure (LS.done false)
    else
      pure (LS.next (IntKind.wrap .i64 (s47 + 1)))
  else
    pure (LS.done true)
theorem weirlaw3_Ints_Settle.L1_ok (a0 : (Option Addr)) (s27 : Sl) (s47 : Int) :
    SJ weirlaw3_Ints_Settle.cx [.code (c1 (c1 (c2 (c1 (c2 (c2 (c2 (c2 (c2 weirlaw3_Ints_Settle.B))))))))), .inLoop (c1 (c1 (c2 (c1 (c2 (c2 (c2 (c2 (c2 weirlaw3_Ints_Settle.B))))))))), .inBlock 8, .code (c2 (c2 (c2 (c2 (c2 (c2 weirlaw3_Ints_Settle.B))))))] [(0, .pointer a0), (5, Sl.v s27), (9, .int .i64 s47)] [] (weirlaw3_Ints_Settle.L1 a0 s27 s47) (weirlaw3_Ints_Settle.F1 a0 s27) := by
  unfold weirlaw3_Ints_Settle.L1
  refine SJ.seq ?_
  refine SJ.sr 7 ?_
  refine OJ.go 2 [(79, .pointer a0), (78, .int .i64 s47)] ?_
  refine OJ.nilck (d := 80) (y := .tmp 79) (fun p61 => ?_)
  refine OJ.go 1 [(81, .pointer (some p61))] ?_
  refine OJ.ld (d := 82) (y := .tmp 81) (pend2 := fun x62 => []) Ty74 (fun _ => rfl) (fun x62 => ?_)
  refine OJ.go 2 [(84, .bool (decide (s47 < (x62.len : Int)))), (83, .int .i64 (x62.len : Int))] ?_
  refine OJ.nil ?_
  refine SJ.cond (t := (.tmp 84)) (b := decide (s47 < (x62.len : Int))) decide_eq_true_iff (fun hc73 => ?_) (fun hc73 => ?_)
  · refine SJ.skip ?_
    refine SJ.seq ?_
    refine SJ.block (id := 9) ?_
    refine SJ.sr 21 ?_
    refine OJ.go 1 [(87, .pointer a0)] ?_
    refine OJ.nilck (d := 88) (y := .tmp 87) (fun p63 => ?_)
    refine OJ.go 1 [(89, .pointer (some p63))] ?_
    refine OJ.ld (d := 90) (y := .tmp 89) (pend2 := fun x64 => []) Ty74 (fun _ => rfl) (fun x64 => ?_)
    refine OJ.go 1 [(91, .int .i64 s47)] ?_
    refine OJ.idxS (d := 92) (T := 74) (y := .tmp 90) (j := .tmp 91) (E := 67) (cap := x64.cap) (k := .i64) (fun p65 => ?_)
    refine OJ.ld (d := 93) (y := .tmp 92) (pend2 := fun x66 => []) Ty67 (fun _ => rfl) (fun x66 => ?_)
    refine OJ.go 2 [(95, .int .i64 (IntKind.wrap .i64 ((-1000) - s47))), (94, .int .i64 s47)] ?_
    refine OJ.call (d := 96) (g := 55) (ats := #[67, 3]) (args := [.tmp 93, .tmp 95]) (owed := []) F55 (weirlaw3_only_ok x66 (IntKind.wrap .i64 ((-1000) - s47))) (fun r67 => ?_)
    refine OW.nil ?_
    refine OJ.go 2 [(98, .bool (!r67)), (97, .bool (!r67))] ?_
    refine OJ.join (b := (!r67)) [12, 13, 14, 15, 16, 17, 18, 19, 20] [] [0, 5, 9, 107] (fun y71 => [(0, .pointer a0), (5, Sl.v s27), (9, .int .i64 s47), (107, .bool y71)]) [] [] (t := 98) (bnot_iff Iff.rfl) (fun hp_ => ?_) (fun hp_ => ?_) (fun _ _ _ _ _ _ h_ => h_) (fun y71 => ?_)
    · refine OJ.go 9 [(107, .bool true), (106, undef), (105, undef), (104, undef), (103, undef), (102, undef), (101, undef), (100, undef), (99, undef)] ?_
      exact OJ.nil ⟨(Cov.mem Cov.nil), rfl, _, rfl, by kernel_rfl⟩
    · refine OJ.go 2 [(100, .int .i64 s47), (99, Sl.v s27)] ?_
      refine OJ.idxS (d := 101) (T := 74) (y := .tmp 99) (j := .tmp 100) (E := 67) (cap := s27.cap) (k := .i64) (fun p68 => ?_)
      refine OJ.ld (d := 102) (y := .tmp 101) (pend2 := fun x69 => []) Ty67 (fun _ => rfl) (fun x69 => ?_)
      refine OJ.go 2 [(104, .int .i64 (IntKind.wrap .i64 ((-1000) - s47))), (103, .int .i64 s47)] ?_
      refine OJ.call (d := 105) (g := 55) (ats := #[67, 3]) (args := [.tmp 102, .tmp 104]) (owed := []) F55 (weirlaw3_only_ok x69 (IntKind.wrap .i64 ((-1000) - s47))) (fun r70 => ?_)
      refine OW.nil ?_
      refine OJ.go 2 [(107, .bool (!r70)), (106, .bool (!r70))] ?_
      exact OJ.nil ⟨(Cov.mem Cov.nil), rfl, _, rfl, by kernel_rfl⟩
    · refine OJ.nil ?_
      refine SJ.cond (t := (.tmp 107)) (b := y71) Iff.rfl (fun hc72 => ?_) (fun hc72 => ?_)
      · refine SJ.sr 1 ?_
        refine OJ.go 1 [(2, .bool false)] ?_
        refine OJ.nil ?_
        exact SJ.ret rfl (Res.run (ys := [.bool false]) (.tmp (by kernel_rfl) .nil) rfl)
      · refine SJ.skip ?_
        refine SJ.inBlock ?_
        refine SJ.rg 3 ?_
        refine OJ.go 3 [(9, .int .i64 (IntKind.wrap .i64 (s47 + 1))), (86, .int .i64 (IntKind.wrap .i64 (s47 + 1))), (85, .int .i64 s47)] ?_
        refine OJ.nil ?_
        exact SJ.at_ [0, 5, 9] rfl
  · refine SJ.exit (id := 8) (by rfl) ?_
    refine SJ.sr 1 ?_
    refine OJ.go 1 [(2, .bool true)] ?_
    refine OJ.nil ?_
    exact SJ.ret rfl (Res.run (ys := [.bool true]) (.tmp (by kernel_rfl) .nil) rfl)
noncomputable def weirlaw3_Ints_Settle.K1 (a0 : (Option Addr)) (s27 : Sl) : M Bool :=
  loopM (fun s_ : Int => weirlaw3_Ints_Settle.L1 a0 s27 s_) 0
theorem weirlaw3_Ints_Settle.K1_ok (a0 : (Option Addr)) (s27 : Sl) :
    SJ weirlaw3_Ints_Settle.cx [.code (c2 (c2 (c2 (c2 (c2 weirlaw3_Ints_Settle.B)))))] [(0, .pointer a0), (5, Sl.v s27)] [] (weirlaw3_Ints_Settle.K1 a0 s27) weirlaw3_Ints_Settle.F0 := by
  unfold weirlaw3_Ints_Settle.K1
  refine SJ.seq ?_
  refine SJ.sr 1 ?_
  refine OJ.go 1 [(9, .int .i64 0)] ?_
  refine OJ.nil ?_
  refine SJ.block (id := 8) ?_
  exact SJ.loop (fun s_ : Int => [(0, .pointer a0), (5, Sl.v s27), (9, .int .i64 s_)]) (fun s_ : Int => []) [0, 5, 9] rfl (fun _ _ => rfl) (fun s_ => weirlaw3_Ints_Settle.L1_ok a0 s27 s_)
noncomputable def weirlaw3_Ints_Settle.F2 (a0 : (Option Addr)) : (LS (Sl × Int) Bool) → Reach := loopF [.inLoop (c1 (c1 (c2 (c1 (c2 (c2 (c2 (c2 weirlaw3_Ints_Settle.B)))))))), .inBlock 4, .code (c2 (c2 (c2 (c2 (c2 weirlaw3_Ints_Settle.B)))))] (fun s_ : (Sl × Int) => [(0, .pointer a0), (5, Sl.v s_.1), (6, .int .i64 s_.2)]) (fun s_ : (Sl × Int) => []) weirlaw3_Ints_Settle.F0
noncomputable def weirlaw3_Ints_Settle.F3 (a0 : (Option Addr)) (s27 : Sl) (s28 : Int) (x79 : Sl) : (LS Sl (LS (Sl × Int) Bool)) → Reach := loopF [.inLoop (c1 (c1 (c1 (c2 (c2 (c1 (c1 (c2 (c1 (c1 (c2 (c1 (c2 (c2 (c2 (c2 weirlaw3_Ints_Settle.B)))))))))))))))), .inBlock 6, .code (c2 (c2 (c2 (c1 (c1 (c2 (c1 (c1 (c2 (c1 (c2 (c2 (c2 (c2 weirlaw3_Ints_Settle.B)))))))))))))), .inBlock 5, .code (c2 (c2 (c1 (c1 (c2 (c1 (c2 (c2 (c2 (c2 weirlaw3_Ints_Settle.B)))))))))), .inLoop (c1 (c1 (c2 (c1 (c2 (c2 (c2 (c2 weirlaw3_Ints_Settle.B)))))))), .inBlock 4, .code (c2 (c2 (c2 (c2 (c2 weirlaw3_Ints_Settle.B)))))] (fun s_ : Sl => [(0, .pointer a0), (5, Sl.v s27), (6, .int .i64 s28), (7, Sl.v s_), (8, .int .i64 (IntKind.wrap .i64 ((IntKind.wrap .i64 (2 * (x79.len : Int))) + 70)))]) (fun s_ : Sl => []) (weirlaw3_Ints_Settle.F2 a0)
noncomputable def weirlaw3_Ints_Settle.L3 (s27 : Sl) (s28 : Int) (x79 : Sl) (s80 : Sl) : M (LS Sl (LS (Sl × Int) Bool)) :=
  if (s80.len : Int) < (IntKind.wrap .i64 ((IntKind.wrap .i64 (2 * (x79.len : Int))) + 70)) then
    slot 3 >>= fun b86 =>
    appl (cI .i64) 3 8 0 s80 [IntKind.wrap .i64 ((-1000) - s28)] >>= fun r87 =>
    pure (LS.next r87)
  else
    slot 67 >>= fun b88 =>
    appl cL 67 24 Sl.nil s27 [s80] >>= fun r89 =>
    pure (LS.done (LS.next (r89, IntKind.wrap .i64 (s28 + 1))))
theorem weirlaw3_Ints_Settle.L3_ok (a0 : (Option Addr)) (s27 : Sl) (s28 : Int) (x79 : Sl) (s80 : Sl) :
    SJ weirlaw3_Ints_Settle.cx [.code (c1 (c1 (c1 (c2 (c2 (c1 (c1 (c2 (c1 (c1 (c2 (c1 (c2 (c2 (c2 (c2 weirlaw3_Ints_Settle.B)))))))))))))))), .inLoop (c1 (c1 (c1 (c2 (c2 (c1 (c1 (c2 (c1 (c1 (c2 (c1 (c2 (c2 (c2 (c2 weirlaw3_Ints_Settle.B)))))))))))))))), .inBlock 6, .code (c2 (c2 (c2 (c1 (c1 (c2 (c1 (c1 (c2 (c1 (c2 (c2 (c2 (c2 weirlaw3_Ints_Settle.B)))))))))))))), .inBlock 5, .code (c2 (c2 (c1 (c1 (c2 (c1 (c2 (c2 (c2 (c2 weirlaw3_Ints_Settle.B)))))))))), .inLoop (c1 (c1 (c2 (c1 (c2 (c2 (c2 (c2 weirlaw3_Ints_Settle.B)))))))), .inBlock 4, .code (c2 (c2 (c2 (c2 (c2 weirlaw3_Ints_Settle.B)))))] [(0, .pointer a0), (5, Sl.v s27), (6, .int .i64 s28), (7, Sl.v s80), (8, .int .i64 (IntKind.wrap .i64 ((IntKind.wrap .i64 (2 * (x79.len : Int))) + 70)))] [] (weirlaw3_Ints_Settle.L3 s27 s28 x79 s80) (weirlaw3_Ints_Settle.F3 a0 s27 s28 x79) := by
  unfold weirlaw3_Ints_Settle.L3
  refine SJ.seq ?_
  refine SJ.sr 4 ?_
  refine OJ.go 4 [(68, .bool (decide ((s80.len : Int) < (IntKind.wrap .i64 ((IntKind.wrap .i64 (2 * (x79.len : Int))) + 70))))), (67, .int .i64 (IntKind.wrap .i64 ((IntKind.wrap .i64 (2 * (x79.len : Int))) + 70))), (66, .int .i64 (s80.len : Int)), (65, Sl.v s80)] ?_
  refine OJ.nil ?_
  refine SJ.cond (t := (.tmp 68)) (b := decide ((s80.len : Int) < (IntKind.wrap .i64 ((IntKind.wrap .i64 (2 * (x79.len : Int))) + 70)))) decide_eq_true_iff (fun hc90 => ?_) (fun hc90 => ?_)
  · refine SJ.skip ?_
    refine SJ.block (id := 7) ?_
    refine SJ.rg 6 ?_
    refine OJ.go 3 [(71, .int .i64 (IntKind.wrap .i64 ((-1000) - s28))), (70, .int .i64 s28), (69, Sl.v s80)] ?_
    refine OJ.rowSlot (d := 72) (t := 67) (parts := [(0, .tmp 71)]) (ps := [(0, (cI .i64).val (IntKind.wrap .i64 ((-1000) - s28)))]) (cd := (cI .i64)) (⟨[IntKind.wrap .i64 ((-1000) - s28)], rfl⟩ : Vec Int 1) (owed := []) Ty3 (Filled.cons (cd := (cI .i64)) (q := (IntKind.wrap .i64 ((-1000) - s28))) (o := 0) rfl (Upd.arr (i := 0) (by decide) (by decide)) Filled.nil) (fun b86 => ?_)
    refine OW.nil ?_
    refine OJ.appl (d := 73) (t := 67) (u := 67) (so := .tmp 69) (xo := .tmp 72) (j := 0) (b := b86) (l := ((cI .i64).arr 1).enc (⟨[IntKind.wrap .i64 ((-1000) - s28)], rfl⟩ : Vec Int 1)) (n := 1) (k := 1) [IntKind.wrap .i64 ((-1000) - s28)] (owed := []) Ty3 (by rfl) (Cod.arr_enc _ _ _) (by rfl) (fun r87 => ?_)
    refine OW.nil ?_
    refine OJ.go 1 [(7, Sl.v r87)] ?_
    refine OJ.nil ?_
    refine SJ.inBlock ?_
    refine SJ.forget (List.Sublist.cons _ List.Sublist.slnil) ?_
    exact SJ.at_ [0, 5, 6, 7, 8] rfl
  · refine SJ.exit (id := 6) (by rfl) ?_
    refine SJ.rg 5 ?_
    refine OJ.go 2 [(75, Sl.v s80), (74, Sl.v s27)] ?_
    refine OJ.rowSlot (d := 76) (t := 74) (parts := [(0, .tmp 75)]) (ps := [(0, cL.val s80)]) (cd := cL) (⟨[s80], rfl⟩ : Vec Sl 1) (owed := []) Ty67 (Filled.cons (cd := cL) (q := s80) (o := 0) rfl (Upd.arr (i := 0) (by decide) (by decide)) Filled.nil) (fun b88 => ?_)
    refine OW.nil ?_
    refine OJ.appl (d := 77) (t := 74) (u := 74) (so := .tmp 74) (xo := .tmp 76) (j := 0) (b := b88) (l := (cL.arr 1).enc (⟨[s80], rfl⟩ : Vec Sl 1)) (n := 1) (k := 1) [s80] (owed := []) Ty67 (by rfl) (Cod.arr_enc _ _ _) (by rfl) (fun r89 => ?_)
    refine OW.nil ?_
    refine OJ.go 1 [(5, Sl.v r89)] ?_
    refine OJ.nil ?_
    refine SJ.inBlock ?_
    refine SJ.rg 3 ?_
    refine OJ.go 3 [(6, .int .i64 (IntKind.wrap .i64 (s28 + 1))), (53, .int .i64 (IntKind.wrap .i64 (s28 + 1))), (52, .int .i64 s28)] ?_
    refine OJ.nil ?_
    refine SJ.forget (List.Sublist.cons _ List.Sublist.slnil) ?_
    exact SJ.at_ [0, 5, 6] rfl
noncomputable def weirlaw3_Ints_Settle.L2 (a0 : (Option Addr)) (s27 : Sl) (s28 : Int) : M (LS (Sl × Int) Bool) :=
  nilck a0 >>= fun p74 =>
  ld cL p74 >>= fun x75 =>
  if s28 < (x75.len : Int) then
    nilck a0 >>= fun p76 =>
    ld cL p76 >>= fun x77 =>
    idx x77.a x77.len s28 1 >>= fun p78 =>
    ld cL p78 >>= fun x79 =>
    loopM (fun s_ : Sl => weirlaw3_Ints_Settle.L3 s27 s28 x79 s_) x79
  else
    (weirlaw3_Ints_Settle.K1 a0 s27) >>= fun b => pure (LS.done b)
theorem weirlaw3_Ints_Settle.L2_ok (a0 : (Option Addr)) (s27 : Sl) (s28 : Int) :
    SJ weirlaw3_Ints_Settle.cx [.code (c1 (c1 (c2 (c1 (c2 (c2 (c2 (c2 weirlaw3_Ints_Settle.B)))))))), .inLoop (c1 (c1 (c2 (c1 (c2 (c2 (c2 (c2 weirlaw3_Ints_Settle.B)))))))), .inBlock 4, .code (c2 (c2 (c2 (c2 (c2 weirlaw3_Ints_Settle.B)))))] [(0, .pointer a0), (5, Sl.v s27), (6, .int .i64 s28)] [] (weirlaw3_Ints_Settle.L2 a0 s27 s28) (weirlaw3_Ints_Settle.F2 a0) := by
  unfold weirlaw3_Ints_Settle.L2
  refine SJ.seq ?_
  refine SJ.sr 7 ?_
  refine OJ.go 2 [(46, .pointer a0), (45, .int .i64 s28)] ?_
  refine OJ.nilck (d := 47) (y := .tmp 46) (fun p74 => ?_)
  refine OJ.go 1 [(48, .pointer (some p74))] ?_
  refine OJ.ld (d := 49) (y := .tmp 48) (pend2 := fun x75 => []) Ty74 (fun _ => rfl) (fun x75 => ?_)
  refine OJ.go 2 [(51, .bool (decide (s28 < (x75.len : Int)))), (50, .int .i64 (x75.len : Int))] ?_
  refine OJ.nil ?_
  refine SJ.cond (t := (.tmp 51)) (b := decide (s28 < (x75.len : Int))) decide_eq_true_iff (fun hc91 => ?_) (fun hc91 => ?_)
  · refine SJ.skip ?_
    refine SJ.seq ?_
    refine SJ.block (id := 5) ?_
    refine SJ.sr 8 ?_
    refine OJ.go 1 [(54, .pointer a0)] ?_
    refine OJ.nilck (d := 55) (y := .tmp 54) (fun p76 => ?_)
    refine OJ.go 1 [(56, .pointer (some p76))] ?_
    refine OJ.ld (d := 57) (y := .tmp 56) (pend2 := fun x77 => []) Ty74 (fun _ => rfl) (fun x77 => ?_)
    refine OJ.go 1 [(58, .int .i64 s28)] ?_
    refine OJ.idxS (d := 59) (T := 74) (y := .tmp 57) (j := .tmp 58) (E := 67) (cap := x77.cap) (k := .i64) (fun p78 => ?_)
    refine OJ.ld (d := 60) (y := .tmp 59) (pend2 := fun x79 => []) Ty67 (fun _ => rfl) (fun x79 => ?_)
    refine OJ.go 1 [(7, Sl.v x79)] ?_
    refine OJ.nil ?_
    refine SJ.sr 5 ?_
    refine OJ.go 5 [(8, .int .i64 (IntKind.wrap .i64 ((IntKind.wrap .i64 (2 * (x79.len : Int))) + 70))), (64, .int .i64 (IntKind.wrap .i64 ((IntKind.wrap .i64 (2 * (x79.len : Int))) + 70))), (63, .int .i64 (IntKind.wrap .i64 (2 * (x79.len : Int)))), (62, .int .i64 (x79.len : Int)), (61, Sl.v x79)] ?_
    refine OJ.nil ?_
    refine SJ.seq ?_
    refine SJ.block (id := 6) ?_
    exact SJ.loop (fun s_ : Sl => [(0, .pointer a0), (5, Sl.v s27), (6, .int .i64 s28), (7, Sl.v s_), (8, .int .i64 (IntKind.wrap .i64 ((IntKind.wrap .i64 (2 * (x79.len : Int))) + 70)))]) (fun s_ : Sl => []) [0, 5, 6, 7, 8] rfl (fun _ _ => rfl) (fun s_ => weirlaw3_Ints_Settle.L3_ok a0 s27 s28 x79 s_)
  · refine SJ.exit (id := 4) (by rfl) ?_
    refine SJ.less [0, 5] (m' := [(0, .pointer a0), (5, Sl.v s27)]) ?_
    refine SJ.done ?_
    exact weirlaw3_Ints_Settle.K1_ok a0 s27
noncomputable def weirlaw3_Ints_Settle.K2 (a0 : (Option Addr)) : M Bool :=
  loopM (fun s_ : (Sl × Int) => weirlaw3_Ints_Settle.L2 a0 s_.1 s_.2) (Sl.nil, 0)
theorem weirlaw3_Ints_Settle.K2_ok (a0 : (Option Addr)) :
    SJ weirlaw3_Ints_Settle.cx [.code (c2 (c2 (c2 weirlaw3_Ints_Settle.B)))] [(0, .pointer a0)] [] (weirlaw3_Ints_Settle.K2 a0) weirlaw3_Ints_Settle.F0 := by
  unfold weirlaw3_Ints_Settle.K2
  refine SJ.sr 1 ?_
  refine OJ.go 1 [(5, Sl.v Sl.nil)] ?_
  refine OJ.nil ?_
  refine SJ.seq ?_
  refine SJ.sr 1 ?_
  refine OJ.go 1 [(6, .int .i64 0)] ?_
  refine OJ.nil ?_
  refine SJ.block (id := 4) ?_
  exact SJ.loop (fun s_ : (Sl × Int) => [(0, .pointer a0), (5, Sl.v s_.1), (6, .int .i64 s_.2)]) (fun s_ : (Sl × Int) => []) [0, 5, 6] rfl (fun _ _ => rfl) (fun s_ => weirlaw3_Ints_Settle.L2_ok a0 s_.1 s_.2)
noncomputable def weirlaw3_Ints_Settle.F4 (a0 : (Option Addr)) : (LS Int Bool) → Reach := loopF [.inLoop (c1 (c1 (c2 (c1 (c2 (c2 weirlaw3_Ints_Settle.B)))))), .inBlock 0, .code (c2 (c2 (c2 weirlaw3_Ints_Settle.B)))] (fun s_ : Int => [(0, .pointer a0), (3, .int .i64 s_)]) (fun s_ : Int => []) weirlaw3_Ints_Settle.F0
noncomputable def weirlaw3_Ints_Settle.F5 (a0 : (Option Addr)) (s2 : Int) : (LS Int (LS Int Bool)) → Reach := loopF [.inLoop (c1 (c1 (c2 (c1 (c1 (c2 (c1 (c1 (c2 (c1 (c2 (c2 weirlaw3_Ints_Settle.B)))))))))))), .inBlock 2, .inBlock 1, .code (c2 (c2 (c1 (c1 (c2 (c1 (c2 (c2 weirlaw3_Ints_Settle.B)))))))), .inLoop (c1 (c1 (c2 (c1 (c2 (c2 weirlaw3_Ints_Settle.B)))))), .inBlock 0, .code (c2 (c2 (c2 weirlaw3_Ints_Settle.B)))] (fun s_ : Int => [(0, .pointer a0), (3, .int .i64 s2), (4, .int .i64 s_)]) (fun s_ : Int => []) (weirlaw3_Ints_Settle.F4 a0)
noncomputable def weirlaw3_Ints_Settle.L5 (a0 : (Option Addr)) (s2 : Int) (s94 : Int) : M (LS Int (LS Int Bool)) :=
  nilck a0 >>= fun p105 =>
  ld cL p105 >>= fun x106 =>
  idx x106.a x106.len s2 1 >>= fun p107 =>
  ld cL p107 >>= fun x108 =>
  if s94 < (x108.len : Int) then
    nilck a0 >>= fun p109 =>
    ld cL p109 >>= fun x110 =>
    idx x110.a x110.len s2 1 >>= fun p111 =>
    ld cL p111 >>= fun x112 =>
    idx x112.a x112.len s94 1 >>= fun p113 =>
    st (cI .i64) p113 (IntKind.wrap .i64 ((-1000) - s2)) >>= fun _ =>
    pure (LS.next (IntKind.wrap .i64 (s94 + 1)))
  else
    pure (LS.done (LS.next (IntKind.wrap .i64 (s2 + 1))))
theorem weirlaw3_Ints_Settle.L5_ok (a0 : (Option Addr)) (s2 : Int) (s94 : Int) :
    SJ weirlaw3_Ints_Settle.cx [.code (c1 (c1 (c2 (c1 (c1 (c2 (c1 (c1 (c2 (c1 (c2 (c2 weirlaw3_Ints_Settle.B)))))))))))), .inLoop (c1 (c1 (c2 (c1 (c1 (c2 (c1 (c1 (c2 (c1 (c2 (c2 weirlaw3_Ints_Settle.B)))))))))))), .inBlock 2, .inBlock 1, .code (c2 (c2 (c1 (c1 (c2 (c1 (c2 (c2 weirlaw3_Ints_Settle.B)))))))), .inLoop (c1 (c1 (c2 (c1 (c2 (c2 weirlaw3_Ints_Settle.B)))))), .inBlock 0, .code (c2 (c2 (c2 weirlaw3_Ints_Settle.B)))] [(0, .pointer a0), (3, .int .i64 s2), (4, .int .i64 s94)] [] (weirlaw3_Ints_Settle.L5 a0 s2 s94) (weirlaw3_Ints_Settle.F5 a0 s2) := by
  unfold weirlaw3_Ints_Settle.L5
  refine SJ.seq ?_
  refine SJ.sr 10 ?_
  refine OJ.go 2 [(23, .pointer a0), (22, .int .i64 s94)] ?_
  refine OJ.nilck (d := 24) (y := .tmp 23) (fun p105 => ?_)
  refine OJ.go 1 [(25, .pointer (some p105))] ?_
  refine OJ.ld (d := 26) (y := .tmp 25) (pend2 := fun x106 => []) Ty74 (fun _ => rfl) (fun x106 => ?_)
  refine OJ.go 1 [(27, .int .i64 s2)] ?_
  refine OJ.idxS (d := 28) (T := 74) (y := .tmp 26) (j := .tmp 27) (E := 67) (cap := x106.cap) (k := .i64) (fun p107 => ?_)
  refine OJ.ld (d := 29) (y := .tmp 28) (pend2 := fun x108 => []) Ty67 (fun _ => rfl) (fun x108 => ?_)
  refine OJ.go 2 [(31, .bool (decide (s94 < (x108.len : Int)))), (30, .int .i64 (x108.len : Int))] ?_
  refine OJ.nil ?_
  refine SJ.cond (t := (.tmp 31)) (b := decide (s94 < (x108.len : Int))) decide_eq_true_iff (fun hc114 => ?_) (fun hc114 => ?_)
  · refine SJ.skip ?_
    refine SJ.seq ?_
    refine SJ.block (id := 3) ?_
    refine SJ.rg 12 ?_
    refine OJ.go 1 [(34, .pointer a0)] ?_
    refine OJ.nilck (d := 35) (y := .tmp 34) (fun p109 => ?_)
    refine OJ.go 1 [(36, .pointer (some p109))] ?_
    refine OJ.ld (d := 37) (y := .tmp 36) (pend2 := fun x110 => []) Ty74 (fun _ => rfl) (fun x110 => ?_)
    refine OJ.go 1 [(38, .int .i64 s2)] ?_
    refine OJ.idxS (d := 39) (T := 74) (y := .tmp 37) (j := .tmp 38) (E := 67) (cap := x110.cap) (k := .i64) (fun p111 => ?_)
    refine OJ.ld (d := 40) (y := .tmp 39) (pend2 := fun x112 => []) Ty67 (fun _ => rfl) (fun x112 => ?_)
    refine OJ.go 3 [(43, .int .i64 (IntKind.wrap .i64 ((-1000) - s2))), (42, .int .i64 s2), (41, .int .i64 s94)] ?_
    refine OJ.idxS (d := 44) (T := 67) (y := .tmp 40) (j := .tmp 41) (E := 3) (cap := x112.cap) (k := .i64) (fun p113 => ?_)
    refine OJ.st (y := .tmp 44) (z := .tmp 43) (owed := []) Ty3 ?_
    refine OW.nil ?_
    refine OJ.nil ?_
    refine SJ.inBlock ?_
    refine SJ.rg 3 ?_
    refine OJ.go 3 [(4, .int .i64 (IntKind.wrap .i64 (s94 + 1))), (33, .int .i64 (IntKind.wrap .i64 (s94 + 1))), (32, .int .i64 s94)] ?_
    refine OJ.nil ?_
    exact SJ.at_ [0, 3, 4] rfl
  · refine SJ.exit (id := 2) (by rfl) ?_
    refine SJ.inBlock ?_
    refine SJ.rg 3 ?_
    refine OJ.go 3 [(3, .int .i64 (IntKind.wrap .i64 (s2 + 1))), (21, .int .i64 (IntKind.wrap .i64 (s2 + 1))), (20, .int .i64 s2)] ?_
    refine OJ.nil ?_
    exact SJ.at_ [0, 3] rfl
noncomputable def weirlaw3_Ints_Settle.L4 (a0 : (Option Addr)) (s2 : Int) : M (LS Int Bool) :=
  nilck a0 >>= fun p92 =>
  ld cL p92 >>= fun x93 =>
  if s2 < (x93.len : Int) then
    loopM (fun s_ : Int => weirlaw3_Ints_Settle.L5 a0 s2 s_) 0
  else
    (weirlaw3_Ints_Settle.K2 a0) >>= fun b => pure (LS.done b)
theorem weirlaw3_Ints_Settle.L4_ok (a0 : (Option Addr)) (s2 : Int) :
    SJ weirlaw3_Ints_Settle.cx [.code (c1 (c1 (c2 (c1 (c2 (c2 weirlaw3_Ints_Settle.B)))))), .inLoop (c1 (c1 (c2 (c1 (c2 (c2 weirlaw3_Ints_Settle.B)))))), .inBlock 0, .code (c2 (c2 (c2 weirlaw3_Ints_Settle.B)))] [(0, .pointer a0), (3, .int .i64 s2)] [] (weirlaw3_Ints_Settle.L4 a0 s2) (weirlaw3_Ints_Settle.F4 a0) := by
  unfold weirlaw3_Ints_Settle.L4
  refine SJ.seq ?_
  refine SJ.sr 7 ?_
  refine OJ.go 2 [(14, .pointer a0), (13, .int .i64 s2)] ?_
  refine OJ.nilck (d := 15) (y := .tmp 14) (fun p92 => ?_)
  refine OJ.go 1 [(16, .pointer (some p92))] ?_
  refine OJ.ld (d := 17) (y := .tmp 16) (pend2 := fun x93 => []) Ty74 (fun _ => rfl) (fun x93 => ?_)
  refine OJ.go 2 [(19, .bool (decide (s2 < (x93.len : Int)))), (18, .int .i64 (x93.len : Int))] ?_
  refine OJ.nil ?_
  refine SJ.cond (t := (.tmp 19)) (b := decide (s2 < (x93.len : Int))) decide_eq_true_iff (fun hc115 => ?_) (fun hc115 => ?_)
  · refine SJ.skip ?_
    refine SJ.seq ?_
    refine SJ.block (id := 1) ?_
    refine SJ.sr 1 ?_
    refine OJ.go 1 [(4, .int .i64 0)] ?_
    refine OJ.nil ?_
    refine SJ.block (id := 2) ?_
    exact SJ.loop (fun s_ : Int => [(0, .pointer a0), (3, .int .i64 s2), (4, .int .i64 s_)]) (fun s_ : Int => []) [0, 3, 4] rfl (fun _ _ => rfl) (fun s_ => weirlaw3_Ints_Settle.L5_ok a0 s2 s_)
  · refine SJ.exit (id := 0) (by rfl) ?_
    refine SJ.less [0] (m' := [(0, .pointer a0)]) ?_
    refine SJ.done ?_
    exact weirlaw3_Ints_Settle.K2_ok a0
noncomputable def weirlaw3_Ints_Settle (a0 : (Option Addr)) : M Bool :=
  weirlaw3_Ints_Untouched a0 >>= fun r1 =>
  if ¬ (r1 = true) then
    pure false
  else
    loopM (fun s_ : Int => weirlaw3_Ints_Settle.L4 a0 s_) 0
theorem weirlaw3_Ints_Settle_ok (a0 : (Option Addr)) : Ref Try.prog 40 [.pointer a0] (weirlaw3_Ints_Settle a0) weirlaw3_Ints_Settle.out := by
  refine Ref.of (cd := weirlaw3_Ints_Settle.B) Try.func40 ?_
  show SJ weirlaw3_Ints_Settle.cx [.code weirlaw3_Ints_Settle.B] [(0, .pointer a0)] [] (weirlaw3_Ints_Settle a0) weirlaw3_Ints_Settle.F0
  unfold weirlaw3_Ints_Settle
  refine SJ.sr 1 ?_
  refine OJ.go 1 [(2, .bool false)] ?_
  refine OJ.nil ?_
  refine SJ.seq ?_
  refine SJ.sr 3 ?_
  refine OJ.go 1 [(10, .pointer a0)] ?_
  refine OJ.call (d := 11) (g := 38) (ats := #[73]) (args := [.tmp 10]) (owed := []) F38 (weirlaw3_Ints_Untouched_ok a0) (fun r1 => ?_)
  refine OW.nil ?_
  refine OJ.go 1 [(12, .bool (!r1))] ?_
  refine OJ.nil ?_
  refine SJ.cond (t := (.tmp 12)) (b := (!r1)) (bnot_iff Iff.rfl) (fun hc116 => ?_) (fun hc116 => ?_)
  · refine SJ.sr 1 ?_
    refine OJ.go 1 [(2, .bool false)] ?_
    refine OJ.nil ?_
    exact SJ.ret rfl (Res.run (ys := [.bool false]) (.tmp (by kernel_rfl) .nil) rfl)
  · refine SJ.skip ?_
    refine SJ.seq ?_
    refine SJ.sr 1 ?_
    refine OJ.go 1 [(3, .int .i64 0)] ?_
    refine OJ.nil ?_
    refine SJ.block (id := 0) ?_
    exact SJ.loop (fun s_ : Int => [(0, .pointer a0), (3, .int .i64 s_)]) (fun s_ : Int => []) [0, 3] rfl (fun _ _ => rfl) (fun s_ => weirlaw3_Ints_Settle.L4_ok a0 s_)

/-! ### weir/weirlaw3.RingLent: function 11 -/
noncomputable def weirlaw3_RingLent.B : Code := (Try.f11.body).getD .skip
noncomputable def weirlaw3_RingLent.cx : Fx := ⟨Try.prog, 11, Try.f11⟩
noncomputable def weirlaw3_RingLent.out (r_ : Bool) : Value := .bool r_
noncomputable def weirlaw3_RingLent.F0 (r_ : Bool) : Reach := .ret (weirlaw3_RingLent.out r_)
noncomputable def weirlaw3_RingLent.F1 (a4 : Sl) (r1 : ((Option Addr) × Int × Int × Int × Int)) (b4 : Nat) (b5 : Nat) : (LS Int Bool) → Reach := loopF [.inLoop (c1 (c1 (c2 (c1 (c2 (c2 (c2 (c2 (c2 weirlaw3_RingLent.B))))))))), .inBlock 0, .code (c2 (c2 (c2 (c2 (c2 (c2 weirlaw3_RingLent.B))))))] (fun s_ : Int => [(4, Sl.v a4), (11, .pointer r1.1), (14, .int .i64 r1.2.2.2.1), (16, .pointer (some (pt b4 0))), (17, .pointer (some (pt b5 0))), (18, .int .i64 s_)]) (fun s_ : Int => []) weirlaw3_RingLent.F0
noncomputable def weirlaw3_RingLent.K1 (b4 : Nat) (b5 : Nat) (s6 : Int) : M (LS Int Bool) :=
  weirlaw3_Book_Untouched (some (pt b4 0)) >>= fun r93 =>
  (if ¬ (r93 = true) then
      pure true
    else
      weirlaw3_Ints_Untouched (some (pt b5 0)) >>= fun r94 =>
      pure (!r94)) >>= fun y95 =>
  if y95 = true then
    pure (LS.done false)
  else
    pure (LS.next (IntKind.wrap .i64 (s6 + 1)))
theorem weirlaw3_RingLent.K1_ok (a4 : Sl) (r1 : ((Option Addr) × Int × Int × Int × Int)) (b4 : Nat) (b5 : Nat) (s6 : Int) :
    SJ weirlaw3_RingLent.cx [.inBlock 2, .code (c2 (c2 (c1 (c1 (c2 (c1 (c1 (c2 (c1 (c2 (c2 (c2 (c2 (c2 weirlaw3_RingLent.B)))))))))))))), .inBlock 1, .code (c2 (c2 (c1 (c1 (c2 (c1 (c2 (c2 (c2 (c2 (c2 weirlaw3_RingLent.B))))))))))), .inLoop (c1 (c1 (c2 (c1 (c2 (c2 (c2 (c2 (c2 weirlaw3_RingLent.B))))))))), .inBlock 0, .code (c2 (c2 (c2 (c2 (c2 (c2 weirlaw3_RingLent.B))))))] [(4, Sl.v a4), (11, .pointer r1.1), (14, .int .i64 r1.2.2.2.1), (16, .pointer (some (pt b4 0))), (17, .pointer (some (pt b5 0))), (18, .int .i64 s6)] [] (weirlaw3_RingLent.K1 b4 b5 s6) (weirlaw3_RingLent.F1 a4 r1 b4 b5) := by
  unfold weirlaw3_RingLent.K1
  refine SJ.inBlock ?_
  refine SJ.sr 8 ?_
  refine OJ.go 1 [(105, .pointer (some (pt b4 0)))] ?_
  refine OJ.call (d := 106) (g := 37) (ats := #[70]) (args := [.tmp 105]) (owed := []) F37 (weirlaw3_Book_Untouched_ok (some (pt b4 0))) (fun r93 => ?_)
  refine OW.nil ?_
  refine OJ.go 2 [(108, .bool (!r93)), (107, .bool (!r93))] ?_
  refine OJ.join (b := (!r93)) [4, 5, 6, 7] [] [4, 11, 14, 16, 17, 18, 112] (fun y95 => [(4, Sl.v a4), (11, .pointer r1.1), (14, .int .i64 r1.2.2.2.1), (16, .pointer (some (pt b4 0))), (17, .pointer (some (pt b5 0))), (18, .int .i64 s6), (112, .bool y95)]) [] [] (t := 108) (bnot_iff Iff.rfl) (fun hp_ => ?_) (fun hp_ => ?_) (fun _ _ _ _ _ _ h_ => h_) (fun y95 => ?_)
  · refine OJ.go 4 [(112, .bool true), (111, undef), (110, undef), (109, undef)] ?_
    exact OJ.nil ⟨(Cov.mem Cov.nil), rfl, _, rfl, by kernel_rfl⟩
  · refine OJ.go 1 [(109, .pointer (some (pt b5 0)))] ?_
    refine OJ.call (d := 110) (g := 38) (ats := #[73]) (args := [.tmp 109]) (owed := []) F38 (weirlaw3_Ints_Untouched_ok (some (pt b5 0))) (fun r94 => ?_)
    refine OW.nil ?_
    refine OJ.go 2 [(112, .bool (!r94)), (111, .bool (!r94))] ?_
    exact OJ.nil ⟨(Cov.mem Cov.nil), rfl, _, rfl, by kernel_rfl⟩
  · refine OJ.nil ?_
    refine SJ.cond (t := (.tmp 112)) (b := y95) Iff.rfl (fun hc96 => ?_) (fun hc96 => ?_)
    · refine SJ.sr 1 ?_
      refine OJ.go 1 [(10, .bool false)] ?_
      refine OJ.nil ?_
      exact SJ.ret rfl (Res.run (ys := [.bool false]) (.tmp (by kernel_rfl) .nil) rfl)
    · refine SJ.skip ?_
      refine SJ.inBlock ?_
      refine SJ.rg 3 ?_
      refine OJ.go 3 [(18, .int .i64 (IntKind.wrap .i64 (s6 + 1))), (54, .int .i64 (IntKind.wrap .i64 (s6 + 1))), (53, .int .i64 s6)] ?_
      refine OJ.nil ?_
      exact SJ.at_ [4, 11, 14, 16, 17, 18] rfl
noncomputable def weirlaw3_RingLent.K2 (b4 : Nat) (b5 : Nat) (s6 : Int) : M (LS Int Bool) :=
  weirlaw3_RingLent.K1 b4 b5 s6
theorem weirlaw3_RingLent.K2_ok (a4 : Sl) (r1 : ((Option Addr) × Int × Int × Int × Int)) (b4 : Nat) (b5 : Nat) (s6 : Int) :
    SJ weirlaw3_RingLent.cx [.inBlock 2, .code (c2 (c2 (c1 (c1 (c2 (c1 (c1 (c2 (c1 (c2 (c2 (c2 (c2 (c2 weirlaw3_RingLent.B)))))))))))))), .inBlock 1, .code (c2 (c2 (c1 (c1 (c2 (c1 (c2 (c2 (c2 (c2 (c2 weirlaw3_RingLent.B))))))))))), .inLoop (c1 (c1 (c2 (c1 (c2 (c2 (c2 (c2 (c2 weirlaw3_RingLent.B))))))))), .inBlock 0, .code (c2 (c2 (c2 (c2 (c2 (c2 weirlaw3_RingLent.B))))))] [(4, Sl.v a4), (11, .pointer r1.1), (14, .int .i64 r1.2.2.2.1), (16, .pointer (some (pt b4 0))), (17, .pointer (some (pt b5 0))), (18, .int .i64 s6)] [] (weirlaw3_RingLent.K2 b4 b5 s6) (weirlaw3_RingLent.F1 a4 r1 b4 b5) := by
  unfold weirlaw3_RingLent.K2
  refine SJ.less [4, 11, 14, 16, 17, 18] (m' := [(4, Sl.v a4), (11, .pointer r1.1), (14, .int .i64 r1.2.2.2.1), (16, .pointer (some (pt b4 0))), (17, .pointer (some (pt b5 0))), (18, .int .i64 s6)]) ?_
  exact weirlaw3_RingLent.K1_ok a4 r1 b4 b5 s6
noncomputable def weirlaw3_RingLent.L1 (a4 : Sl) (r1 : ((Option Addr) × Int × Int × Int × Int)) (b4 : Nat) (b5 : Nat) (s6 : Int) : M (LS Int Bool) :=
  (if s6 < (a4.len : Int) then
      pure (decide (s6 < 200))
    else
      pure false) >>= fun y63 =>
  if y63 = true then
    idx a4.a a4.len s6 5 >>= fun p67 =>
    ld c_weirlaw3_Op p67 >>= fun x68 =>
    slot 45 >>= fun b69 =>
    if x68.Kind = 8 then
      ring_Port_Drain r1.1 >>= fun r97 =>
      (if ¬ (r97.2 = true) then
          pure (decide ((r97.1.len : Int) > 0))
        else
          pure false) >>= fun y98 =>
      if y98 = true then
        pure (LS.done false)
      else
        weirlaw3_Book_Keep (some (pt b4 0)) r97.1 >>= fun r99 =>
        weirlaw3_RingLent.K1 b4 b5 s6
    else
      if x68.Kind = 9 then
        if r1.2.2.2.1 > 64 then
          pure (LS.next (IntKind.wrap .i64 (s6 + 1)))
        else
          ring_Port_Places r1.1 >>= fun r110 =>
          ring_Port_Places r1.1 >>= fun r111 =>
          weirlaw3_same r110 r111 >>= fun r112 =>
          (if ¬ (r112 = true) then
              pure true
            else
              pure ((r110.len : Int) != r1.2.2.2.1)) >>= fun y113 =>
          if y113 = true then
            pure (LS.done false)
          else
            weirlaw3_Ints_Keep (some (pt b5 0)) r110 >>= fun r114 =>
            weirlaw3_Ints_Keep (some (pt b5 0)) r111 >>= fun r115 =>
            weirlaw3_RingLent.K2 b4 b5 s6
      else
        weirlaw3_do r1.1 x68 >>= fun r118 =>
        weirlaw3_RingLent.K2 b4 b5 s6
  else
    weirlaw3_Book_Settle (some (pt b4 0)) >>= fun r121 =>
    (if r121 = true then
        weirlaw3_Ints_Settle (some (pt b5 0)) >>= fun r122 =>
        pure r122
      else
        pure false) >>= fun y123 =>
    pure (LS.done y123)
theorem weirlaw3_RingLent.L1_ok (a4 : Sl) (r1 : ((Option Addr) × Int × Int × Int × Int)) (b4 : Nat) (b5 : Nat) (s6 : Int) :
    SJ weirlaw3_RingLent.cx [.code (c1 (c1 (c2 (c1 (c2 (c2 (c2 (c2 (c2 weirlaw3_RingLent.B))))))))), .inLoop (c1 (c1 (c2 (c1 (c2 (c2 (c2 (c2 (c2 weirlaw3_RingLent.B))))))))), .inBlock 0, .code (c2 (c2 (c2 (c2 (c2 (c2 weirlaw3_RingLent.B))))))] [(4, Sl.v a4), (11, .pointer r1.1), (14, .int .i64 r1.2.2.2.1), (16, .pointer (some (pt b4 0))), (17, .pointer (some (pt b5 0))), (18, .int .i64 s6)] [] (weirlaw3_RingLent.L1 a4 r1 b4 b5 s6) (weirlaw3_RingLent.F1 a4 r1 b4 b5) := by
  unfold weirlaw3_RingLent.L1
  refine SJ.seq ?_
  refine SJ.sr 8 ?_
  refine OJ.go 5 [(49, .bool (decide (s6 < (a4.len : Int)))), (48, .bool (decide (s6 < (a4.len : Int)))), (47, .int .i64 (a4.len : Int)), (46, Sl.v a4), (45, .int .i64 s6)] ?_
  refine OJ.join (b := decide (s6 < (a4.len : Int))) [5, 6, 7] [] [4, 11, 14, 16, 17, 18, 52] (fun y63 => [(4, Sl.v a4), (11, .pointer r1.1), (14, .int .i64 r1.2.2.2.1), (16, .pointer (some (pt b4 0))), (17, .pointer (some (pt b5 0))), (18, .int .i64 s6), (52, .bool y63)]) [] [] (t := 49) decide_eq_true_iff (fun hp_ => ?_) (fun hp_ => ?_) (fun _ _ _ _ _ _ h_ => h_) (fun y63 => ?_)
  · refine OJ.go 3 [(52, .bool (decide (s6 < 200))), (51, .bool (decide (s6 < 200))), (50, .int .i64 s6)] ?_
    exact OJ.nil ⟨(Cov.mem Cov.nil), rfl, _, rfl, by kernel_rfl⟩
  · refine OJ.go 3 [(52, .bool false), (51, undef), (50, undef)] ?_
    exact OJ.nil ⟨(Cov.mem Cov.nil), rfl, _, rfl, by kernel_rfl⟩
  · refine OJ.nil ?_
    refine SJ.cond (t := (.tmp 52)) (b := y63) Iff.rfl (fun hc124 => ?_) (fun hc124 => ?_)
    · refine SJ.skip ?_
      refine SJ.seq ?_
      refine SJ.block (id := 1) ?_
      refine SJ.sr 6 ?_
      refine OJ.go 2 [(56, .int .i64 s6), (55, Sl.v a4)] ?_
      refine OJ.idxS (d := 57) (T := 40) (y := .tmp 55) (j := .tmp 56) (E := 45) (cap := a4.cap) (k := .i64) (fun p67 => ?_)
      refine OJ.ld (d := 58) (y := .tmp 57) (pend2 := fun x68 => []) Ty45 (fun _ => rfl) (fun x68 => ?_)
      refine OJ.slotOf (d := 19) (op := (.alloc 45)) (cd := c_weirlaw3_Op) (u := z_weirlaw3_Op) (owed := []) (alloc_run Ty45) (fun b69 => ?_)
      refine OW.nil ?_
      refine OJ.kst (y := .tmp 19) (z := .tmp 58) (cd := c_weirlaw3_Op) (u := x68) (j := 0) (b := b69) (o := 0) (c_weirlaw3_Op.enc x68) (owed := []) Ty45 rfl (Upd.whole ((Cod.len _ _).trans (Cod.len _ _).symm)) rfl ?_
      refine OW.nil ?_
      refine OJ.nil ?_
      refine SJ.seq ?_
      refine SJ.sr 2 ?_
      refine OJ.go 1 [(59, .pointer (some (pt b69 0)))] ?_
      refine OJ.kld (d := 60) (y := .tmp 59) (cd := (cI .i64)) (j := 0) (b := b69) (o := 0) x68.Kind (pend2 := []) Ty3 rfl (At_weirlaw3_Op_Kind x68) rfl ?_
      refine OJ.nil ?_
      refine SJ.block (id := 2) ?_
      refine SJ.sr 2 ?_
      refine OJ.go 2 [(64, .bool (x68.Kind == 8)), (65, .bool (x68.Kind == 8))] ?_
      refine OJ.nil ?_
      refine SJ.cond (t := (.tmp 64)) (b := (x68.Kind == 8)) beq_iff_eq (fun hc120 => ?_) (fun hc120 => ?_)
      · refine SJ.sr 7 ?_
        refine OJ.go 1 [(67, .pointer r1.1)] ?_
        refine OJ.call (d := 68) (g := 22) (ats := #[23]) (args := [.tmp 67]) (owed := []) F22 (ring_Port_Drain_ok r1.1) (fun r97 => ?_)
        refine OW.nil ?_
        refine OJ.go 5 [(21, .bool r97.2), (20, Sl.v r97.1), (70, .bool r97.2), (69, Sl.v r97.1), (66, .tuple #[Sl.v r97.1, .bool r97.2])] ?_
        refine OJ.nil ?_
        refine SJ.seq ?_
        refine SJ.sr 7 ?_
        refine OJ.go 3 [(73, .bool (!r97.2)), (72, .bool (!r97.2)), (71, .bool r97.2)] ?_
        refine OJ.join (b := (!r97.2)) [3, 4, 5, 6] [] [4, 11, 14, 16, 17, 18, 20, 77] (fun y98 => [(4, Sl.v a4), (11, .pointer r1.1), (14, .int .i64 r1.2.2.2.1), (16, .pointer (some (pt b4 0))), (17, .pointer (some (pt b5 0))), (18, .int .i64 s6), (20, Sl.v r97.1), (77, .bool y98)]) [] [] (t := 73) (bnot_iff Iff.rfl) (fun hp_ => ?_) (fun hp_ => ?_) (fun _ _ _ _ _ _ h_ => h_) (fun y98 => ?_)
        · refine OJ.go 4 [(77, .bool (decide ((r97.1.len : Int) > 0))), (76, .bool (decide ((r97.1.len : Int) > 0))), (75, .int .i64 (r97.1.len : Int)), (74, Sl.v r97.1)] ?_
          exact OJ.nil ⟨(Cov.mem Cov.nil), rfl, _, rfl, by kernel_rfl⟩
        · refine OJ.go 4 [(77, .bool false), (76, undef), (75, undef), (74, undef)] ?_
          exact OJ.nil ⟨(Cov.mem Cov.nil), rfl, _, rfl, by kernel_rfl⟩
        · refine OJ.nil ?_
          refine SJ.cond (t := (.tmp 77)) (b := y98) Iff.rfl (fun hc100 => ?_) (fun hc100 => ?_)
          · refine SJ.sr 1 ?_
            refine OJ.go 1 [(10, .bool false)] ?_
            refine OJ.nil ?_
            exact SJ.ret rfl (Res.run (ys := [.bool false]) (.tmp (by kernel_rfl) .nil) rfl)
          · refine SJ.skip ?_
            refine SJ.rg 3 ?_
            refine OJ.go 2 [(79, Sl.v r97.1), (78, .pointer (some (pt b4 0)))] ?_
            refine OJ.call (d := 80) (g := 34) (ats := #[70, 22]) (args := [.tmp 78, .tmp 79]) (owed := []) F34 (weirlaw3_Book_Keep_ok (some (pt b4 0)) r97.1) (fun r99 => ?_)
            refine OW.nil ?_
            refine OJ.nil ?_
            refine SJ.forget (List.Sublist.cons _ List.Sublist.slnil) ?_
            refine SJ.less [4, 11, 14, 16, 17, 18] (m' := [(4, Sl.v a4), (11, .pointer r1.1), (14, .int .i64 r1.2.2.2.1), (16, .pointer (some (pt b4 0))), (17, .pointer (some (pt b5 0))), (18, .int .i64 s6)]) ?_
            exact weirlaw3_RingLent.K1_ok a4 r1 b4 b5 s6
      · refine SJ.sr 2 ?_
        refine OJ.go 2 [(81, .bool (x68.Kind == 9)), (82, .bool (x68.Kind == 9))] ?_
        refine OJ.nil ?_
        refine SJ.cond (t := (.tmp 81)) (b := (x68.Kind == 9)) beq_iff_eq (fun hc119 => ?_) (fun hc119 => ?_)
        · refine SJ.seq ?_
          refine SJ.sr 2 ?_
          refine OJ.go 2 [(84, .bool (decide (r1.2.2.2.1 > 64))), (83, .int .i64 r1.2.2.2.1)] ?_
          refine OJ.nil ?_
          refine SJ.cond (t := (.tmp 84)) (b := decide (r1.2.2.2.1 > 64)) decide_eq_true_iff (fun hc117 => ?_) (fun hc117 => ?_)
          · refine SJ.exit (id := 1) (by rfl) ?_
            refine SJ.rg 3 ?_
            refine OJ.go 3 [(18, .int .i64 (IntKind.wrap .i64 (s6 + 1))), (54, .int .i64 (IntKind.wrap .i64 (s6 + 1))), (53, .int .i64 s6)] ?_
            refine OJ.nil ?_
            refine SJ.forget (List.Sublist.cons _ List.Sublist.slnil) ?_
            exact SJ.at_ [4, 11, 14, 16, 17, 18] rfl
          · refine SJ.skip ?_
            refine SJ.sr 3 ?_
            refine OJ.go 1 [(85, .pointer r1.1)] ?_
            refine OJ.call (d := 86) (g := 32) (ats := #[23]) (args := [.tmp 85]) (owed := []) F32 (ring_Port_Places_ok r1.1) (fun r110 => ?_)
            refine OW.nil ?_
            refine OJ.go 1 [(22, Sl.v r110)] ?_
            refine OJ.nil ?_
            refine SJ.sr 3 ?_
            refine OJ.go 1 [(87, .pointer r1.1)] ?_
            refine OJ.call (d := 88) (g := 32) (ats := #[23]) (args := [.tmp 87]) (owed := []) F32 (ring_Port_Places_ok r1.1) (fun r111 => ?_)
            refine OW.nil ?_
            refine OJ.go 1 [(23, Sl.v r111)] ?_
            refine OJ.nil ?_
            refine SJ.seq ?_
            refine SJ.sr 10 ?_
            refine OJ.go 2 [(90, Sl.v r111), (89, Sl.v r110)] ?_
            refine OJ.call (d := 91) (g := 35) (ats := #[67, 67]) (args := [.tmp 89, .tmp 90]) (owed := []) F35 (weirlaw3_same_ok r110 r111) (fun r112 => ?_)
            refine OW.nil ?_
            refine OJ.go 2 [(93, .bool (!r112)), (92, .bool (!r112))] ?_
            refine OJ.join (b := (!r112)) [5, 6, 7, 8, 9] [] [4, 11, 14, 16, 17, 18, 22, 23, 98] (fun y113 => [(4, Sl.v a4), (11, .pointer r1.1), (14, .int .i64 r1.2.2.2.1), (16, .pointer (some (pt b4 0))), (17, .pointer (some (pt b5 0))), (18, .int .i64 s6), (22, Sl.v r110), (23, Sl.v r111), (98, .bool y113)]) [] [] (t := 93) (bnot_iff Iff.rfl) (fun hp_ => ?_) (fun hp_ => ?_) (fun _ _ _ _ _ _ h_ => h_) (fun y113 => ?_)
            · refine OJ.go 5 [(98, .bool true), (97, undef), (96, undef), (95, undef), (94, undef)] ?_
              exact OJ.nil ⟨(Cov.mem Cov.nil), rfl, _, rfl, by kernel_rfl⟩
            · refine OJ.go 5 [(98, .bool ((r110.len : Int) != r1.2.2.2.1)), (97, .bool ((r110.len : Int) != r1.2.2.2.1)), (96, .int .i64 r1.2.2.2.1), (95, .int .i64 (r110.len : Int)), (94, Sl.v r110)] ?_
              exact OJ.nil ⟨(Cov.mem Cov.nil), rfl, _, rfl, by kernel_rfl⟩
            · refine OJ.nil ?_
              refine SJ.cond (t := (.tmp 98)) (b := y113) Iff.rfl (fun hc116 => ?_) (fun hc116 => ?_)
              · refine SJ.sr 1 ?_
                refine OJ.go 1 [(10, .bool false)] ?_
                refine OJ.nil ?_
                exact SJ.ret rfl (Res.run (ys := [.bool false]) (.tmp (by kernel_rfl) .nil) rfl)
              · refine SJ.skip ?_
                refine SJ.sr 3 ?_
                refine OJ.go 2 [(100, Sl.v r110), (99, .pointer (some (pt b5 0)))] ?_
                refine OJ.call (d := 101) (g := 36) (ats := #[73, 67]) (args := [.tmp 99, .tmp 100]) (owed := []) F36 (weirlaw3_Ints_Keep_ok (some (pt b5 0)) r110) (fun r114 => ?_)
                refine OW.nil ?_
                refine OJ.nil ?_
                refine SJ.rg 3 ?_
                refine OJ.go 2 [(103, Sl.v r111), (102, .pointer (some (pt b5 0)))] ?_
                refine OJ.call (d := 104) (g := 36) (ats := #[73, 67]) (args := [.tmp 102, .tmp 103]) (owed := []) F36 (weirlaw3_Ints_Keep_ok (some (pt b5 0)) r111) (fun r115 => ?_)
                refine OW.nil ?_
                refine OJ.nil ?_
                refine SJ.forget (List.Sublist.cons _ List.Sublist.slnil) ?_
                refine SJ.less [4, 11, 14, 16, 17, 18] (m' := [(4, Sl.v a4), (11, .pointer r1.1), (14, .int .i64 r1.2.2.2.1), (16, .pointer (some (pt b4 0))), (17, .pointer (some (pt b5 0))), (18, .int .i64 s6)]) ?_
                exact weirlaw3_RingLent.K2_ok a4 r1 b4 b5 s6
        · refine SJ.rg 3 ?_
          refine OJ.go 1 [(61, .pointer r1.1)] ?_
          refine OJ.kld (d := 62) (y := .tmp 19) (cd := c_weirlaw3_Op) (j := 0) (b := b69) (o := 0) x68 (pend2 := []) Ty45 rfl (At.whole _) rfl ?_
          refine OJ.call (d := 63) (g := 26) (ats := #[23, 45]) (args := [.tmp 61, .tmp 62]) (owed := []) F26 (weirlaw3_do_ok r1.1 x68) (fun r118 => ?_)
          refine OW.nil ?_
          refine OJ.nil ?_
          refine SJ.forget (List.Sublist.cons _ List.Sublist.slnil) ?_
          refine SJ.less [4, 11, 14, 16, 17, 18] (m' := [(4, Sl.v a4), (11, .pointer r1.1), (14, .int .i64 r1.2.2.2.1), (16, .pointer (some (pt b4 0))), (17, .pointer (some (pt b5 0))), (18, .int .i64 s6)]) ?_
          exact weirlaw3_RingLent.K2_ok a4 r1 b4 b5 s6
    · refine SJ.exit (id := 0) (by rfl) ?_
      refine SJ.sr 7 ?_
      refine OJ.go 1 [(113, .pointer (some (pt b4 0)))] ?_
      refine OJ.call (d := 114) (g := 39) (ats := #[70]) (args := [.tmp 113]) (owed := []) F39 (weirlaw3_Book_Settle_ok (some (pt b4 0))) (fun r121 => ?_)
      refine OW.nil ?_
      refine OJ.go 1 [(115, .bool r121)] ?_
      refine OJ.join (b := r121) [3, 4, 5] [6] [118] (fun y123 => [(118, .bool y123)]) [] [] (t := 115) Iff.rfl (fun hp_ => ?_) (fun hp_ => ?_) (fun _ _ _ _ _ _ h_ => h_) (fun y123 => ?_)
      · refine OJ.go 1 [(116, .pointer (some (pt b5 0)))] ?_
        refine OJ.call (d := 117) (g := 40) (ats := #[73]) (args := [.tmp 116]) (owed := []) F40 (weirlaw3_Ints_Settle_ok (some (pt b5 0))) (fun r122 => ?_)
        refine OW.nil ?_
        refine OJ.go 1 [(118, .bool r122)] ?_
        exact OJ.nil ⟨(Cov.mem Cov.nil), rfl, _, rfl, by kernel_rfl⟩
      · refine OJ.go 3 [(118, .bool false), (117, undef), (116, undef)] ?_
        exact OJ.nil ⟨(Cov.mem Cov.nil), rfl, _, rfl, by kernel_rfl⟩
      · refine OJ.go 1 [(10, .bool y123)] ?_
        refine OJ.nil ?_
        exact SJ.ret rfl (Res.run (ys := [.bool y123]) (.tmp (by kernel_rfl) .nil) rfl)
noncomputable def weirlaw3_RingLent (a0 : Int) (a1 : Int) (a2 : Int) (a3 : Int) (a4 : Sl) : M Bool :=
  weirlaw3_port a0 a1 a2 a3 >>= fun r1 =>
  (if r1.1 = none then
      pure true
    else
      weirlaw3_started >>= fun r2 =>
      pure (!r2)) >>= fun y3 =>
  if y3 = true then
    pure false
  else
    newv 72 c_weirlaw3_Book z_weirlaw3_Book >>= fun b4 =>
    newv 76 c_weirlaw3_Ints z_weirlaw3_Ints >>= fun b5 =>
    loopM (fun s_ : Int => weirlaw3_RingLent.L1 a4 r1 b4 b5 s_) 0
theorem weirlaw3_RingLent_ok (a0 : Int) (a1 : Int) (a2 : Int) (a3 : Int) (a4 : Sl) : Ref Try.prog 11 [.int .i64 a0, .int .i64 a1, .int .i64 a2, .int .i64 a3, Sl.v a4] (weirlaw3_RingLent a0 a1 a2 a3 a4) weirlaw3_RingLent.out := by
  refine Ref.of (cd := weirlaw3_RingLent.B) Try.func11 ?_
  show SJ weirlaw3_RingLent.cx [.code weirlaw3_RingLent.B] [(0, .int .i64 a0), (1, .int .i64 a1), (2, .int .i64 a2), (3, .int .i64 a3), (4, Sl.v a4)] [] (weirlaw3_RingLent a0 a1 a2 a3 a4) weirlaw3_RingLent.F0
  unfold weirlaw3_RingLent
  refine SJ.sr 1 ?_
  refine OJ.go 1 [(10, .bool false)] ?_
  refine OJ.nil ?_
  refine SJ.sr 16 ?_
  refine OJ.go 4 [(28, .int .i64 a3), (27, .int .i64 a2), (26, .int .i64 a1), (25, .int .i64 a0)] ?_
  refine OJ.call (d := 29) (g := 23) (ats := #[3, 3, 3, 3]) (args := [.tmp 25, .tmp 26, .tmp 27, .tmp 28]) (owed := []) F23 (weirlaw3_port_ok a0 a1 a2 a3) (fun r1 => ?_)
  refine OW.nil ?_
  refine OJ.go 11 [(15, .int .i64 r1.2.2.2.2), (14, .int .i64 r1.2.2.2.1), (13, .int .i64 r1.2.2.1), (12, .int .i64 r1.2.1), (11, .pointer r1.1), (34, .int .i64 r1.2.2.2.2), (33, .int .i64 r1.2.2.2.1), (32, .int .i64 r1.2.2.1), (31, .int .i64 r1.2.1), (30, .pointer r1.1), (24, .tuple #[.pointer r1.1, .int .i64 r1.2.1, .int .i64 r1.2.2.1, .int .i64 r1.2.2.2.1, .int .i64 r1.2.2.2.2])] ?_
  refine OJ.nil ?_
  refine SJ.seq ?_
  refine SJ.sr 6 ?_
  refine OJ.go 3 [(37, .bool (Option.isNone r1.1)), (36, .bool (Option.isNone r1.1)), (35, .pointer r1.1)] ?_
  refine OJ.join (b := (Option.isNone r1.1)) [3, 4, 5] [] [4, 11, 14, 40] (fun y3 => [(4, Sl.v a4), (11, .pointer r1.1), (14, .int .i64 r1.2.2.2.1), (40, .bool y3)]) [] [] (t := 37) Option.isNone_iff_eq_none (fun hp_ => ?_) (fun hp_ => ?_) (fun _ _ _ _ _ _ h_ => h_) (fun y3 => ?_)
  · refine OJ.go 3 [(40, .bool true), (39, undef), (38, undef)] ?_
    exact OJ.nil ⟨(Cov.mem Cov.nil), rfl, _, rfl, by kernel_rfl⟩
  · refine OJ.call (d := 38) (g := 29) (ats := #[]) (args := []) (owed := []) F29 (weirlaw3_started_ok ) (fun r2 => ?_)
    refine OW.nil ?_
    refine OJ.go 2 [(40, .bool (!r2)), (39, .bool (!r2))] ?_
    exact OJ.nil ⟨(Cov.mem Cov.nil), rfl, _, rfl, by kernel_rfl⟩
  · refine OJ.nil ?_
    refine SJ.cond (t := (.tmp 40)) (b := y3) Iff.rfl (fun hc125 => ?_) (fun hc125 => ?_)
    · refine SJ.sr 1 ?_
      refine OJ.go 1 [(10, .bool false)] ?_
      refine OJ.nil ?_
      exact SJ.ret rfl (Res.run (ys := [.bool false]) (.tmp (by kernel_rfl) .nil) rfl)
    · refine SJ.skip ?_
      refine SJ.sr 3 ?_
      refine OJ.build (d := 41) (T := 72) (parts := []) (ps := []) (cd := c_weirlaw3_Book) (z0 := z_weirlaw3_Book) z_weirlaw3_Book Ty72 rfl Filled.nil ?_
      refine OJ.newOf (d := 42) (op := (.box 72 (.tmp 41))) (cd := c_weirlaw3_Book) (u := z_weirlaw3_Book) (owed := []) (box_run (by kernel_rfl)) (fun b4 => ?_)
      refine OW.nil ?_
      refine OJ.go 1 [(16, .pointer (some (pt b4 0)))] ?_
      refine OJ.nil ?_
      refine SJ.sr 3 ?_
      refine OJ.build (d := 43) (T := 76) (parts := []) (ps := []) (cd := c_weirlaw3_Ints) (z0 := z_weirlaw3_Ints) z_weirlaw3_Ints Ty76 rfl Filled.nil ?_
      refine OJ.newOf (d := 44) (op := (.box 76 (.tmp 43))) (cd := c_weirlaw3_Ints) (u := z_weirlaw3_Ints) (owed := []) (box_run (by kernel_rfl)) (fun b5 => ?_)
      refine OW.nil ?_
      refine OJ.go 1 [(17, .pointer (some (pt b5 0)))] ?_
      refine OJ.nil ?_
      refine SJ.seq ?_
      refine SJ.sr 1 ?_
      refine OJ.go 1 [(18, .int .i64 0)] ?_
      refine OJ.nil ?_
      refine SJ.block (id := 0) ?_
      exact SJ.loop (fun s_ : Int => [(4, Sl.v a4), (11, .pointer r1.1), (14, .int .i64 r1.2.2.2.1), (16, .pointer (some (pt b4 0))), (17, .pointer (some (pt b5 0))), (18, .int .i64 s_)]) (fun s_ : Int => []) [4, 11, 14, 16, 17, 18] rfl (fun _ _ => rfl) (fun s_ => weirlaw3_RingLent.L1_ok a4 r1 b4 b5 s_)
end Go.Proofs.Ytoddkagehbcfjaa.Lx
