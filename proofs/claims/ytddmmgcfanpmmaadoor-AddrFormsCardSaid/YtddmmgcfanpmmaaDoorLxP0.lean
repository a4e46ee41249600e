/- Programs of the M-world for Go functions, each with the proof that the Go text does what it says. Printed by lxgen.py. -/
import Derived.Test.YtddmmgcfanpmmaaDoorLxT
set_option linter.unusedVariables false
set_option linter.unusedSimpArgs false
namespace Go.Proofs.YtddmmgcfanpmmaaDoor.Lx
open Go Go.Proofs
/-! ### weir/weirlaw4.written: function 8 -/
noncomputable def weirlaw4_written.B : Code := (Tryd.f8.body).getD .skip
noncomputable def weirlaw4_written.cx : Fx := ⟨Tryd.prog, 8, Tryd.f8⟩
noncomputable def weirlaw4_written.out (r_ : ByteArray) : Value := .string r_
noncomputable def weirlaw4_written.F0 (r_ : ByteArray) : Reach := .ret (weirlaw4_written.out r_)
noncomputable def weirlaw4_written.F1 (a2 : Int) : (LS ByteArray ByteArray) → Reach := loopF [.inLoop (c1 (c1 (c1 (c2 (c2 (c2 (c2 weirlaw4_written.B))))))), .inBlock 0, .code (c2 (c2 (c2 (c2 (c2 weirlaw4_written.B)))))] (fun s_ : ByteArray => [(2, .int .i64 a2), (8, .string s_)]) (fun s_ : ByteArray => []) weirlaw4_written.F0
noncomputable def weirlaw4_written.L1 (a2 : Int) (s12 : ByteArray) : M (LS ByteArray ByteArray) :=
  (if (band .i64 a2 2) = 2 then
      pure (decide ((s12.size : Int) > 1))
    else
      pure false) >>= fun y18 =>
  (if y18 = true then
      chk ((0 : Int) ≤ 0 ∧ 0 < (s12.size : Int)) >>= fun _ =>
      pure ((sb s12 0) == 48)
    else
      pure false) >>= fun y21 =>
  if y21 = true then
    chk (0 ≤ (1 : Int) ∧ (1 : Int) ≤ (s12.size : Int) ∧ (s12.size : Int) ≤ (s12.size : Int)) >>= fun _ =>
    pure (LS.next (ByteArray.extract s12 (Int.toNat 1) (Int.toNat (s12.size : Int))))
  else
    pure (LS.done s12)
theorem weirlaw4_written.L1_ok (a2 : Int) (s12 : ByteArray) :
    SJ weirlaw4_written.cx [.code (c1 (c1 (c1 (c2 (c2 (c2 (c2 weirlaw4_written.B))))))), .inLoop (c1 (c1 (c1 (c2 (c2 (c2 (c2 weirlaw4_written.B))))))), .inBlock 0, .code (c2 (c2 (c2 (c2 (c2 weirlaw4_written.B)))))] [(2, .int .i64 a2), (8, .string s12)] [] (weirlaw4_written.L1 a2 s12) (weirlaw4_written.F1 a2) := by
  unfold weirlaw4_written.L1
  refine SJ.seq ?_
  refine SJ.sr 13 ?_
  refine OJ.go 4 [(33, .bool ((band .i64 a2 2) == 2)), (32, .bool ((band .i64 a2 2) == 2)), (31, .int .i64 (band .i64 a2 2)), (30, .int .i64 a2)] ?_
  refine OJ.join (b := ((band .i64 a2 2) == 2)) [4, 5, 6, 7] [8, 9, 10, 11, 12] [2, 8, 37] (fun y18 => [(2, .int .i64 a2), (8, .string s12), (37, .bool y18)]) [] [] (t := 33) beq_iff_eq (fun hp_ => ?_) (fun hp_ => ?_) (fun _ _ _ _ _ _ h_ => h_) (fun y18 => ?_)
  · refine OJ.go 4 [(37, .bool (decide ((s12.size : Int) > 1))), (36, .bool (decide ((s12.size : Int) > 1))), (35, .int .i64 (s12.size : Int)), (34, .string s12)] ?_
    exact OJ.nil ⟨(Cov.mem Cov.nil), rfl, _, rfl, by kernel_rfl⟩
  · refine OJ.go 4 [(37, .bool false), (36, undef), (35, undef), (34, undef)] ?_
    exact OJ.nil ⟨(Cov.mem Cov.nil), rfl, _, rfl, by kernel_rfl⟩
  · refine OJ.go 1 [(38, .bool y18)] ?_
    refine OJ.join (b := y18) [9, 10, 11, 12] [] [2, 8, 42] (fun y21 => [(2, .int .i64 a2), (8, .string s12), (42, .bool y21)]) [] [] (t := 38) Iff.rfl (fun hp_ => ?_) (fun hp_ => ?_) (fun _ _ _ _ _ _ h_ => h_) (fun y21 => ?_)
    · refine OJ.go 1 [(39, .string s12)] ?_
      refine OJ.idxT (d := 40) (T := 9) (y := .tmp 39) (j := .const (.int .i64 0)) (k := .i64) (fun hb19 hb20 => ?_)
      refine OJ.go 2 [(42, .bool ((sb s12 0) == 48)), (41, .bool ((sb s12 0) == 48))] ?_
      exact OJ.nil ⟨(Cov.mem Cov.nil), rfl, _, rfl, by kernel_rfl⟩
    · refine OJ.go 4 [(42, .bool false), (41, undef), (40, undef), (39, undef)] ?_
      exact OJ.nil ⟨(Cov.mem Cov.nil), rfl, _, rfl, by kernel_rfl⟩
    · refine OJ.nil ?_
      refine SJ.cond (t := (.tmp 42)) (b := y21) Iff.rfl (fun hc22 => ?_) (fun hc22 => ?_)
      · refine SJ.skip ?_
        refine SJ.block (id := 1) ?_
        refine SJ.rg 3 ?_
        refine OJ.go 1 [(43, .string s12)] ?_
        refine OJ.cutT (d := 44) (t := 9) (y := .tmp 43) (lo := (some (.const (.int .i64 1)))) (hi := none) (lo' := some (.i64, 1)) (hi' := none) ?_
        refine OJ.go 1 [(8, .string (ByteArray.extract s12 (Int.toNat 1) (Int.toNat (s12.size : Int))))] ?_
        refine OJ.nil ?_
        refine SJ.inBlock ?_
        exact SJ.at_ [2, 8] rfl
      · refine SJ.exit (id := 0) (by rfl) ?_
        refine SJ.sr 2 ?_
        refine OJ.go 2 [(6, .string s12), (45, .string s12)] ?_
        refine OJ.nil ?_
        exact SJ.ret rfl (Res.run (ys := [.string s12]) (.tmp (by kernel_rfl) .nil) rfl)
noncomputable def weirlaw4_written.K1 (a0 : Int) (a1 : Int) (a2 : Int) (j1 : ByteArray) : M ByteArray :=
  draw >>= fun _ =>
  chk ((0 : Int) ≤ (IntKind.wrap .u8 (Int.tdiv a0 16)) ∧ (IntKind.wrap .u8 (Int.tdiv a0 16)) < (j1.size : Int)) >>= fun _ =>
  chk ((0 : Int) ≤ (Int.tmod a0 16) ∧ (Int.tmod a0 16) < (j1.size : Int)) >>= fun _ =>
  chk ((0 : Int) ≤ (IntKind.wrap .u8 (Int.tdiv a1 16)) ∧ (IntKind.wrap .u8 (Int.tdiv a1 16)) < (j1.size : Int)) >>= fun _ =>
  chk ((0 : Int) ≤ (Int.tmod a1 16) ∧ (Int.tmod a1 16) < (j1.size : Int)) >>= fun _ =>
  newv 5 ((cI .u8).arr 4) (⟨[(sb j1 (IntKind.wrap .u8 (Int.tdiv a0 16))), (sb j1 (Int.tmod a0 16)), (sb j1 (IntKind.wrap .u8 (Int.tdiv a1 16))), (sb j1 (Int.tmod a1 16))], rfl⟩ : Vec Int 4) >>= fun b10 =>
  toStr (⟨some (pt b10 0), 4, 4⟩ : Sl) >>= fun r11 =>
  loopM (fun s_ : ByteArray => weirlaw4_written.L1 a2 s_) r11
theorem weirlaw4_written.K1_ok (a0 : Int) (a1 : Int) (a2 : Int) (j1 : ByteArray) :
    SJ weirlaw4_written.cx [.code (c2 (c2 (c2 weirlaw4_written.B)))] [(0, .int .u8 a0), (1, .int .u8 a1), (2, .int .i64 a2), (7, .string j1)] [] (weirlaw4_written.K1 a0 a1 a2 j1) weirlaw4_written.F0 := by
  unfold weirlaw4_written.K1
  refine SJ.seq ?_
  refine SJ.draw (id := 4) (kd := [0, 0, 0, 0, 0, 0, 0, 0, 0, 0, 0, 0, 0, 0, 0, 0, 2, 2, 0]) (bef := [0, 0, 2, 7, 0, 0, 32, 112, 0, 0, 512, 1792, 0, 0, 8192, 28672, 65535, 131071, 262143]) (ord := [0, 1, 2, 3, 4, 5, 6, 7, 8, 9, 10, 11, 12, 13, 14, 15, 16, 17, 18]) mixed ?_
  refine OJ.go 3 [(14, .int .u8 (IntKind.wrap .u8 (Int.tdiv a0 16))), (13, .int .u8 a0), (12, .string j1)] ?_
  refine OJ.idxT (d := 15) (T := 9) (y := .tmp 12) (j := .tmp 14) (k := .u8) (fun hb2 hb3 => ?_)
  refine OJ.go 3 [(18, .int .u8 (Int.tmod a0 16)), (17, .int .u8 a0), (16, .string j1)] ?_
  refine OJ.idxT (d := 19) (T := 9) (y := .tmp 16) (j := .tmp 18) (k := .u8) (fun hb4 hb5 => ?_)
  refine OJ.go 3 [(22, .int .u8 (IntKind.wrap .u8 (Int.tdiv a1 16))), (21, .int .u8 a1), (20, .string j1)] ?_
  refine OJ.idxT (d := 23) (T := 9) (y := .tmp 20) (j := .tmp 22) (k := .u8) (fun hb6 hb7 => ?_)
  refine OJ.go 3 [(26, .int .u8 (Int.tmod a1 16)), (25, .int .u8 a1), (24, .string j1)] ?_
  refine OJ.idxT (d := 27) (T := 9) (y := .tmp 24) (j := .tmp 26) (k := .u8) (fun hb8 hb9 => ?_)
  refine OJ.rowNew (d := 28) (t := 55) (parts := [(0, .tmp 15), (1, .tmp 19), (2, .tmp 23), (3, .tmp 27)]) (ps := [(0, (cI .u8).val (sb j1 (IntKind.wrap .u8 (Int.tdiv a0 16)))), (1, (cI .u8).val (sb j1 (Int.tmod a0 16))), (2, (cI .u8).val (sb j1 (IntKind.wrap .u8 (Int.tdiv a1 16)))), (3, (cI .u8).val (sb j1 (Int.tmod a1 16)))]) (cd := (cI .u8)) (owed := []) Ty5 (Filled.cons (cd := (cI .u8)) (q := (sb j1 (IntKind.wrap .u8 (Int.tdiv a0 16)))) (o := 0) rfl (Upd.arr (i := 0) (by decide) (by decide)) (Filled.cons (cd := (cI .u8)) (q := (sb j1 (Int.tmod a0 16))) (o := 1) rfl (Upd.arr (i := 1) (by decide) (by decide)) (Filled.cons (cd := (cI .u8)) (q := (sb j1 (IntKind.wrap .u8 (Int.tdiv a1 16)))) (o := 2) rfl (Upd.arr (i := 2) (by decide) (by decide)) (Filled.cons (cd := (cI .u8)) (q := (sb j1 (Int.tmod a1 16))) (o := 3) rfl (Upd.arr (i := 3) (by decide) (by decide)) Filled.nil)))) (fun b10 => ?_)
  refine OW.nil ?_
  refine OJ.toStr (d := 29) (t := 55) (u := 9) (E := 5) (x := .tmp 28) (owed := []) (fun r11 => ?_)
  refine OW.nil ?_
  refine OJ.go 1 [(8, .string r11)] ?_
  refine OJ.nil ?_
  refine SJ.seq ?_
  refine SJ.block (id := 0) ?_
  exact SJ.loop (fun s_ : ByteArray => [(2, .int .i64 a2), (8, .string s_)]) (fun s_ : ByteArray => []) [2, 8] rfl (fun _ _ => rfl) (fun s_ => weirlaw4_written.L1_ok a2 s_)
noncomputable def weirlaw4_written (a0 : Int) (a1 : Int) (a2 : Int) : M ByteArray :=
  if (band .i64 a2 1) = 1 then
    weirlaw4_written.K1 a0 a1 a2 str1
  else
    weirlaw4_written.K1 a0 a1 a2 str0
theorem weirlaw4_written_ok (a0 : Int) (a1 : Int) (a2 : Int) : Ref Tryd.prog 8 [.int .u8 a0, .int .u8 a1, .int .i64 a2] (weirlaw4_written a0 a1 a2) weirlaw4_written.out := by
  refine Ref.of (cd := weirlaw4_written.B) Tryd.func8 ?_
  show SJ weirlaw4_written.cx [.code weirlaw4_written.B] [(0, .int .u8 a0), (1, .int .u8 a1), (2, .int .i64 a2)] [] (weirlaw4_written a0 a1 a2) weirlaw4_written.F0
  unfold weirlaw4_written
  refine SJ.sr 1 ?_
  refine OJ.go 1 [(6, .string ByteArray.empty)] ?_
  refine OJ.nil ?_
  refine SJ.sr 1 ?_
  refine OJ.go 1 [(7, .string str0)] ?_
  refine OJ.nil ?_
  refine SJ.seq ?_
  refine SJ.sr 3 ?_
  refine OJ.go 3 [(11, .bool ((band .i64 a2 1) == 1)), (10, .int .i64 (band .i64 a2 1)), (9, .int .i64 a2)] ?_
  refine OJ.nil ?_
  refine SJ.cond (t := (.tmp 11)) (b := ((band .i64 a2 1) == 1)) beq_iff_eq (fun hc23 => ?_) (fun hc23 => ?_)
  · refine SJ.rg 1 ?_
    refine OJ.go 1 [(7, .string str1)] ?_
    refine OJ.nil ?_
    refine SJ.less [0, 1, 2, 7] (m' := [(0, .int .u8 a0), (1, .int .u8 a1), (2, .int .i64 a2), (7, .string str1)]) ?_
    exact weirlaw4_written.K1_ok a0 a1 a2 str1
  · refine SJ.skip ?_
    refine SJ.less [0, 1, 2, 7] (m' := [(0, .int .u8 a0), (1, .int .u8 a1), (2, .int .i64 a2), (7, .string str0)]) ?_
    exact weirlaw4_written.K1_ok a0 a1 a2 str0

/-! ### weir/weirlaw4.three: function 22 -/
noncomputable def weirlaw4_three.B : Code := (Tryd.f22.body).getD .skip
noncomputable def weirlaw4_three.cx : Fx := ⟨Tryd.prog, 22, Tryd.f22⟩
noncomputable def weirlaw4_three.out (r_ : ByteArray) : Value := .string r_
noncomputable def weirlaw4_three.F0 (r_ : ByteArray) : Reach := .ret (weirlaw4_three.out r_)
noncomputable def weirlaw4_three (a0 : Int) : M ByteArray :=
  if a0 > 99 then
    newv 5 ((cI .u8).arr 3) (⟨[IntKind.wrap .u8 (48 + (IntKind.wrap .u8 (Int.tdiv a0 100))), IntKind.wrap .u8 (48 + (Int.tmod (IntKind.wrap .u8 (Int.tdiv a0 10)) 10)), IntKind.wrap .u8 (48 + (Int.tmod a0 10))], rfl⟩ : Vec Int 3) >>= fun b3 =>
    toStr (⟨some (pt b3 0), 3, 3⟩ : Sl) >>= fun r4 =>
    pure r4
  else
    if a0 > 9 then
      newv 5 ((cI .u8).arr 2) (⟨[IntKind.wrap .u8 (48 + (IntKind.wrap .u8 (Int.tdiv a0 10))), IntKind.wrap .u8 (48 + (Int.tmod a0 10))], rfl⟩ : Vec Int 2) >>= fun b7 =>
      toStr (⟨some (pt b7 0), 2, 2⟩ : Sl) >>= fun r8 =>
      pure r8
    else
      newv 5 ((cI .u8).arr 1) (⟨[IntKind.wrap .u8 (48 + a0)], rfl⟩ : Vec Int 1) >>= fun b9 =>
      toStr (⟨some (pt b9 0), 1, 1⟩ : Sl) >>= fun r10 =>
      pure r10
theorem weirlaw4_three_ok (a0 : Int) : Ref Tryd.prog 22 [.int .u8 a0] (weirlaw4_three a0) weirlaw4_three.out := by
  refine Ref.of (cd := weirlaw4_three.B) Tryd.func22 ?_
  show SJ weirlaw4_three.cx [.code weirlaw4_three.B] [(0, .int .u8 a0)] [] (weirlaw4_three a0) weirlaw4_three.F0
  unfold weirlaw4_three
  refine SJ.sr 1 ?_
  refine OJ.go 1 [(2, .string ByteArray.empty)] ?_
  refine OJ.nil ?_
  refine SJ.seq ?_
  refine SJ.sr 2 ?_
  refine OJ.go 2 [(4, .bool (decide (a0 > 99))), (3, .int .u8 a0)] ?_
  refine OJ.nil ?_
  refine SJ.cond (t := (.tmp 4)) (b := decide (a0 > 99)) decide_eq_true_iff (fun hc12 => ?_) (fun hc12 => ?_)
  · refine SJ.sr 13 ?_
    refine OJ.go 10 [(14, .int .u8 (IntKind.wrap .u8 (48 + (Int.tmod a0 10)))), (13, .int .u8 (Int.tmod a0 10)), (12, .int .u8 a0), (11, .int .u8 (IntKind.wrap .u8 (48 + (Int.tmod (IntKind.wrap .u8 (Int.tdiv a0 10)) 10)))), (10, .int .u8 (Int.tmod (IntKind.wrap .u8 (Int.tdiv a0 10)) 10)), (9, .int .u8 (IntKind.wrap .u8 (Int.tdiv a0 10))), (8, .int .u8 a0), (7, .int .u8 (IntKind.wrap .u8 (48 + (IntKind.wrap .u8 (Int.tdiv a0 100))))), (6, .int .u8 (IntKind.wrap .u8 (Int.tdiv a0 100))), (5, .int .u8 a0)] ?_
    refine OJ.rowNew (d := 15) (t := 55) (parts := [(0, .tmp 7), (1, .tmp 11), (2, .tmp 14)]) (ps := [(0, (cI .u8).val (IntKind.wrap .u8 (48 + (IntKind.wrap .u8 (Int.tdiv a0 100))))), (1, (cI .u8).val (IntKind.wrap .u8 (48 + (Int.tmod (IntKind.wrap .u8 (Int.tdiv a0 10)) 10)))), (2, (cI .u8).val (IntKind.wrap .u8 (48 + (Int.tmod a0 10))))]) (cd := (cI .u8)) (owed := []) Ty5 (Filled.cons (cd := (cI .u8)) (q := (IntKind.wrap .u8 (48 + (IntKind.wrap .u8 (Int.tdiv a0 100))))) (o := 0) rfl (Upd.arr (i := 0) (by decide) (by decide)) (Filled.cons (cd := (cI .u8)) (q := (IntKind.wrap .u8 (48 + (Int.tmod (IntKind.wrap .u8 (Int.tdiv a0 10)) 10)))) (o := 1) rfl (Upd.arr (i := 1) (by decide) (by decide)) (Filled.cons (cd := (cI .u8)) (q := (IntKind.wrap .u8 (48 + (Int.tmod a0 10)))) (o := 2) rfl (Upd.arr (i := 2) (by decide) (by decide)) Filled.nil))) (fun b3 => ?_)
    refine OW.nil ?_
    refine OJ.toStr (d := 16) (t := 55) (u := 9) (E := 5) (x := .tmp 15) (owed := []) (fun r4 => ?_)
    refine OW.nil ?_
    refine OJ.go 1 [(2, .string r4)] ?_
    refine OJ.nil ?_
    exact SJ.ret rfl (Res.run (ys := [.string r4]) (.tmp (by kernel_rfl) .nil) rfl)
  · refine SJ.skip ?_
    refine SJ.seq ?_
    refine SJ.sr 2 ?_
    refine OJ.go 2 [(18, .bool (decide (a0 > 9))), (17, .int .u8 a0)] ?_
    refine OJ.nil ?_
    refine SJ.cond (t := (.tmp 18)) (b := decide (a0 > 9)) decide_eq_true_iff (fun hc11 => ?_) (fun hc11 => ?_)
    · refine SJ.sr 9 ?_
      refine OJ.go 6 [(24, .int .u8 (IntKind.wrap .u8 (48 + (Int.tmod a0 10)))), (23, .int .u8 (Int.tmod a0 10)), (22, .int .u8 a0), (21, .int .u8 (IntKind.wrap .u8 (48 + (IntKind.wrap .u8 (Int.tdiv a0 10))))), (20, .int .u8 (IntKind.wrap .u8 (Int.tdiv a0 10))), (19, .int .u8 a0)] ?_
      refine OJ.rowNew (d := 25) (t := 55) (parts := [(0, .tmp 21), (1, .tmp 24)]) (ps := [(0, (cI .u8).val (IntKind.wrap .u8 (48 + (IntKind.wrap .u8 (Int.tdiv a0 10))))), (1, (cI .u8).val (IntKind.wrap .u8 (48 + (Int.tmod a0 10))))]) (cd := (cI .u8)) (owed := []) Ty5 (Filled.cons (cd := (cI .u8)) (q := (IntKind.wrap .u8 (48 + (IntKind.wrap .u8 (Int.tdiv a0 10))))) (o := 0) rfl (Upd.arr (i := 0) (by decide) (by decide)) (Filled.cons (cd := (cI .u8)) (q := (IntKind.wrap .u8 (48 + (Int.tmod a0 10)))) (o := 1) rfl (Upd.arr (i := 1) (by decide) (by decide)) Filled.nil)) (fun b7 => ?_)
      refine OW.nil ?_
      refine OJ.toStr (d := 26) (t := 55) (u := 9) (E := 5) (x := .tmp 25) (owed := []) (fun r8 => ?_)
      refine OW.nil ?_
      refine OJ.go 1 [(2, .string r8)] ?_
      refine OJ.nil ?_
      exact SJ.ret rfl (Res.run (ys := [.string r8]) (.tmp (by kernel_rfl) .nil) rfl)
    · refine SJ.skip ?_
      refine SJ.sr 5 ?_
      refine OJ.go 2 [(28, .int .u8 (IntKind.wrap .u8 (48 + a0))), (27, .int .u8 a0)] ?_
      refine OJ.rowNew (d := 29) (t := 55) (parts := [(0, .tmp 28)]) (ps := [(0, (cI .u8).val (IntKind.wrap .u8 (48 + a0)))]) (cd := (cI .u8)) (owed := []) Ty5 (Filled.cons (cd := (cI .u8)) (q := (IntKind.wrap .u8 (48 + a0))) (o := 0) rfl (Upd.arr (i := 0) (by decide) (by decide)) Filled.nil) (fun b9 => ?_)
      refine OW.nil ?_
      refine OJ.toStr (d := 30) (t := 55) (u := 9) (E := 5) (x := .tmp 29) (owed := []) (fun r10 => ?_)
      refine OW.nil ?_
      refine OJ.go 1 [(2, .string r10)] ?_
      refine OJ.nil ?_
      exact SJ.ret rfl (Res.run (ys := [.string r10]) (.tmp (by kernel_rfl) .nil) rfl)

/-! ### weir/weirlaw4.dots: function 9 -/
noncomputable def weirlaw4_dots.B : Code := (Tryd.f9.body).getD .skip
noncomputable def weirlaw4_dots.cx : Fx := ⟨Tryd.prog, 9, Tryd.f9⟩
noncomputable def weirlaw4_dots.out (r_ : ByteArray) : Value := .string r_
noncomputable def weirlaw4_dots.F0 (r_ : ByteArray) : Reach := .ret (weirlaw4_dots.out r_)
noncomputable def weirlaw4_dots (a0 : (Vec Int 16)) (a1 : Int) : M ByteArray :=
  slot 22 >>= fun b1 =>
  draw >>= fun _ =>
  chk ((0 : Int) ≤ a1 ∧ a1 < (16 : Nat)) >>= fun _ =>
  chk ((0 : Int) ≤ (IntKind.wrap .i64 (a1 + 1)) ∧ (IntKind.wrap .i64 (a1 + 1)) < (16 : Nat)) >>= fun _ =>
  chk ((0 : Int) ≤ (IntKind.wrap .i64 (a1 + 2)) ∧ (IntKind.wrap .i64 (a1 + 2)) < (16 : Nat)) >>= fun _ =>
  chk ((0 : Int) ≤ (IntKind.wrap .i64 (a1 + 3)) ∧ (IntKind.wrap .i64 (a1 + 3)) < (16 : Nat)) >>= fun _ =>
  weirlaw4_three (Vec.g a0 a1 0) >>= fun r10 =>
  chk (((r10.size + str2.size : Nat) : Int) ≤ 9223372036854775807) >>= fun _ =>
  weirlaw4_three (Vec.g a0 (IntKind.wrap .i64 (a1 + 1)) 0) >>= fun r11 =>
  chk ((((r10 ++ str2).size + r11.size : Nat) : Int) ≤ 9223372036854775807) >>= fun _ =>
  chk (((((r10 ++ str2) ++ r11).size + str2.size : Nat) : Int) ≤ 9223372036854775807) >>= fun _ =>
  weirlaw4_three (Vec.g a0 (IntKind.wrap .i64 (a1 + 2)) 0) >>= fun r12 =>
  chk ((((((r10 ++ str2) ++ r11) ++ str2).size + r12.size : Nat) : Int) ≤ 9223372036854775807) >>= fun _ =>
  chk (((((((r10 ++ str2) ++ r11) ++ str2) ++ r12).size + str2.size : Nat) : Int) ≤ 9223372036854775807) >>= fun _ =>
  weirlaw4_three (Vec.g a0 (IntKind.wrap .i64 (a1 + 3)) 0) >>= fun r13 =>
  chk ((((((((r10 ++ str2) ++ r11) ++ str2) ++ r12) ++ str2).size + r13.size : Nat) : Int) ≤ 9223372036854775807) >>= fun _ =>
  pure ((((((r10 ++ str2) ++ r11) ++ str2) ++ r12) ++ str2) ++ r13)
theorem weirlaw4_dots_ok (a0 : (Vec Int 16)) (a1 : Int) : Ref Tryd.prog 9 [((cI .u8).arr 16).val a0, .int .i64 a1] (weirlaw4_dots a0 a1) weirlaw4_dots.out := by
  refine Ref.of (cd := weirlaw4_dots.B) Tryd.func9 ?_
  show SJ weirlaw4_dots.cx [.code weirlaw4_dots.B] [(0, ((cI .u8).arr 16).val a0), (1, .int .i64 a1)] [] (weirlaw4_dots a0 a1) weirlaw4_dots.F0
  unfold weirlaw4_dots
  refine SJ.sr 2 ?_
  refine OJ.slotOf (d := 2) (op := (.box 22 (.tmp 0))) (cd := ((cI .u8).arr 16)) (u := a0) (owed := []) (box_run (by kernel_rfl)) (fun b1 => ?_)
  refine OW.nil ?_
  refine OJ.go 1 [(4, .string ByteArray.empty)] ?_
  refine OJ.nil ?_
  refine SJ.seq ?_
  refine SJ.draw (id := 1) (kd := [0, 0, 1, 2, 0, 0, 0, 0, 1, 2, 0, 0, 0, 0, 0, 1, 2, 0, 0, 0, 0, 0, 1, 2, 0, 0]) (bef := [0, 1, 3, 7, 15, 0, 32, 96, 224, 495, 1023, 2047, 0, 4096, 12288, 28672, 62447, 131071, 262143, 0, 524288, 1572864, 3670016, 7992303, 16777215, 33554431]) (ord := [0, 1, 2, 5, 6, 7, 8, 12, 13, 14, 15, 19, 20, 21, 22, 3, 4, 9, 10, 11, 16, 17, 18, 23, 24, 25]) mixed ?_
  refine OJ.go 1 [(5, .int .i64 a1)] ?_
  refine OJ.idxK (d := 6) (T := 22) (y := .tmp 2) (j := .tmp 5) (E := 5) (sz := 1) (b := b1) (o := 0) (k := .i64) (fun hb2 hb3 => ?_)
  refine OJ.kld (d := 7) (y := .tmp 6) (cd := (cI .u8)) (j := 0) (b := b1) (o := (0 + a1.toNat * 1)) (Vec.g a0 a1 0) (pend2 := [⟨2, 5, (pt b1 (0 + a1.toNat * 1)), (cI .u8).val (Vec.g a0 a1 0)⟩]) Ty5 rfl (At.zero (At.arr (z := 0) hb2 hb3)) rfl ?_
  refine OJ.go 2 [(11, .int .i64 (IntKind.wrap .i64 (a1 + 1))), (10, .int .i64 a1)] ?_
  refine OJ.idxK (d := 12) (T := 22) (y := .tmp 2) (j := .tmp 11) (E := 5) (sz := 1) (b := b1) (o := 0) (k := .i64) (fun hb4 hb5 => ?_)
  refine OJ.kld (d := 13) (y := .tmp 12) (cd := (cI .u8)) (j := 0) (b := b1) (o := (0 + (IntKind.wrap .i64 (a1 + 1)).toNat * 1)) (Vec.g a0 (IntKind.wrap .i64 (a1 + 1)) 0) (pend2 := [⟨8, 5, (pt b1 (0 + (IntKind.wrap .i64 (a1 + 1)).toNat * 1)), (cI .u8).val (Vec.g a0 (IntKind.wrap .i64 (a1 + 1)) 0)⟩, ⟨2, 5, (pt b1 (0 + a1.toNat * 1)), (cI .u8).val (Vec.g a0 a1 0)⟩]) Ty5 rfl (At.zero (At.arr (z := 0) hb4 hb5)) rfl ?_
  refine OJ.go 2 [(18, .int .i64 (IntKind.wrap .i64 (a1 + 2))), (17, .int .i64 a1)] ?_
  refine OJ.idxK (d := 19) (T := 22) (y := .tmp 2) (j := .tmp 18) (E := 5) (sz := 1) (b := b1) (o := 0) (k := .i64) (fun hb6 hb7 => ?_)
  refine OJ.kld (d := 20) (y := .tmp 19) (cd := (cI .u8)) (j := 0) (b := b1) (o := (0 + (IntKind.wrap .i64 (a1 + 2)).toNat * 1)) (Vec.g a0 (IntKind.wrap .i64 (a1 + 2)) 0) (pend2 := [⟨15, 5, (pt b1 (0 + (IntKind.wrap .i64 (a1 + 2)).toNat * 1)), (cI .u8).val (Vec.g a0 (IntKind.wrap .i64 (a1 + 2)) 0)⟩, ⟨8, 5, (pt b1 (0 + (IntKind.wrap .i64 (a1 + 1)).toNat * 1)), (cI .u8).val (Vec.g a0 (IntKind.wrap .i64 (a1 + 1)) 0)⟩, ⟨2, 5, (pt b1 (0 + a1.toNat * 1)), (cI .u8).val (Vec.g a0 a1 0)⟩]) Ty5 rfl (At.zero (At.arr (z := 0) hb6 hb7)) rfl ?_
  refine OJ.go 2 [(25, .int .i64 (IntKind.wrap .i64 (a1 + 3))), (24, .int .i64 a1)] ?_
  refine OJ.idxK (d := 26) (T := 22) (y := .tmp 2) (j := .tmp 25) (E := 5) (sz := 1) (b := b1) (o := 0) (k := .i64) (fun hb8 hb9 => ?_)
  refine OJ.kld (d := 27) (y := .tmp 26) (cd := (cI .u8)) (j := 0) (b := b1) (o := (0 + (IntKind.wrap .i64 (a1 + 3)).toNat * 1)) (Vec.g a0 (IntKind.wrap .i64 (a1 + 3)) 0) (pend2 := [⟨22, 5, (pt b1 (0 + (IntKind.wrap .i64 (a1 + 3)).toNat * 1)), (cI .u8).val (Vec.g a0 (IntKind.wrap .i64 (a1 + 3)) 0)⟩, ⟨15, 5, (pt b1 (0 + (IntKind.wrap .i64 (a1 + 2)).toNat * 1)), (cI .u8).val (Vec.g a0 (IntKind.wrap .i64 (a1 + 2)) 0)⟩, ⟨8, 5, (pt b1 (0 + (IntKind.wrap .i64 (a1 + 1)).toNat * 1)), (cI .u8).val (Vec.g a0 (IntKind.wrap .i64 (a1 + 1)) 0)⟩, ⟨2, 5, (pt b1 (0 + a1.toNat * 1)), (cI .u8).val (Vec.g a0 a1 0)⟩]) Ty5 rfl (At.zero (At.arr (z := 0) hb8 hb9)) rfl ?_
  refine OJ.call (d := 8) (g := 22) (ats := #[5]) (args := [.tmp 7]) (owed := [⟨22, 5, (pt b1 (0 + (IntKind.wrap .i64 (a1 + 3)).toNat * 1)), (cI .u8).val (Vec.g a0 (IntKind.wrap .i64 (a1 + 3)) 0)⟩, ⟨15, 5, (pt b1 (0 + (IntKind.wrap .i64 (a1 + 2)).toNat * 1)), (cI .u8).val (Vec.g a0 (IntKind.wrap .i64 (a1 + 2)) 0)⟩, ⟨8, 5, (pt b1 (0 + (IntKind.wrap .i64 (a1 + 1)).toNat * 1)), (cI .u8).val (Vec.g a0 (IntKind.wrap .i64 (a1 + 1)) 0)⟩]) F22 (weirlaw4_three_ok (Vec.g a0 a1 0)) (fun r10 => ?_)
  refine OW.known (j := 0) (q := (Vec.g a0 (IntKind.wrap .i64 (a1 + 3)) 0)) Ty5 rfl (At.zero (At.arr (z := 0) hb8 hb9)) ?_
  refine OW.known (j := 0) (q := (Vec.g a0 (IntKind.wrap .i64 (a1 + 2)) 0)) Ty5 rfl (At.zero (At.arr (z := 0) hb6 hb7)) ?_
  refine OW.known (j := 0) (q := (Vec.g a0 (IntKind.wrap .i64 (a1 + 1)) 0)) Ty5 rfl (At.zero (At.arr (z := 0) hb4 hb5)) ?_
  refine OW.nil ?_
  refine OJ.cat (d := 9) (T := 9) (yT := 9) (y := .tmp 8) (z := .const (.string str2)) (p := r10) (q := str2) ?_
  refine OJ.call (d := 14) (g := 22) (ats := #[5]) (args := [.tmp 13]) (owed := [⟨22, 5, (pt b1 (0 + (IntKind.wrap .i64 (a1 + 3)).toNat * 1)), (cI .u8).val (Vec.g a0 (IntKind.wrap .i64 (a1 + 3)) 0)⟩, ⟨15, 5, (pt b1 (0 + (IntKind.wrap .i64 (a1 + 2)).toNat * 1)), (cI .u8).val (Vec.g a0 (IntKind.wrap .i64 (a1 + 2)) 0)⟩]) F22 (weirlaw4_three_ok (Vec.g a0 (IntKind.wrap .i64 (a1 + 1)) 0)) (fun r11 => ?_)
  refine OW.known (j := 0) (q := (Vec.g a0 (IntKind.wrap .i64 (a1 + 3)) 0)) Ty5 rfl (At.zero (At.arr (z := 0) hb8 hb9)) ?_
  refine OW.known (j := 0) (q := (Vec.g a0 (IntKind.wrap .i64 (a1 + 2)) 0)) Ty5 rfl (At.zero (At.arr (z := 0) hb6 hb7)) ?_
  refine OW.nil ?_
  refine OJ.cat (d := 15) (T := 9) (yT := 9) (y := .tmp 9) (z := .tmp 14) (p := (r10 ++ str2)) (q := r11) ?_
  refine OJ.cat (d := 16) (T := 9) (yT := 9) (y := .tmp 15) (z := .const (.string str2)) (p := ((r10 ++ str2) ++ r11)) (q := str2) ?_
  refine OJ.call (d := 21) (g := 22) (ats := #[5]) (args := [.tmp 20]) (owed := [⟨22, 5, (pt b1 (0 + (IntKind.wrap .i64 (a1 + 3)).toNat * 1)), (cI .u8).val (Vec.g a0 (IntKind.wrap .i64 (a1 + 3)) 0)⟩]) F22 (weirlaw4_three_ok (Vec.g a0 (IntKind.wrap .i64 (a1 + 2)) 0)) (fun r12 => ?_)
  refine OW.known (j := 0) (q := (Vec.g a0 (IntKind.wrap .i64 (a1 + 3)) 0)) Ty5 rfl (At.zero (At.arr (z := 0) hb8 hb9)) ?_
  refine OW.nil ?_
  refine OJ.cat (d := 22) (T := 9) (yT := 9) (y := .tmp 16) (z := .tmp 21) (p := (((r10 ++ str2) ++ r11) ++ str2)) (q := r12) ?_
  refine OJ.cat (d := 23) (T := 9) (yT := 9) (y := .tmp 22) (z := .const (.string str2)) (p := ((((r10 ++ str2) ++ r11) ++ str2) ++ r12)) (q := str2) ?_
  refine OJ.call (d := 28) (g := 22) (ats := #[5]) (args := [.tmp 27]) (owed := []) F22 (weirlaw4_three_ok (Vec.g a0 (IntKind.wrap .i64 (a1 + 3)) 0)) (fun r13 => ?_)
  refine OW.nil ?_
  refine OJ.cat (d := 29) (T := 9) (yT := 9) (y := .tmp 23) (z := .tmp 28) (p := (((((r10 ++ str2) ++ r11) ++ str2) ++ r12) ++ str2)) (q := r13) ?_
  refine OJ.go 1 [(4, .string ((((((r10 ++ str2) ++ r11) ++ str2) ++ r12) ++ str2) ++ r13))] ?_
  refine OJ.nil ?_
  exact SJ.ret rfl (Res.run (ys := [.string ((((((r10 ++ str2) ++ r11) ++ str2) ++ r12) ++ str2) ++ r13)]) (.tmp (by kernel_rfl) .nil) rfl)

/-! ### internal/stringslite.IndexByte: function 63 -/
noncomputable def stringslite_IndexByte.B : Code := (Tryd.f63.body).getD .skip
noncomputable def stringslite_IndexByte.cx : Fx := ⟨Tryd.prog, 63, Tryd.f63⟩
noncomputable def stringslite_IndexByte.out (r_ : Int) : Value := .int .i64 r_
noncomputable def stringslite_IndexByte.F0 (r_ : Int) : Reach := .ret (stringslite_IndexByte.out r_)
noncomputable def stringslite_IndexByte (a0 : ByteArray) (a1 : Int) : M Int :=
  idxB a0 a1 >>= fun r1 =>
  pure r1
theorem stringslite_IndexByte_ok (a0 : ByteArray) (a1 : Int) : Ref Tryd.prog 63 [.string a0, .int .u8 a1] (stringslite_IndexByte a0 a1) stringslite_IndexByte.out := by
  refine Ref.of (cd := stringslite_IndexByte.B) Tryd.func63 ?_
  show SJ stringslite_IndexByte.cx [.code stringslite_IndexByte.B] [(0, .string a0), (1, .int .u8 a1)] [] (stringslite_IndexByte a0 a1) stringslite_IndexByte.F0
  unfold stringslite_IndexByte
  refine SJ.sr 1 ?_
  refine OJ.go 1 [(4, .int .i64 0)] ?_
  refine OJ.nil ?_
  refine SJ.sr 4 ?_
  refine OJ.go 2 [(6, .int .u8 a1), (5, .string a0)] ?_
  refine OJ.ext (d := 7) (g := 74) (ats := #[9, 5]) (args := [.tmp 5, .tmp 6]) (out := fun r => .int .i64 r) (owed := []) Tryd.func74 idxB_run (fun r1 => ?_)
  refine OW.nil ?_
  refine OJ.go 1 [(4, .int .i64 r1)] ?_
  refine OJ.nil ?_
  exact SJ.ret rfl (Res.run (ys := [.int .i64 r1]) (.tmp (by kernel_rfl) .nil) rfl)

/-! ### internal/bytealg.Cutover: function 65 -/
noncomputable def bytealg_Cutover.B : Code := (Tryd.f65.body).getD .skip
noncomputable def bytealg_Cutover.cx : Fx := ⟨Tryd.prog, 65, Tryd.f65⟩
noncomputable def bytealg_Cutover.out (r_ : Int) : Value := .int .i64 r_
noncomputable def bytealg_Cutover.F0 (r_ : Int) : Reach := .ret (bytealg_Cutover.out r_)
noncomputable def bytealg_Cutover (a0 : Int) : M Int :=
  pure (IntKind.wrap .i64 (Int.tdiv (IntKind.wrap .i64 (a0 + 16)) 8))
theorem bytealg_Cutover_ok (a0 : Int) : Ref Tryd.prog 65 [.int .i64 a0] (bytealg_Cutover a0) bytealg_Cutover.out := by
  refine Ref.of (cd := bytealg_Cutover.B) Tryd.func65 ?_
  show SJ bytealg_Cutover.cx [.code bytealg_Cutover.B] [(0, .int .i64 a0)] [] (bytealg_Cutover a0) bytealg_Cutover.F0
  unfold bytealg_Cutover
  refine SJ.sr 1 ?_
  refine OJ.go 1 [(2, .int .i64 0)] ?_
  refine OJ.nil ?_
  refine SJ.sr 4 ?_
  refine OJ.go 4 [(2, .int .i64 (IntKind.wrap .i64 (Int.tdiv (IntKind.wrap .i64 (a0 + 16)) 8))), (5, .int .i64 (IntKind.wrap .i64 (Int.tdiv (IntKind.wrap .i64 (a0 + 16)) 8))), (4, .int .i64 (IntKind.wrap .i64 (a0 + 16))), (3, .int .i64 a0)] ?_
  refine OJ.nil ?_
  exact SJ.ret rfl (Res.run (ys := [.int .i64 (IntKind.wrap .i64 (Int.tdiv (IntKind.wrap .i64 (a0 + 16)) 8))]) (.tmp (by kernel_rfl) .nil) rfl)

/-! ### internal/bytealg.hashStr[string]: function 75 -/
noncomputable def bytealg_hashStr_string.B : Code := (Tryd.f75.body).getD .skip
noncomputable def bytealg_hashStr_string.cx : Fx := ⟨Tryd.prog, 75, Tryd.f75⟩
noncomputable def bytealg_hashStr_string.out (r_ : (Int × Int)) : Value := .tuple #[.int .u32 r_.1, .int .u32 r_.2]
noncomputable def bytealg_hashStr_string.F0 (r_ : (Int × Int)) : Reach := .ret (bytealg_hashStr_string.out r_)
noncomputable def bytealg_hashStr_string.F1 (s1 : Int) : (LS (Int × Int × Int) (Int × Int)) → Reach := loopF [.inLoop (c1 (c1 (c2 (c1 (c2 (c2 (c2 (c2 bytealg_hashStr_string.B)))))))), .inBlock 2, .code (c2 (c2 (c2 (c2 (c2 bytealg_hashStr_string.B)))))] (fun s_ : (Int × Int × Int) => [(4, .int .u32 s1), (6, .int .u32 s_.1), (7, .int .u32 s_.2.1), (8, .int .i64 s_.2.2)]) (fun s_ : (Int × Int × Int) => []) bytealg_hashStr_string.F0
noncomputable def bytealg_hashStr_string.L1 (s1 : Int) (s6 : Int) (s7 : Int) (s8 : Int) : M (LS (Int × Int × Int) (Int × Int)) :=
  if s8 > 0 then
    if (band .i64 s8 1) ≠ 0 then
      pure (LS.next (IntKind.wrap .u32 (s6 * s7), IntKind.wrap .u32 (s7 * s7), Int.fdiv s8 (2 ^ 1)))
    else
      pure (LS.next (s6, IntKind.wrap .u32 (s7 * s7), Int.fdiv s8 (2 ^ 1)))
  else
    pure (LS.done (s1, s6))
theorem bytealg_hashStr_string.L1_ok (s1 : Int) (s6 : Int) (s7 : Int) (s8 : Int) :
    SJ bytealg_hashStr_string.cx [.code (c1 (c1 (c2 (c1 (c2 (c2 (c2 (c2 bytealg_hashStr_string.B)))))))), .inLoop (c1 (c1 (c2 (c1 (c2 (c2 (c2 (c2 bytealg_hashStr_string.B)))))))), .inBlock 2, .code (c2 (c2 (c2 (c2 (c2 bytealg_hashStr_string.B)))))] [(4, .int .u32 s1), (6, .int .u32 s6), (7, .int .u32 s7), (8, .int .i64 s8)] [] (bytealg_hashStr_string.L1 s1 s6 s7 s8) (bytealg_hashStr_string.F1 s1) := by
  unfold bytealg_hashStr_string.L1
  refine SJ.seq ?_
  refine SJ.sr 2 ?_
  refine OJ.go 2 [(25, .bool (decide (s8 > 0))), (24, .int .i64 s8)] ?_
  refine OJ.nil ?_
  refine SJ.cond (t := (.tmp 25)) (b := decide (s8 > 0)) decide_eq_true_iff (fun hc12 => ?_) (fun hc12 => ?_)
  · refine SJ.skip ?_
    refine SJ.seq ?_
    refine SJ.block (id := 3) ?_
    refine SJ.seq ?_
    refine SJ.sr 3 ?_
    refine OJ.go 3 [(30, .bool ((band .i64 s8 1) != 0)), (29, .int .i64 (band .i64 s8 1)), (28, .int .i64 s8)] ?_
    refine OJ.nil ?_
    refine SJ.cond (t := (.tmp 30)) (b := ((band .i64 s8 1) != 0)) bne_iff_ne (fun hc11 => ?_) (fun hc11 => ?_)
    · refine SJ.rg 4 ?_
      refine OJ.go 4 [(6, .int .u32 (IntKind.wrap .u32 (s6 * s7))), (33, .int .u32 (IntKind.wrap .u32 (s6 * s7))), (32, .int .u32 s7), (31, .int .u32 s6)] ?_
      refine OJ.nil ?_
      refine SJ.rg 4 ?_
      refine OJ.go 4 [(7, .int .u32 (IntKind.wrap .u32 (s7 * s7))), (36, .int .u32 (IntKind.wrap .u32 (s7 * s7))), (35, .int .u32 s7), (34, .int .u32 s7)] ?_
      refine OJ.nil ?_
      refine SJ.inBlock ?_
      refine SJ.rg 3 ?_
      refine OJ.go 3 [(8, .int .i64 (Int.fdiv s8 (2 ^ 1))), (27, .int .i64 (Int.fdiv s8 (2 ^ 1))), (26, .int .i64 s8)] ?_
      refine OJ.nil ?_
      exact SJ.at_ [4, 6, 7, 8] rfl
    · refine SJ.skip ?_
      refine SJ.rg 4 ?_
      refine OJ.go 4 [(7, .int .u32 (IntKind.wrap .u32 (s7 * s7))), (36, .int .u32 (IntKind.wrap .u32 (s7 * s7))), (35, .int .u32 s7), (34, .int .u32 s7)] ?_
      refine OJ.nil ?_
      refine SJ.inBlock ?_
      refine SJ.rg 3 ?_
      refine OJ.go 3 [(8, .int .i64 (Int.fdiv s8 (2 ^ 1))), (27, .int .i64 (Int.fdiv s8 (2 ^ 1))), (26, .int .i64 s8)] ?_
      refine OJ.nil ?_
      exact SJ.at_ [4, 6, 7, 8] rfl
  · refine SJ.exit (id := 2) (by rfl) ?_
    refine SJ.sr 4 ?_
    refine OJ.go 4 [(3, .int .u32 s6), (2, .int .u32 s1), (38, .int .u32 s6), (37, .int .u32 s1)] ?_
    refine OJ.nil ?_
    exact SJ.ret rfl (Res.run (ys := [.int .u32 s1, .int .u32 s6]) (.tmp (by kernel_rfl) (.tmp (by kernel_rfl) .nil)) rfl)
noncomputable def bytealg_hashStr_string.K1 (a0 : ByteArray) (s1 : Int) : M (Int × Int) :=
  loopM (fun s_ : (Int × Int × Int) => bytealg_hashStr_string.L1 s1 s_.1 s_.2.1 s_.2.2) (1, 16777619, (a0.size : Int))
theorem bytealg_hashStr_string.K1_ok (a0 : ByteArray) (s1 : Int) :
    SJ bytealg_hashStr_string.cx [.code (c2 (c2 (c2 bytealg_hashStr_string.B)))] [(0, .string a0), (4, .int .u32 s1)] [] (bytealg_hashStr_string.K1 a0 s1) bytealg_hashStr_string.F0 := by
  unfold bytealg_hashStr_string.K1
  refine SJ.sr 2 ?_
  refine OJ.go 2 [(7, .int .u32 16777619), (6, .int .u32 1)] ?_
  refine OJ.nil ?_
  refine SJ.seq ?_
  refine SJ.sr 3 ?_
  refine OJ.go 3 [(8, .int .i64 (a0.size : Int)), (23, .int .i64 (a0.size : Int)), (22, .string a0)] ?_
  refine OJ.nil ?_
  refine SJ.block (id := 2) ?_
  exact SJ.loop (fun s_ : (Int × Int × Int) => [(4, .int .u32 s1), (6, .int .u32 s_.1), (7, .int .u32 s_.2.1), (8, .int .i64 s_.2.2)]) (fun s_ : (Int × Int × Int) => []) [4, 6, 7, 8] rfl (fun _ _ => rfl) (fun s_ => bytealg_hashStr_string.L1_ok s1 s_.1 s_.2.1 s_.2.2)
noncomputable def bytealg_hashStr_string.F2 (a0 : ByteArray) : (LS (Int × Int) (Int × Int)) → Reach := loopF [.inLoop (c1 (c1 (c2 (c1 (c2 (c2 bytealg_hashStr_string.B)))))), .inBlock 0, .code (c2 (c2 (c2 bytealg_hashStr_string.B)))] (fun s_ : (Int × Int) => [(0, .string a0), (4, .int .u32 s_.1), (5, .int .i64 s_.2)]) (fun s_ : (Int × Int) => []) bytealg_hashStr_string.F0
noncomputable def bytealg_hashStr_string.L2 (a0 : ByteArray) (s1 : Int) (s2 : Int) : M (LS (Int × Int) (Int × Int)) :=
  if s2 < (a0.size : Int) then
    chk ((0 : Int) ≤ s2 ∧ s2 < (a0.size : Int)) >>= fun _ =>
    pure (LS.next (IntKind.wrap .u32 ((IntKind.wrap .u32 (s1 * 16777619)) + (IntKind.wrap .u32 (sb a0 s2))), IntKind.wrap .i64 (s2 + 1)))
  else
    (bytealg_hashStr_string.K1 a0 s1) >>= fun b => pure (LS.done b)
theorem bytealg_hashStr_string.L2_ok (a0 : ByteArray) (s1 : Int) (s2 : Int) :
    SJ bytealg_hashStr_string.cx [.code (c1 (c1 (c2 (c1 (c2 (c2 bytealg_hashStr_string.B)))))), .inLoop (c1 (c1 (c2 (c1 (c2 (c2 bytealg_hashStr_string.B)))))), .inBlock 0, .code (c2 (c2 (c2 bytealg_hashStr_string.B)))] [(0, .string a0), (4, .int .u32 s1), (5, .int .i64 s2)] [] (bytealg_hashStr_string.L2 a0 s1 s2) (bytealg_hashStr_string.F2 a0) := by
  unfold bytealg_hashStr_string.L2
  refine SJ.seq ?_
  refine SJ.sr 4 ?_
  refine OJ.go 4 [(12, .bool (decide (s2 < (a0.size : Int)))), (11, .int .i64 (a0.size : Int)), (10, .string a0), (9, .int .i64 s2)] ?_
  refine OJ.nil ?_
  refine SJ.cond (t := (.tmp 12)) (b := decide (s2 < (a0.size : Int))) decide_eq_true_iff (fun hc15 => ?_) (fun hc15 => ?_)
  · refine SJ.skip ?_
    refine SJ.seq ?_
    refine SJ.block (id := 1) ?_
    refine SJ.rg 8 ?_
    refine OJ.go 4 [(18, .int .i64 s2), (17, .string a0), (16, .int .u32 (IntKind.wrap .u32 (s1 * 16777619))), (15, .int .u32 s1)] ?_
    refine OJ.idxT (d := 19) (T := 9) (y := .tmp 17) (j := .tmp 18) (k := .i64) (fun hb13 hb14 => ?_)
    refine OJ.go 3 [(4, .int .u32 (IntKind.wrap .u32 ((IntKind.wrap .u32 (s1 * 16777619)) + (IntKind.wrap .u32 (sb a0 s2))))), (21, .int .u32 (IntKind.wrap .u32 ((IntKind.wrap .u32 (s1 * 16777619)) + (IntKind.wrap .u32 (sb a0 s2))))), (20, .int .u32 (IntKind.wrap .u32 (sb a0 s2)))] ?_
    refine OJ.nil ?_
    refine SJ.inBlock ?_
    refine SJ.rg 3 ?_
    refine OJ.go 3 [(5, .int .i64 (IntKind.wrap .i64 (s2 + 1))), (14, .int .i64 (IntKind.wrap .i64 (s2 + 1))), (13, .int .i64 s2)] ?_
    refine OJ.nil ?_
    exact SJ.at_ [0, 4, 5] rfl
  · refine SJ.exit (id := 0) (by rfl) ?_
    refine SJ.less [0, 4] (m' := [(0, .string a0), (4, .int .u32 s1)]) ?_
    refine SJ.done ?_
    exact bytealg_hashStr_string.K1_ok a0 s1
noncomputable def bytealg_hashStr_string (a0 : ByteArray) : M (Int × Int) :=
  loopM (fun s_ : (Int × Int) => bytealg_hashStr_string.L2 a0 s_.1 s_.2) (0, 0)
theorem bytealg_hashStr_string_ok (a0 : ByteArray) : Ref Tryd.prog 75 [.string a0] (bytealg_hashStr_string a0) bytealg_hashStr_string.out := by
  refine Ref.of (cd := bytealg_hashStr_string.B) Tryd.func75 ?_
  show SJ bytealg_hashStr_string.cx [.code bytealg_hashStr_string.B] [(0, .string a0)] [] (bytealg_hashStr_string a0) bytealg_hashStr_string.F0
  unfold bytealg_hashStr_string
  refine SJ.sr 2 ?_
  refine OJ.go 2 [(3, .int .u32 0), (2, .int .u32 0)] ?_
  refine OJ.nil ?_
  refine SJ.sr 1 ?_
  refine OJ.go 1 [(4, .int .u32 0)] ?_
  refine OJ.nil ?_
  refine SJ.seq ?_
  refine SJ.sr 1 ?_
  refine OJ.go 1 [(5, .int .i64 0)] ?_
  refine OJ.nil ?_
  refine SJ.block (id := 0) ?_
  exact SJ.loop (fun s_ : (Int × Int) => [(0, .string a0), (4, .int .u32 s_.1), (5, .int .i64 s_.2)]) (fun s_ : (Int × Int) => []) [0, 4, 5] rfl (fun _ _ => rfl) (fun s_ => bytealg_hashStr_string.L2_ok a0 s_.1 s_.2)

/-! ### internal/bytealg.IndexRabinKarp[string]: function 66 -/
noncomputable def bytealg_IndexRabinKarp_string.B : Code := (Tryd.f66.body).getD .skip
noncomputable def bytealg_IndexRabinKarp_string.cx : Fx := ⟨Tryd.prog, 66, Tryd.f66⟩
noncomputable def bytealg_IndexRabinKarp_string.out (r_ : Int) : Value := .int .i64 r_
noncomputable def bytealg_IndexRabinKarp_string.F0 (r_ : Int) : Reach := .ret (bytealg_IndexRabinKarp_string.out r_)
noncomputable def bytealg_IndexRabinKarp_string.F1 (a0 : ByteArray) (a1 : ByteArray) (r1 : (Int × Int)) : (LS (Int × Int) Int) → Reach := loopF [.inLoop (c1 (c1 (c2 (c1 (c2 (c2 (c2 (c2 (c2 (c2 bytealg_IndexRabinKarp_string.B)))))))))), .inBlock 2, .code (c2 (c2 (c2 (c2 (c2 (c2 (c2 bytealg_IndexRabinKarp_string.B)))))))] (fun s_ : (Int × Int) => [(0, .string a0), (1, .string a1), (5, .int .u32 r1.1), (6, .int .u32 r1.2), (7, .int .i64 (a1.size : Int)), (8, .int .u32 s_.1), (10, .int .i64 s_.2)]) (fun s_ : (Int × Int) => []) bytealg_IndexRabinKarp_string.F0
noncomputable def bytealg_IndexRabinKarp_string.L1 (a0 : ByteArray) (a1 : ByteArray) (r1 : (Int × Int)) (s8 : Int) (s9 : Int) : M (LS (Int × Int) Int) :=
  if s9 < (a0.size : Int) then
    chk ((0 : Int) ≤ s9 ∧ s9 < (a0.size : Int)) >>= fun _ =>
    chk ((0 : Int) ≤ (IntKind.wrap .i64 (s9 - (a1.size : Int))) ∧ (IntKind.wrap .i64 (s9 - (a1.size : Int))) < (a0.size : Int)) >>= fun _ =>
    (if (IntKind.wrap .u32 ((IntKind.wrap .u32 ((IntKind.wrap .u32 (s8 * 16777619)) + (IntKind.wrap .u32 (sb a0 s9)))) - (IntKind.wrap .u32 (r1.2 * (IntKind.wrap .u32 (sb a0 (IntKind.wrap .i64 (s9 - (a1.size : Int))))))))) = r1.1 then
        chk (0 ≤ ((IntKind.wrap .i64 ((IntKind.wrap .i64 (s9 + 1)) - (a1.size : Int))) : Int) ∧ ((IntKind.wrap .i64 ((IntKind.wrap .i64 (s9 + 1)) - (a1.size : Int))) : Int) ≤ (IntKind.wrap .i64 (s9 + 1)) ∧ (IntKind.wrap .i64 (s9 + 1)) ≤ (a0.size : Int)) >>= fun _ =>
        pure ((ByteArray.extract a0 (Int.toNat (IntKind.wrap .i64 ((IntKind.wrap .i64 (s9 + 1)) - (a1.size : Int)))) (Int.toNat (IntKind.wrap .i64 (s9 + 1)))).toList == a1.toList)
      else
        pure false) >>= fun y21 =>
    if y21 = true then
      pure (LS.done (IntKind.wrap .i64 ((IntKind.wrap .i64 (s9 + 1)) - (a1.size : Int))))
    else
      pure (LS.next (IntKind.wrap .u32 ((IntKind.wrap .u32 ((IntKind.wrap .u32 (s8 * 16777619)) + (IntKind.wrap .u32 (sb a0 s9)))) - (IntKind.wrap .u32 (r1.2 * (IntKind.wrap .u32 (sb a0 (IntKind.wrap .i64 (s9 - (a1.size : Int)))))))), IntKind.wrap .i64 (s9 + 1)))
  else
    pure (LS.done (-1))
theorem bytealg_IndexRabinKarp_string.L1_ok (a0 : ByteArray) (a1 : ByteArray) (r1 : (Int × Int)) (s8 : Int) (s9 : Int) :
    SJ bytealg_IndexRabinKarp_string.cx [.code (c1 (c1 (c2 (c1 (c2 (c2 (c2 (c2 (c2 (c2 bytealg_IndexRabinKarp_string.B)))))))))), .inLoop (c1 (c1 (c2 (c1 (c2 (c2 (c2 (c2 (c2 (c2 bytealg_IndexRabinKarp_string.B)))))))))), .inBlock 2, .code (c2 (c2 (c2 (c2 (c2 (c2 (c2 bytealg_IndexRabinKarp_string.B)))))))] [(0, .string a0), (1, .string a1), (5, .int .u32 r1.1), (6, .int .u32 r1.2), (7, .int .i64 (a1.size : Int)), (8, .int .u32 s8), (10, .int .i64 s9)] [] (bytealg_IndexRabinKarp_string.L1 a0 a1 r1 s8 s9) (bytealg_IndexRabinKarp_string.F1 a0 a1 r1) := by
  unfold bytealg_IndexRabinKarp_string.L1
  refine SJ.seq ?_
  refine SJ.sr 4 ?_
  refine OJ.go 4 [(44, .bool (decide (s9 < (a0.size : Int)))), (43, .int .i64 (a0.size : Int)), (42, .string a0), (41, .int .i64 s9)] ?_
  refine OJ.nil ?_
  refine SJ.cond (t := (.tmp 44)) (b := decide (s9 < (a0.size : Int))) decide_eq_true_iff (fun hc23 => ?_) (fun hc23 => ?_)
  · refine SJ.skip ?_
    refine SJ.block (id := 3) ?_
    refine SJ.sr 3 ?_
    refine OJ.go 3 [(8, .int .u32 (IntKind.wrap .u32 (s8 * 16777619))), (46, .int .u32 (IntKind.wrap .u32 (s8 * 16777619))), (45, .int .u32 s8)] ?_
    refine OJ.nil ?_
    refine SJ.sr 7 ?_
    refine OJ.go 3 [(49, .int .i64 s9), (48, .string a0), (47, .int .u32 (IntKind.wrap .u32 (s8 * 16777619)))] ?_
    refine OJ.idxT (d := 50) (T := 9) (y := .tmp 48) (j := .tmp 49) (k := .i64) (fun hb17 hb18 => ?_)
    refine OJ.go 3 [(8, .int .u32 (IntKind.wrap .u32 ((IntKind.wrap .u32 (s8 * 16777619)) + (IntKind.wrap .u32 (sb a0 s9))))), (52, .int .u32 (IntKind.wrap .u32 ((IntKind.wrap .u32 (s8 * 16777619)) + (IntKind.wrap .u32 (sb a0 s9))))), (51, .int .u32 (IntKind.wrap .u32 (sb a0 s9)))] ?_
    refine OJ.nil ?_
    refine SJ.sr 11 ?_
    refine OJ.go 6 [(58, .int .i64 (IntKind.wrap .i64 (s9 - (a1.size : Int)))), (57, .int .i64 (a1.size : Int)), (56, .int .i64 s9), (55, .string a0), (54, .int .u32 r1.2), (53, .int .u32 (IntKind.wrap .u32 ((IntKind.wrap .u32 (s8 * 16777619)) + (IntKind.wrap .u32 (sb a0 s9)))))] ?_
    refine OJ.idxT (d := 59) (T := 9) (y := .tmp 55) (j := .tmp 58) (k := .i64) (fun hb19 hb20 => ?_)
    refine OJ.go 4 [(8, .int .u32 (IntKind.wrap .u32 ((IntKind.wrap .u32 ((IntKind.wrap .u32 (s8 * 16777619)) + (IntKind.wrap .u32 (sb a0 s9)))) - (IntKind.wrap .u32 (r1.2 * (IntKind.wrap .u32 (sb a0 (IntKind.wrap .i64 (s9 - (a1.size : Int)))))))))), (62, .int .u32 (IntKind.wrap .u32 ((IntKind.wrap .u32 ((IntKind.wrap .u32 (s8 * 16777619)) + (IntKind.wrap .u32 (sb a0 s9)))) - (IntKind.wrap .u32 (r1.2 * (IntKind.wrap .u32 (sb a0 (IntKind.wrap .i64 (s9 - (a1.size : Int)))))))))), (61, .int .u32 (IntKind.wrap .u32 (r1.2 * (IntKind.wrap .u32 (sb a0 (IntKind.wrap .i64 (s9 - (a1.size : Int)))))))), (60, .int .u32 (IntKind.wrap .u32 (sb a0 (IntKind.wrap .i64 (s9 - (a1.size : Int))))))] ?_
    refine OJ.nil ?_
    refine SJ.sr 3 ?_
    refine OJ.go 3 [(10, .int .i64 (IntKind.wrap .i64 (s9 + 1))), (64, .int .i64 (IntKind.wrap .i64 (s9 + 1))), (63, .int .i64 s9)] ?_
    refine OJ.nil ?_
    refine SJ.sr 13 ?_
    refine OJ.go 4 [(68, .bool ((IntKind.wrap .u32 ((IntKind.wrap .u32 ((IntKind.wrap .u32 (s8 * 16777619)) + (IntKind.wrap .u32 (sb a0 s9)))) - (IntKind.wrap .u32 (r1.2 * (IntKind.wrap .u32 (sb a0 (IntKind.wrap .i64 (s9 - (a1.size : Int))))))))) == r1.1)), (67, .bool ((IntKind.wrap .u32 ((IntKind.wrap .u32 ((IntKind.wrap .u32 (s8 * 16777619)) + (IntKind.wrap .u32 (sb a0 s9)))) - (IntKind.wrap .u32 (r1.2 * (IntKind.wrap .u32 (sb a0 (IntKind.wrap .i64 (s9 - (a1.size : Int))))))))) == r1.1)), (66, .int .u32 r1.1), (65, .int .u32 (IntKind.wrap .u32 ((IntKind.wrap .u32 ((IntKind.wrap .u32 (s8 * 16777619)) + (IntKind.wrap .u32 (sb a0 s9)))) - (IntKind.wrap .u32 (r1.2 * (IntKind.wrap .u32 (sb a0 (IntKind.wrap .i64 (s9 - (a1.size : Int))))))))))] ?_
    refine OJ.join (b := ((IntKind.wrap .u32 ((IntKind.wrap .u32 ((IntKind.wrap .u32 (s8 * 16777619)) + (IntKind.wrap .u32 (sb a0 s9)))) - (IntKind.wrap .u32 (r1.2 * (IntKind.wrap .u32 (sb a0 (IntKind.wrap .i64 (s9 - (a1.size : Int))))))))) == r1.1)) [4, 5, 6, 7, 8, 9, 10, 11, 12] [] [0, 1, 5, 6, 7, 8, 10, 77] (fun y21 => [(0, .string a0), (1, .string a1), (5, .int .u32 r1.1), (6, .int .u32 r1.2), (7, .int .i64 (a1.size : Int)), (8, .int .u32 (IntKind.wrap .u32 ((IntKind.wrap .u32 ((IntKind.wrap .u32 (s8 * 16777619)) + (IntKind.wrap .u32 (sb a0 s9)))) - (IntKind.wrap .u32 (r1.2 * (IntKind.wrap .u32 (sb a0 (IntKind.wrap .i64 (s9 - (a1.size : Int)))))))))), (10, .int .i64 (IntKind.wrap .i64 (s9 + 1))), (77, .bool y21)]) [] [] (t := 68) beq_iff_eq (fun hp_ => ?_) (fun hp_ => ?_) (fun _ _ _ _ _ _ h_ => h_) (fun y21 => ?_)
    · refine OJ.go 5 [(73, .int .i64 (IntKind.wrap .i64 (s9 + 1))), (72, .int .i64 (IntKind.wrap .i64 ((IntKind.wrap .i64 (s9 + 1)) - (a1.size : Int)))), (71, .int .i64 (a1.size : Int)), (70, .int .i64 (IntKind.wrap .i64 (s9 + 1))), (69, .string a0)] ?_
      refine OJ.cutT (d := 74) (t := 9) (y := .tmp 69) (lo := (some (.tmp 72))) (hi := (some (.tmp 73))) (lo' := some (.i64, IntKind.wrap .i64 ((IntKind.wrap .i64 (s9 + 1)) - (a1.size : Int)))) (hi' := some (.i64, IntKind.wrap .i64 (s9 + 1))) ?_
      refine OJ.go 3 [(77, .bool ((ByteArray.extract a0 (Int.toNat (IntKind.wrap .i64 ((IntKind.wrap .i64 (s9 + 1)) - (a1.size : Int)))) (Int.toNat (IntKind.wrap .i64 (s9 + 1)))).toList == a1.toList)), (76, .bool ((ByteArray.extract a0 (Int.toNat (IntKind.wrap .i64 ((IntKind.wrap .i64 (s9 + 1)) - (a1.size : Int)))) (Int.toNat (IntKind.wrap .i64 (s9 + 1)))).toList == a1.toList)), (75, .string a1)] ?_
      exact OJ.nil ⟨(Cov.mem Cov.nil), rfl, _, rfl, by kernel_rfl⟩
    · refine OJ.go 9 [(77, .bool false), (76, undef), (75, undef), (74, undef), (73, undef), (72, undef), (71, undef), (70, undef), (69, undef)] ?_
      exact OJ.nil ⟨(Cov.mem Cov.nil), rfl, _, rfl, by kernel_rfl⟩
    · refine OJ.nil ?_
      refine SJ.cond (t := (.tmp 77)) (b := y21) Iff.rfl (fun hc22 => ?_) (fun hc22 => ?_)
      · refine SJ.sr 4 ?_
        refine OJ.go 4 [(4, .int .i64 (IntKind.wrap .i64 ((IntKind.wrap .i64 (s9 + 1)) - (a1.size : Int)))), (80, .int .i64 (IntKind.wrap .i64 ((IntKind.wrap .i64 (s9 + 1)) - (a1.size : Int)))), (79, .int .i64 (a1.size : Int)), (78, .int .i64 (IntKind.wrap .i64 (s9 + 1)))] ?_
        refine OJ.nil ?_
        exact SJ.ret rfl (Res.run (ys := [.int .i64 (IntKind.wrap .i64 ((IntKind.wrap .i64 (s9 + 1)) - (a1.size : Int)))]) (.tmp (by kernel_rfl) .nil) rfl)
      · refine SJ.skip ?_
        refine SJ.inBlock ?_
        exact SJ.at_ [0, 1, 5, 6, 7, 8, 10] rfl
  · refine SJ.exit (id := 2) (by rfl) ?_
    refine SJ.sr 1 ?_
    refine OJ.go 1 [(4, .int .i64 (-1))] ?_
    refine OJ.nil ?_
    exact SJ.ret rfl (Res.run (ys := [.int .i64 (-1)]) (.tmp (by kernel_rfl) .nil) rfl)
noncomputable def bytealg_IndexRabinKarp_string.K1 (a0 : ByteArray) (a1 : ByteArray) (r1 : (Int × Int)) (s2 : Int) : M Int :=
  (if s2 = r1.1 then
      chk (0 ≤ (0 : Int) ∧ (0 : Int) ≤ (a1.size : Int) ∧ (a1.size : Int) ≤ (a0.size : Int)) >>= fun _ =>
      pure ((ByteArray.extract a0 (Int.toNat 0) (Int.toNat (a1.size : Int))).toList == a1.toList)
    else
      pure false) >>= fun y7 =>
  if y7 = true then
    pure 0
  else
    loopM (fun s_ : (Int × Int) => bytealg_IndexRabinKarp_string.L1 a0 a1 r1 s_.1 s_.2) (s2, (a1.size : Int))
theorem bytealg_IndexRabinKarp_string.K1_ok (a0 : ByteArray) (a1 : ByteArray) (r1 : (Int × Int)) (s2 : Int) :
    SJ bytealg_IndexRabinKarp_string.cx [.code (c2 (c2 (c2 (c2 (c2 bytealg_IndexRabinKarp_string.B)))))] [(0, .string a0), (1, .string a1), (5, .int .u32 r1.1), (6, .int .u32 r1.2), (7, .int .i64 (a1.size : Int)), (8, .int .u32 s2)] [] (bytealg_IndexRabinKarp_string.K1 a0 a1 r1 s2) bytealg_IndexRabinKarp_string.F0 := by
  unfold bytealg_IndexRabinKarp_string.K1
  refine SJ.seq ?_
  refine SJ.sr 10 ?_
  refine OJ.go 4 [(33, .bool (s2 == r1.1)), (32, .bool (s2 == r1.1)), (31, .int .u32 r1.1), (30, .int .u32 s2)] ?_
  refine OJ.join (b := (s2 == r1.1)) [4, 5, 6, 7, 8, 9] [] [0, 1, 5, 6, 7, 8, 39] (fun y7 => [(0, .string a0), (1, .string a1), (5, .int .u32 r1.1), (6, .int .u32 r1.2), (7, .int .i64 (a1.size : Int)), (8, .int .u32 s2), (39, .bool y7)]) [] [] (t := 33) beq_iff_eq (fun hp_ => ?_) (fun hp_ => ?_) (fun _ _ _ _ _ _ h_ => h_) (fun y7 => ?_)
  · refine OJ.go 2 [(35, .int .i64 (a1.size : Int)), (34, .string a0)] ?_
    refine OJ.cutT (d := 36) (t := 9) (y := .tmp 34) (lo := none) (hi := (some (.tmp 35))) (lo' := none) (hi' := some (.i64, (a1.size : Int))) ?_
    refine OJ.go 3 [(39, .bool ((ByteArray.extract a0 (Int.toNat 0) (Int.toNat (a1.size : Int))).toList == a1.toList)), (38, .bool ((ByteArray.extract a0 (Int.toNat 0) (Int.toNat (a1.size : Int))).toList == a1.toList)), (37, .string a1)] ?_
    exact OJ.nil ⟨(Cov.mem Cov.nil), rfl, _, rfl, by kernel_rfl⟩
  · refine OJ.go 6 [(39, .bool false), (38, undef), (37, undef), (36, undef), (35, undef), (34, undef)] ?_
    exact OJ.nil ⟨(Cov.mem Cov.nil), rfl, _, rfl, by kernel_rfl⟩
  · refine OJ.nil ?_
    refine SJ.cond (t := (.tmp 39)) (b := y7) Iff.rfl (fun hc24 => ?_) (fun hc24 => ?_)
    · refine SJ.sr 1 ?_
      refine OJ.go 1 [(4, .int .i64 0)] ?_
      refine OJ.nil ?_
      exact SJ.ret rfl (Res.run (ys := [.int .i64 0]) (.tmp (by kernel_rfl) .nil) rfl)
    · refine SJ.skip ?_
      refine SJ.seq ?_
      refine SJ.sr 2 ?_
      refine OJ.go 2 [(10, .int .i64 (a1.size : Int)), (40, .int .i64 (a1.size : Int))] ?_
      refine OJ.nil ?_
      refine SJ.block (id := 2) ?_
      exact SJ.loop (fun s_ : (Int × Int) => [(0, .string a0), (1, .string a1), (5, .int .u32 r1.1), (6, .int .u32 r1.2), (7, .int .i64 (a1.size : Int)), (8, .int .u32 s_.1), (10, .int .i64 s_.2)]) (fun s_ : (Int × Int) => []) [0, 1, 5, 6, 7, 8, 10] rfl (fun _ _ => rfl) (fun s_ => bytealg_IndexRabinKarp_string.L1_ok a0 a1 r1 s_.1 s_.2)
noncomputable def bytealg_IndexRabinKarp_string.F2 (a0 : ByteArray) (a1 : ByteArray) (r1 : (Int × Int)) : (LS (Int × Int) Int) → Reach := loopF [.inLoop (c1 (c1 (c2 (c1 (c2 (c2 (c2 (c2 bytealg_IndexRabinKarp_string.B)))))))), .inBlock 0, .code (c2 (c2 (c2 (c2 (c2 bytealg_IndexRabinKarp_string.B)))))] (fun s_ : (Int × Int) => [(0, .string a0), (1, .string a1), (5, .int .u32 r1.1), (6, .int .u32 r1.2), (7, .int .i64 (a1.size : Int)), (8, .int .u32 s_.1), (9, .int .i64 s_.2)]) (fun s_ : (Int × Int) => []) bytealg_IndexRabinKarp_string.F0
noncomputable def bytealg_IndexRabinKarp_string.L2 (a0 : ByteArray) (a1 : ByteArray) (r1 : (Int × Int)) (s2 : Int) (s3 : Int) : M (LS (Int × Int) Int) :=
  if s3 < (a1.size : Int) then
    chk ((0 : Int) ≤ s3 ∧ s3 < (a0.size : Int)) >>= fun _ =>
    pure (LS.next (IntKind.wrap .u32 ((IntKind.wrap .u32 (s2 * 16777619)) + (IntKind.wrap .u32 (sb a0 s3))), IntKind.wrap .i64 (s3 + 1)))
  else
    (bytealg_IndexRabinKarp_string.K1 a0 a1 r1 s2) >>= fun b => pure (LS.done b)
theorem bytealg_IndexRabinKarp_string.L2_ok (a0 : ByteArray) (a1 : ByteArray) (r1 : (Int × Int)) (s2 : Int) (s3 : Int) :
    SJ bytealg_IndexRabinKarp_string.cx [.code (c1 (c1 (c2 (c1 (c2 (c2 (c2 (c2 bytealg_IndexRabinKarp_string.B)))))))), .inLoop (c1 (c1 (c2 (c1 (c2 (c2 (c2 (c2 bytealg_IndexRabinKarp_string.B)))))))), .inBlock 0, .code (c2 (c2 (c2 (c2 (c2 bytealg_IndexRabinKarp_string.B)))))] [(0, .string a0), (1, .string a1), (5, .int .u32 r1.1), (6, .int .u32 r1.2), (7, .int .i64 (a1.size : Int)), (8, .int .u32 s2), (9, .int .i64 s3)] [] (bytealg_IndexRabinKarp_string.L2 a0 a1 r1 s2 s3) (bytealg_IndexRabinKarp_string.F2 a0 a1 r1) := by
  unfold bytealg_IndexRabinKarp_string.L2
  refine SJ.seq ?_
  refine SJ.sr 3 ?_
  refine OJ.go 3 [(20, .bool (decide (s3 < (a1.size : Int)))), (19, .int .i64 (a1.size : Int)), (18, .int .i64 s3)] ?_
  refine OJ.nil ?_
  refine SJ.cond (t := (.tmp 20)) (b := decide (s3 < (a1.size : Int))) decide_eq_true_iff (fun hc27 => ?_) (fun hc27 => ?_)
  · refine SJ.skip ?_
    refine SJ.seq ?_
    refine SJ.block (id := 1) ?_
    refine SJ.rg 8 ?_
    refine OJ.go 4 [(26, .int .i64 s3), (25, .string a0), (24, .int .u32 (IntKind.wrap .u32 (s2 * 16777619))), (23, .int .u32 s2)] ?_
    refine OJ.idxT (d := 27) (T := 9) (y := .tmp 25) (j := .tmp 26) (k := .i64) (fun hb25 hb26 => ?_)
    refine OJ.go 3 [(8, .int .u32 (IntKind.wrap .u32 ((IntKind.wrap .u32 (s2 * 16777619)) + (IntKind.wrap .u32 (sb a0 s3))))), (29, .int .u32 (IntKind.wrap .u32 ((IntKind.wrap .u32 (s2 * 16777619)) + (IntKind.wrap .u32 (sb a0 s3))))), (28, .int .u32 (IntKind.wrap .u32 (sb a0 s3)))] ?_
    refine OJ.nil ?_
    refine SJ.inBlock ?_
    refine SJ.rg 3 ?_
    refine OJ.go 3 [(9, .int .i64 (IntKind.wrap .i64 (s3 + 1))), (22, .int .i64 (IntKind.wrap .i64 (s3 + 1))), (21, .int .i64 s3)] ?_
    refine OJ.nil ?_
    exact SJ.at_ [0, 1, 5, 6, 7, 8, 9] rfl
  · refine SJ.exit (id := 0) (by rfl) ?_
    refine SJ.less [0, 1, 5, 6, 7, 8] (m' := [(0, .string a0), (1, .string a1), (5, .int .u32 r1.1), (6, .int .u32 r1.2), (7, .int .i64 (a1.size : Int)), (8, .int .u32 s2)]) ?_
    refine SJ.done ?_
    exact bytealg_IndexRabinKarp_string.K1_ok a0 a1 r1 s2
noncomputable def bytealg_IndexRabinKarp_string (a0 : ByteArray) (a1 : ByteArray) : M Int :=
  bytealg_hashStr_string a1 >>= fun r1 =>
  loopM (fun s_ : (Int × Int) => bytealg_IndexRabinKarp_string.L2 a0 a1 r1 s_.1 s_.2) (0, 0)
theorem bytealg_IndexRabinKarp_string_ok (a0 : ByteArray) (a1 : ByteArray) : Ref Tryd.prog 66 [.string a0, .string a1] (bytealg_IndexRabinKarp_string a0 a1) bytealg_IndexRabinKarp_string.out := by
  refine Ref.of (cd := bytealg_IndexRabinKarp_string.B) Tryd.func66 ?_
  show SJ bytealg_IndexRabinKarp_string.cx [.code bytealg_IndexRabinKarp_string.B] [(0, .string a0), (1, .string a1)] [] (bytealg_IndexRabinKarp_string a0 a1) bytealg_IndexRabinKarp_string.F0
  unfold bytealg_IndexRabinKarp_string
  refine SJ.sr 1 ?_
  refine OJ.go 1 [(4, .int .i64 0)] ?_
  refine OJ.nil ?_
  refine SJ.sr 7 ?_
  refine OJ.go 1 [(12, .string a1)] ?_
  refine OJ.call (d := 13) (g := 75) (ats := #[9]) (args := [.tmp 12]) (owed := []) F75 (bytealg_hashStr_string_ok a1) (fun r1 => ?_)
  refine OW.nil ?_
  refine OJ.go 5 [(6, .int .u32 r1.2), (5, .int .u32 r1.1), (15, .int .u32 r1.2), (14, .int .u32 r1.1), (11, .tuple #[.int .u32 r1.1, .int .u32 r1.2])] ?_
  refine OJ.nil ?_
  refine SJ.sr 3 ?_
  refine OJ.go 3 [(7, .int .i64 (a1.size : Int)), (17, .int .i64 (a1.size : Int)), (16, .string a1)] ?_
  refine OJ.nil ?_
  refine SJ.sr 1 ?_
  refine OJ.go 1 [(8, .int .u32 0)] ?_
  refine OJ.nil ?_
  refine SJ.seq ?_
  refine SJ.sr 1 ?_
  refine OJ.go 1 [(9, .int .i64 0)] ?_
  refine OJ.nil ?_
  refine SJ.block (id := 0) ?_
  exact SJ.loop (fun s_ : (Int × Int) => [(0, .string a0), (1, .string a1), (5, .int .u32 r1.1), (6, .int .u32 r1.2), (7, .int .i64 (a1.size : Int)), (8, .int .u32 s_.1), (9, .int .i64 s_.2)]) (fun s_ : (Int × Int) => []) [0, 1, 5, 6, 7, 8, 9] rfl (fun _ _ => rfl) (fun s_ => bytealg_IndexRabinKarp_string.L2_ok a0 a1 r1 s_.1 s_.2)

/-! ### internal/stringslite.Index: function 55 -/
noncomputable def stringslite_Index.B : Code := (Tryd.f55.body).getD .skip
noncomputable def stringslite_Index.cx : Fx := ⟨Tryd.prog, 55, Tryd.f55⟩
noncomputable def stringslite_Index.out (r_ : Int) : Value := .int .i64 r_
noncomputable def stringslite_Index.F0 (r_ : Int) : Reach := .ret (stringslite_Index.out r_)
noncomputable def stringslite_Index.F1 (a0 : ByteArray) (a1 : ByteArray) : (LS (Int × Int) Int) → Reach := loopF [.inLoop (c1 (c1 (c1 (c2 (c2 (c2 (c2 (c2 (c2 (c2 (c2 stringslite_Index.B))))))))))), .inBlock 1, .code (c2 (c2 (c2 (c2 (c2 (c2 (c2 (c2 (c2 stringslite_Index.B)))))))))] (fun s_ : (Int × Int) => [(0, .string a0), (1, .string a1), (5, .int .i64 (a1.size : Int)), (6, .int .u8 (sb a1 0)), (7, .int .u8 (sb a1 1)), (8, .int .i64 s_.1), (9, .int .i64 (IntKind.wrap .i64 ((IntKind.wrap .i64 ((a0.size : Int) - (a1.size : Int))) + 1))), (10, .int .i64 s_.2)]) (fun s_ : (Int × Int) => []) stringslite_Index.F0
noncomputable def stringslite_Index.K1 (a0 : ByteArray) (a1 : ByteArray) (s46 : Int) (j84 : Int) : M (LS (Int × Int) Int) :=
  chk ((0 : Int) ≤ (IntKind.wrap .i64 (j84 + 1)) ∧ (IntKind.wrap .i64 (j84 + 1)) < (a0.size : Int)) >>= fun _ =>
  (if (sb a0 (IntKind.wrap .i64 (j84 + 1))) = (sb a1 1) then
      chk (0 ≤ (j84 : Int) ∧ (j84 : Int) ≤ (IntKind.wrap .i64 (j84 + (a1.size : Int))) ∧ (IntKind.wrap .i64 (j84 + (a1.size : Int))) ≤ (a0.size : Int)) >>= fun _ =>
      pure ((ByteArray.extract a0 (Int.toNat j84) (Int.toNat (IntKind.wrap .i64 (j84 + (a1.size : Int))))).toList == a1.toList)
    else
      pure false) >>= fun y87 =>
  if y87 = true then
    pure (LS.done j84)
  else
    ld (cI .i64) ⟨1, 0, none⟩ >>= fun x88 =>
    (if (a1.size : Int) ≤ x88 then
        bytealg_Cutover (IntKind.wrap .i64 (j84 + 1)) >>= fun r89 =>
        pure (decide ((IntKind.wrap .i64 (s46 + 1)) > r89))
      else
        pure false) >>= fun y90 =>
    if y90 = true then
      chk (0 ≤ ((IntKind.wrap .i64 (j84 + 1)) : Int) ∧ ((IntKind.wrap .i64 (j84 + 1)) : Int) ≤ (a0.size : Int) ∧ (a0.size : Int) ≤ (a0.size : Int)) >>= fun _ =>
      fail
    else
      ld (cI .i64) ⟨1, 0, none⟩ >>= fun x99 =>
      (if (a1.size : Int) > x99 then
          pure (decide ((IntKind.wrap .i64 (s46 + 1)) ≥ (IntKind.wrap .i64 (4 + (Int.fdiv (IntKind.wrap .i64 (j84 + 1)) (2 ^ 4))))))
        else
          pure false) >>= fun y100 =>
      (if y100 = true then
          pure (decide ((IntKind.wrap .i64 (j84 + 1)) < (IntKind.wrap .i64 ((IntKind.wrap .i64 ((a0.size : Int) - (a1.size : Int))) + 1))))
        else
          pure false) >>= fun y101 =>
      if y101 = true then
        chk (0 ≤ ((IntKind.wrap .i64 (j84 + 1)) : Int) ∧ ((IntKind.wrap .i64 (j84 + 1)) : Int) ≤ (a0.size : Int) ∧ (a0.size : Int) ≤ (a0.size : Int)) >>= fun _ =>
        bytealg_IndexRabinKarp_string (ByteArray.extract a0 (Int.toNat (IntKind.wrap .i64 (j84 + 1))) (Int.toNat (a0.size : Int))) a1 >>= fun r104 =>
        if r104 < 0 then
          pure (LS.done (-1))
        else
          pure (LS.done (IntKind.wrap .i64 ((IntKind.wrap .i64 (j84 + 1)) + r104)))
      else
        pure (LS.next (IntKind.wrap .i64 (j84 + 1), IntKind.wrap .i64 (s46 + 1)))
theorem stringslite_Index.K1_ok (a0 : ByteArray) (a1 : ByteArray) (s46 : Int) (j84 : Int) :
    SJ stringslite_Index.cx [.code (c2 (c1 (c2 (c1 (c1 (c1 (c2 (c2 (c2 (c2 (c2 (c2 (c2 (c2 stringslite_Index.B)))))))))))))), .inBlock 2, .inLoop (c1 (c1 (c1 (c2 (c2 (c2 (c2 (c2 (c2 (c2 (c2 stringslite_Index.B))))))))))), .inBlock 1, .code (c2 (c2 (c2 (c2 (c2 (c2 (c2 (c2 (c2 stringslite_Index.B)))))))))] [(0, .string a0), (1, .string a1), (5, .int .i64 (a1.size : Int)), (6, .int .u8 (sb a1 0)), (7, .int .u8 (sb a1 1)), (8, .int .i64 j84), (9, .int .i64 (IntKind.wrap .i64 ((IntKind.wrap .i64 ((a0.size : Int) - (a1.size : Int))) + 1))), (10, .int .i64 s46)] [] (stringslite_Index.K1 a0 a1 s46 j84) (stringslite_Index.F1 a0 a1) := by
  unfold stringslite_Index.K1
  refine SJ.seq ?_
  refine SJ.sr 16 ?_
  refine OJ.go 3 [(80, .int .i64 (IntKind.wrap .i64 (j84 + 1))), (79, .int .i64 j84), (78, .string a0)] ?_
  refine OJ.idxT (d := 81) (T := 9) (y := .tmp 78) (j := .tmp 80) (k := .i64) (fun hb85 hb86 => ?_)
  refine OJ.go 3 [(84, .bool ((sb a0 (IntKind.wrap .i64 (j84 + 1))) == (sb a1 1))), (83, .bool ((sb a0 (IntKind.wrap .i64 (j84 + 1))) == (sb a1 1))), (82, .int .u8 (sb a1 1))] ?_
  refine OJ.join (b := ((sb a0 (IntKind.wrap .i64 (j84 + 1))) == (sb a1 1))) [7, 8, 9, 10, 11, 12, 13, 14, 15] [] [0, 1, 5, 6, 7, 8, 9, 10, 93] (fun y87 => [(0, .string a0), (1, .string a1), (5, .int .i64 (a1.size : Int)), (6, .int .u8 (sb a1 0)), (7, .int .u8 (sb a1 1)), (8, .int .i64 j84), (9, .int .i64 (IntKind.wrap .i64 ((IntKind.wrap .i64 ((a0.size : Int) - (a1.size : Int))) + 1))), (10, .int .i64 s46), (93, .bool y87)]) [] [] (t := 84) beq_iff_eq (fun hp_ => ?_) (fun hp_ => ?_) (fun _ _ _ _ _ _ h_ => h_) (fun y87 => ?_)
  · refine OJ.go 5 [(89, .int .i64 (IntKind.wrap .i64 (j84 + (a1.size : Int)))), (88, .int .i64 (a1.size : Int)), (87, .int .i64 j84), (86, .int .i64 j84), (85, .string a0)] ?_
    refine OJ.cutT (d := 90) (t := 9) (y := .tmp 85) (lo := (some (.tmp 86))) (hi := (some (.tmp 89))) (lo' := some (.i64, j84)) (hi' := some (.i64, IntKind.wrap .i64 (j84 + (a1.size : Int)))) ?_
    refine OJ.go 3 [(93, .bool ((ByteArray.extract a0 (Int.toNat j84) (Int.toNat (IntKind.wrap .i64 (j84 + (a1.size : Int))))).toList == a1.toList)), (92, .bool ((ByteArray.extract a0 (Int.toNat j84) (Int.toNat (IntKind.wrap .i64 (j84 + (a1.size : Int))))).toList == a1.toList)), (91, .string a1)] ?_
    exact OJ.nil ⟨(Cov.mem Cov.nil), rfl, _, rfl, by kernel_rfl⟩
  · refine OJ.go 9 [(93, .bool false), (92, undef), (91, undef), (90, undef), (89, undef), (88, undef), (87, undef), (86, undef), (85, undef)] ?_
    exact OJ.nil ⟨(Cov.mem Cov.nil), rfl, _, rfl, by kernel_rfl⟩
  · refine OJ.nil ?_
    refine SJ.cond (t := (.tmp 93)) (b := y87) Iff.rfl (fun hc108 => ?_) (fun hc108 => ?_)
    · refine SJ.sr 2 ?_
      refine OJ.go 2 [(4, .int .i64 j84), (94, .int .i64 j84)] ?_
      refine OJ.nil ?_
      exact SJ.ret rfl (Res.run (ys := [.int .i64 j84]) (.tmp (by kernel_rfl) .nil) rfl)
    · refine SJ.skip ?_
      refine SJ.sr 3 ?_
      refine OJ.go 3 [(8, .int .i64 (IntKind.wrap .i64 (j84 + 1))), (96, .int .i64 (IntKind.wrap .i64 (j84 + 1))), (95, .int .i64 j84)] ?_
      refine OJ.nil ?_
      refine SJ.sr 3 ?_
      refine OJ.go 3 [(10, .int .i64 (IntKind.wrap .i64 (s46 + 1))), (98, .int .i64 (IntKind.wrap .i64 (s46 + 1))), (97, .int .i64 s46)] ?_
      refine OJ.nil ?_
      refine SJ.sr 9 ?_
      refine OJ.go 1 [(99, .int .i64 (a1.size : Int))] ?_
      refine OJ.ld (d := 100) (y := .global 1) (pend2 := fun x88 => []) Ty3 (fun _ => rfl) (fun x88 => ?_)
      refine OJ.go 2 [(102, .bool (decide ((a1.size : Int) ≤ x88))), (101, .bool (decide ((a1.size : Int) ≤ x88)))] ?_
      refine OJ.join (b := decide ((a1.size : Int) ≤ x88)) [4, 5, 6, 7, 8] [] [0, 1, 5, 6, 7, 8, 9, 10, 107] (fun y90 => [(0, .string a0), (1, .string a1), (5, .int .i64 (a1.size : Int)), (6, .int .u8 (sb a1 0)), (7, .int .u8 (sb a1 1)), (8, .int .i64 (IntKind.wrap .i64 (j84 + 1))), (9, .int .i64 (IntKind.wrap .i64 ((IntKind.wrap .i64 ((a0.size : Int) - (a1.size : Int))) + 1))), (10, .int .i64 (IntKind.wrap .i64 (s46 + 1))), (107, .bool y90)]) [] [] (t := 102) decide_eq_true_iff (fun hp_ => ?_) (fun hp_ => ?_) (fun _ _ _ _ _ _ h_ => h_) (fun y90 => ?_)
      · refine OJ.go 2 [(104, .int .i64 (IntKind.wrap .i64 (j84 + 1))), (103, .int .i64 (IntKind.wrap .i64 (s46 + 1)))] ?_
        refine OJ.call (d := 105) (g := 65) (ats := #[3]) (args := [.tmp 104]) (owed := []) F65 (bytealg_Cutover_ok (IntKind.wrap .i64 (j84 + 1))) (fun r89 => ?_)
        refine OW.nil ?_
        refine OJ.go 2 [(107, .bool (decide ((IntKind.wrap .i64 (s46 + 1)) > r89))), (106, .bool (decide ((IntKind.wrap .i64 (s46 + 1)) > r89)))] ?_
        exact OJ.nil ⟨(Cov.mem Cov.nil), rfl, _, rfl, by kernel_rfl⟩
      · refine OJ.go 5 [(107, .bool false), (106, undef), (105, undef), (104, undef), (103, undef)] ?_
        exact OJ.nil ⟨(Cov.mem Cov.nil), rfl, _, rfl, by kernel_rfl⟩
      · refine OJ.nil ?_
        refine SJ.cond (t := (.tmp 107)) (b := y90) Iff.rfl (fun hc107 => ?_) (fun hc107 => ?_)
        · refine SJ.sr 6 ?_
          refine OJ.go 2 [(109, .int .i64 (IntKind.wrap .i64 (j84 + 1))), (108, .string a0)] ?_
          refine OJ.cutT (d := 110) (t := 9) (y := .tmp 108) (lo := (some (.tmp 109))) (hi := none) (lo' := some (.i64, IntKind.wrap .i64 (j84 + 1))) (hi' := none) ?_
          refine OJ.go 1 [(111, .string a1)] ?_
          exact OJ.fail
        · refine SJ.sr 15 ?_
          refine OJ.go 1 [(118, .int .i64 (a1.size : Int))] ?_
          refine OJ.ld (d := 119) (y := .global 1) (pend2 := fun x99 => []) Ty3 (fun _ => rfl) (fun x99 => ?_)
          refine OJ.go 2 [(121, .bool (decide ((a1.size : Int) > x99))), (120, .bool (decide ((a1.size : Int) > x99)))] ?_
          refine OJ.join (b := decide ((a1.size : Int) > x99)) [4, 5, 6, 7, 8, 9] [10, 11, 12, 13, 14] [0, 1, 5, 6, 7, 8, 9, 10, 127] (fun y100 => [(0, .string a0), (1, .string a1), (5, .int .i64 (a1.size : Int)), (6, .int .u8 (sb a1 0)), (7, .int .u8 (sb a1 1)), (8, .int .i64 (IntKind.wrap .i64 (j84 + 1))), (9, .int .i64 (IntKind.wrap .i64 ((IntKind.wrap .i64 ((a0.size : Int) - (a1.size : Int))) + 1))), (10, .int .i64 (IntKind.wrap .i64 (s46 + 1))), (127, .bool y100)]) [] [] (t := 121) decide_eq_true_iff (fun hp_ => ?_) (fun hp_ => ?_) (fun _ _ _ _ _ _ h_ => h_) (fun y100 => ?_)
          · refine OJ.go 6 [(127, .bool (decide ((IntKind.wrap .i64 (s46 + 1)) ≥ (IntKind.wrap .i64 (4 + (Int.fdiv (IntKind.wrap .i64 (j84 + 1)) (2 ^ 4))))))), (126, .bool (decide ((IntKind.wrap .i64 (s46 + 1)) ≥ (IntKind.wrap .i64 (4 + (Int.fdiv (IntKind.wrap .i64 (j84 + 1)) (2 ^ 4))))))), (125, .int .i64 (IntKind.wrap .i64 (4 + (Int.fdiv (IntKind.wrap .i64 (j84 + 1)) (2 ^ 4))))), (124, .int .i64 (Int.fdiv (IntKind.wrap .i64 (j84 + 1)) (2 ^ 4))), (123, .int .i64 (IntKind.wrap .i64 (j84 + 1))), (122, .int .i64 (IntKind.wrap .i64 (s46 + 1)))] ?_
            exact OJ.nil ⟨(Cov.mem Cov.nil), rfl, _, rfl, by kernel_rfl⟩
          · refine OJ.go 6 [(127, .bool false), (126, undef), (125, undef), (124, undef), (123, undef), (122, undef)] ?_
            exact OJ.nil ⟨(Cov.mem Cov.nil), rfl, _, rfl, by kernel_rfl⟩
          · refine OJ.go 1 [(128, .bool y100)] ?_
            refine OJ.join (b := y100) [11, 12, 13, 14] [] [0, 1, 5, 6, 7, 8, 9, 10, 132] (fun y101 => [(0, .string a0), (1, .string a1), (5, .int .i64 (a1.size : Int)), (6, .int .u8 (sb a1 0)), (7, .int .u8 (sb a1 1)), (8, .int .i64 (IntKind.wrap .i64 (j84 + 1))), (9, .int .i64 (IntKind.wrap .i64 ((IntKind.wrap .i64 ((a0.size : Int) - (a1.size : Int))) + 1))), (10, .int .i64 (IntKind.wrap .i64 (s46 + 1))), (132, .bool y101)]) [] [] (t := 128) Iff.rfl (fun hp_ => ?_) (fun hp_ => ?_) (fun _ _ _ _ _ _ h_ => h_) (fun y101 => ?_)
            · refine OJ.go 4 [(132, .bool (decide ((IntKind.wrap .i64 (j84 + 1)) < (IntKind.wrap .i64 ((IntKind.wrap .i64 ((a0.size : Int) - (a1.size : Int))) + 1))))), (131, .bool (decide ((IntKind.wrap .i64 (j84 + 1)) < (IntKind.wrap .i64 ((IntKind.wrap .i64 ((a0.size : Int) - (a1.size : Int))) + 1))))), (130, .int .i64 (IntKind.wrap .i64 ((IntKind.wrap .i64 ((a0.size : Int) - (a1.size : Int))) + 1))), (129, .int .i64 (IntKind.wrap .i64 (j84 + 1)))] ?_
              exact OJ.nil ⟨(Cov.mem Cov.nil), rfl, _, rfl, by kernel_rfl⟩
            · refine OJ.go 4 [(132, .bool false), (131, undef), (130, undef), (129, undef)] ?_
              exact OJ.nil ⟨(Cov.mem Cov.nil), rfl, _, rfl, by kernel_rfl⟩
            · refine OJ.nil ?_
              refine SJ.cond (t := (.tmp 132)) (b := y101) Iff.rfl (fun hc106 => ?_) (fun hc106 => ?_)
              · refine SJ.sr 6 ?_
                refine OJ.go 2 [(134, .int .i64 (IntKind.wrap .i64 (j84 + 1))), (133, .string a0)] ?_
                refine OJ.cutT (d := 135) (t := 9) (y := .tmp 133) (lo := (some (.tmp 134))) (hi := none) (lo' := some (.i64, IntKind.wrap .i64 (j84 + 1))) (hi' := none) ?_
                refine OJ.go 1 [(136, .string a1)] ?_
                refine OJ.call (d := 137) (g := 66) (ats := #[9, 9]) (args := [.tmp 135, .tmp 136]) (owed := []) F66 (bytealg_IndexRabinKarp_string_ok (ByteArray.extract a0 (Int.toNat (IntKind.wrap .i64 (j84 + 1))) (Int.toNat (a0.size : Int))) a1) (fun r104 => ?_)
                refine OW.nil ?_
                refine OJ.go 1 [(13, .int .i64 r104)] ?_
                refine OJ.nil ?_
                refine SJ.seq ?_
                refine SJ.sr 2 ?_
                refine OJ.go 2 [(139, .bool (decide (r104 < 0))), (138, .int .i64 r104)] ?_
                refine OJ.nil ?_
                refine SJ.cond (t := (.tmp 139)) (b := decide (r104 < 0)) decide_eq_true_iff (fun hc105 => ?_) (fun hc105 => ?_)
                · refine SJ.sr 1 ?_
                  refine OJ.go 1 [(4, .int .i64 (-1))] ?_
                  refine OJ.nil ?_
                  exact SJ.ret rfl (Res.run (ys := [.int .i64 (-1)]) (.tmp (by kernel_rfl) .nil) rfl)
                · refine SJ.skip ?_
                  refine SJ.sr 4 ?_
                  refine OJ.go 4 [(4, .int .i64 (IntKind.wrap .i64 ((IntKind.wrap .i64 (j84 + 1)) + r104))), (142, .int .i64 (IntKind.wrap .i64 ((IntKind.wrap .i64 (j84 + 1)) + r104))), (141, .int .i64 r104), (140, .int .i64 (IntKind.wrap .i64 (j84 + 1)))] ?_
                  refine OJ.nil ?_
                  exact SJ.ret rfl (Res.run (ys := [.int .i64 (IntKind.wrap .i64 ((IntKind.wrap .i64 (j84 + 1)) + r104))]) (.tmp (by kernel_rfl) .nil) rfl)
              · refine SJ.skip ?_
                refine SJ.inBlock ?_
                exact SJ.at_ [0, 1, 5, 6, 7, 8, 9, 10] rfl
noncomputable def stringslite_Index.L1 (a0 : ByteArray) (a1 : ByteArray) (s45 : Int) (s46 : Int) : M (LS (Int × Int) Int) :=
  if s45 < (IntKind.wrap .i64 ((IntKind.wrap .i64 ((a0.size : Int) - (a1.size : Int))) + 1)) then
    chk ((0 : Int) ≤ s45 ∧ s45 < (a0.size : Int)) >>= fun _ =>
    if (sb a0 s45) ≠ (sb a1 0) then
      chk (0 ≤ ((IntKind.wrap .i64 (s45 + 1)) : Int) ∧ ((IntKind.wrap .i64 (s45 + 1)) : Int) ≤ (IntKind.wrap .i64 ((IntKind.wrap .i64 ((a0.size : Int) - (a1.size : Int))) + 1)) ∧ (IntKind.wrap .i64 ((IntKind.wrap .i64 ((a0.size : Int) - (a1.size : Int))) + 1)) ≤ (a0.size : Int)) >>= fun _ =>
      stringslite_IndexByte (ByteArray.extract a0 (Int.toNat (IntKind.wrap .i64 (s45 + 1))) (Int.toNat (IntKind.wrap .i64 ((IntKind.wrap .i64 ((a0.size : Int) - (a1.size : Int))) + 1)))) (sb a1 0) >>= fun r109 =>
      if r109 < 0 then
        pure (LS.done (-1))
      else
        stringslite_Index.K1 a0 a1 s46 (IntKind.wrap .i64 (s45 + (IntKind.wrap .i64 (r109 + 1))))
    else
      stringslite_Index.K1 a0 a1 s46 s45
  else
    pure (LS.done (-1))
theorem stringslite_Index.L1_ok (a0 : ByteArray) (a1 : ByteArray) (s45 : Int) (s46 : Int) :
    SJ stringslite_Index.cx [.code (c1 (c1 (c1 (c2 (c2 (c2 (c2 (c2 (c2 (c2 (c2 stringslite_Index.B))))))))))), .inLoop (c1 (c1 (c1 (c2 (c2 (c2 (c2 (c2 (c2 (c2 (c2 stringslite_Index.B))))))))))), .inBlock 1, .code (c2 (c2 (c2 (c2 (c2 (c2 (c2 (c2 (c2 stringslite_Index.B)))))))))] [(0, .string a0), (1, .string a1), (5, .int .i64 (a1.size : Int)), (6, .int .u8 (sb a1 0)), (7, .int .u8 (sb a1 1)), (8, .int .i64 s45), (9, .int .i64 (IntKind.wrap .i64 ((IntKind.wrap .i64 ((a0.size : Int) - (a1.size : Int))) + 1))), (10, .int .i64 s46)] [] (stringslite_Index.L1 a0 a1 s45 s46) (stringslite_Index.F1 a0 a1) := by
  unfold stringslite_Index.L1
  refine SJ.seq ?_
  refine SJ.sr 3 ?_
  refine OJ.go 3 [(59, .bool (decide (s45 < (IntKind.wrap .i64 ((IntKind.wrap .i64 ((a0.size : Int) - (a1.size : Int))) + 1))))), (58, .int .i64 (IntKind.wrap .i64 ((IntKind.wrap .i64 ((a0.size : Int) - (a1.size : Int))) + 1))), (57, .int .i64 s45)] ?_
  refine OJ.nil ?_
  refine SJ.cond (t := (.tmp 59)) (b := decide (s45 < (IntKind.wrap .i64 ((IntKind.wrap .i64 ((a0.size : Int) - (a1.size : Int))) + 1)))) decide_eq_true_iff (fun hc112 => ?_) (fun hc112 => ?_)
  · refine SJ.skip ?_
    refine SJ.block (id := 2) ?_
    refine SJ.seq ?_
    refine SJ.sr 5 ?_
    refine OJ.go 2 [(61, .int .i64 s45), (60, .string a0)] ?_
    refine OJ.idxT (d := 62) (T := 9) (y := .tmp 60) (j := .tmp 61) (k := .i64) (fun hb80 hb81 => ?_)
    refine OJ.go 2 [(64, .bool ((sb a0 s45) != (sb a1 0))), (63, .int .u8 (sb a1 0))] ?_
    refine OJ.nil ?_
    refine SJ.cond (t := (.tmp 64)) (b := ((sb a0 s45) != (sb a1 0))) bne_iff_ne (fun hc111 => ?_) (fun hc111 => ?_)
    · refine SJ.sr 8 ?_
      refine OJ.go 4 [(68, .int .i64 (IntKind.wrap .i64 ((IntKind.wrap .i64 ((a0.size : Int) - (a1.size : Int))) + 1))), (67, .int .i64 (IntKind.wrap .i64 (s45 + 1))), (66, .int .i64 s45), (65, .string a0)] ?_
      refine OJ.cutT (d := 69) (t := 9) (y := .tmp 65) (lo := (some (.tmp 67))) (hi := (some (.tmp 68))) (lo' := some (.i64, IntKind.wrap .i64 (s45 + 1))) (hi' := some (.i64, IntKind.wrap .i64 ((IntKind.wrap .i64 ((a0.size : Int) - (a1.size : Int))) + 1))) ?_
      refine OJ.go 1 [(70, .int .u8 (sb a1 0))] ?_
      refine OJ.call (d := 71) (g := 63) (ats := #[9, 5]) (args := [.tmp 69, .tmp 70]) (owed := []) F63 (stringslite_IndexByte_ok (ByteArray.extract a0 (Int.toNat (IntKind.wrap .i64 (s45 + 1))) (Int.toNat (IntKind.wrap .i64 ((IntKind.wrap .i64 ((a0.size : Int) - (a1.size : Int))) + 1)))) (sb a1 0)) (fun r109 => ?_)
      refine OW.nil ?_
      refine OJ.go 1 [(11, .int .i64 r109)] ?_
      refine OJ.nil ?_
      refine SJ.seq ?_
      refine SJ.sr 2 ?_
      refine OJ.go 2 [(73, .bool (decide (r109 < 0))), (72, .int .i64 r109)] ?_
      refine OJ.nil ?_
      refine SJ.cond (t := (.tmp 73)) (b := decide (r109 < 0)) decide_eq_true_iff (fun hc110 => ?_) (fun hc110 => ?_)
      · refine SJ.sr 1 ?_
        refine OJ.go 1 [(4, .int .i64 (-1))] ?_
        refine OJ.nil ?_
        exact SJ.ret rfl (Res.run (ys := [.int .i64 (-1)]) (.tmp (by kernel_rfl) .nil) rfl)
      · refine SJ.skip ?_
        refine SJ.rg 5 ?_
        refine OJ.go 5 [(8, .int .i64 (IntKind.wrap .i64 (s45 + (IntKind.wrap .i64 (r109 + 1))))), (77, .int .i64 (IntKind.wrap .i64 (s45 + (IntKind.wrap .i64 (r109 + 1))))), (76, .int .i64 (IntKind.wrap .i64 (r109 + 1))), (75, .int .i64 r109), (74, .int .i64 s45)] ?_
        refine OJ.nil ?_
        refine SJ.less [0, 1, 5, 6, 7, 8, 9, 10] (m' := [(0, .string a0), (1, .string a1), (5, .int .i64 (a1.size : Int)), (6, .int .u8 (sb a1 0)), (7, .int .u8 (sb a1 1)), (8, .int .i64 (IntKind.wrap .i64 (s45 + (IntKind.wrap .i64 (r109 + 1))))), (9, .int .i64 (IntKind.wrap .i64 ((IntKind.wrap .i64 ((a0.size : Int) - (a1.size : Int))) + 1))), (10, .int .i64 s46)]) ?_
        exact stringslite_Index.K1_ok a0 a1 s46 (IntKind.wrap .i64 (s45 + (IntKind.wrap .i64 (r109 + 1))))
    · refine SJ.skip ?_
      refine SJ.less [0, 1, 5, 6, 7, 8, 9, 10] (m' := [(0, .string a0), (1, .string a1), (5, .int .i64 (a1.size : Int)), (6, .int .u8 (sb a1 0)), (7, .int .u8 (sb a1 1)), (8, .int .i64 s45), (9, .int .i64 (IntKind.wrap .i64 ((IntKind.wrap .i64 ((a0.size : Int) - (a1.size : Int))) + 1))), (10, .int .i64 s46)]) ?_
      exact stringslite_Index.K1_ok a0 a1 s46 s45
  · refine SJ.exit (id := 1) (by rfl) ?_
    refine SJ.sr 1 ?_
    refine OJ.go 1 [(4, .int .i64 (-1))] ?_
    refine OJ.nil ?_
    exact SJ.ret rfl (Res.run (ys := [.int .i64 (-1)]) (.tmp (by kernel_rfl) .nil) rfl)
noncomputable def stringslite_Index (a0 : ByteArray) (a1 : ByteArray) : M Int :=
  (if (a1.size : Int) = 0 then
      pure true
    else
      pure (a1.toList == a0.toList)) >>= fun y1 =>
  if y1 = true then
    pure 0
  else
    if (a1.size : Int) = 1 then
      chk ((0 : Int) ≤ 0 ∧ 0 < (a1.size : Int)) >>= fun _ =>
      stringslite_IndexByte a0 (sb a1 0) >>= fun r35 =>
      pure r35
    else
      if (a1.size : Int) ≥ (a0.size : Int) then
        pure (-1)
      else
        ld (cI .i64) ⟨1, 0, none⟩ >>= fun x39 =>
        (if (a1.size : Int) ≤ x39 then
            pure (decide ((a0.size : Int) ≤ 64))
          else
            pure false) >>= fun y40 =>
        if y40 = true then
          fail
        else
          chk ((0 : Int) ≤ 0 ∧ 0 < (a1.size : Int)) >>= fun _ =>
          chk ((0 : Int) ≤ 1 ∧ 1 < (a1.size : Int)) >>= fun _ =>
          loopM (fun s_ : (Int × Int) => stringslite_Index.L1 a0 a1 s_.1 s_.2) (0, 0)
theorem stringslite_Index_ok (a0 : ByteArray) (a1 : ByteArray) : Ref Tryd.prog 55 [.string a0, .string a1] (stringslite_Index a0 a1) stringslite_Index.out := by
  refine Ref.of (cd := stringslite_Index.B) Tryd.func55 ?_
  show SJ stringslite_Index.cx [.code stringslite_Index.B] [(0, .string a0), (1, .string a1)] [] (stringslite_Index a0 a1) stringslite_Index.F0
  unfold stringslite_Index
  refine SJ.sr 1 ?_
  refine OJ.go 1 [(4, .int .i64 0)] ?_
  refine OJ.nil ?_
  refine SJ.sr 3 ?_
  refine OJ.go 3 [(5, .int .i64 (a1.size : Int)), (15, .int .i64 (a1.size : Int)), (14, .string a1)] ?_
  refine OJ.nil ?_
  refine SJ.seq ?_
  refine SJ.block (id := 0) ?_
  refine SJ.sr 8 ?_
  refine OJ.go 3 [(19, .bool ((a1.size : Int) == 0)), (18, .bool ((a1.size : Int) == 0)), (17, .int .i64 (a1.size : Int))] ?_
  refine OJ.join (b := ((a1.size : Int) == 0)) [3, 4, 5, 6] [7] [0, 1, 5, 23] (fun y1 => [(0, .string a0), (1, .string a1), (5, .int .i64 (a1.size : Int)), (23, .bool y1)]) [] [] (t := 19) beq_iff_eq (fun hp_ => ?_) (fun hp_ => ?_) (fun _ _ _ _ _ _ h_ => h_) (fun y1 => ?_)
  · refine OJ.go 4 [(23, .bool true), (22, undef), (21, undef), (20, undef)] ?_
    exact OJ.nil ⟨(Cov.mem Cov.nil), rfl, _, rfl, by kernel_rfl⟩
  · refine OJ.go 4 [(23, .bool (a1.toList == a0.toList)), (22, .bool (a1.toList == a0.toList)), (21, .string a0), (20, .string a1)] ?_
    exact OJ.nil ⟨(Cov.mem Cov.nil), rfl, _, rfl, by kernel_rfl⟩
  · refine OJ.go 1 [(16, .bool y1)] ?_
    refine OJ.nil ?_
    refine SJ.cond (t := (.tmp 16)) (b := y1) Iff.rfl (fun hc116 => ?_) (fun hc116 => ?_)
    · refine SJ.sr 1 ?_
      refine OJ.go 1 [(4, .int .i64 0)] ?_
      refine OJ.nil ?_
      exact SJ.ret rfl (Res.run (ys := [.int .i64 0]) (.tmp (by kernel_rfl) .nil) rfl)
    · refine SJ.sr 3 ?_
      refine OJ.go 3 [(24, .bool ((a1.size : Int) == 1)), (26, .bool ((a1.size : Int) == 1)), (25, .int .i64 (a1.size : Int))] ?_
      refine OJ.nil ?_
      refine SJ.cond (t := (.tmp 24)) (b := ((a1.size : Int) == 1)) beq_iff_eq (fun hc115 => ?_) (fun hc115 => ?_)
      · refine SJ.sr 5 ?_
        refine OJ.go 2 [(28, .string a1), (27, .string a0)] ?_
        refine OJ.idxT (d := 29) (T := 9) (y := .tmp 28) (j := .const (.int .i64 0)) (k := .i64) (fun hb33 hb34 => ?_)
        refine OJ.call (d := 30) (g := 63) (ats := #[9, 5]) (args := [.tmp 27, .tmp 29]) (owed := []) F63 (stringslite_IndexByte_ok a0 (sb a1 0)) (fun r35 => ?_)
        refine OW.nil ?_
        refine OJ.go 1 [(4, .int .i64 r35)] ?_
        refine OJ.nil ?_
        exact SJ.ret rfl (Res.run (ys := [.int .i64 r35]) (.tmp (by kernel_rfl) .nil) rfl)
      · refine SJ.sr 5 ?_
        refine OJ.go 5 [(31, .bool (decide ((a1.size : Int) ≥ (a0.size : Int)))), (35, .bool (decide ((a1.size : Int) ≥ (a0.size : Int)))), (34, .int .i64 (a0.size : Int)), (33, .string a0), (32, .int .i64 (a1.size : Int))] ?_
        refine OJ.nil ?_
        refine SJ.cond (t := (.tmp 31)) (b := decide ((a1.size : Int) ≥ (a0.size : Int))) decide_eq_true_iff (fun hc114 => ?_) (fun hc114 => ?_)
        · refine SJ.sr 1 ?_
          refine OJ.go 1 [(4, .int .i64 (-1))] ?_
          refine OJ.nil ?_
          exact SJ.ret rfl (Res.run (ys := [.int .i64 (-1)]) (.tmp (by kernel_rfl) .nil) rfl)
        · refine SJ.sr 9 ?_
          refine OJ.go 1 [(37, .int .i64 (a1.size : Int))] ?_
          refine OJ.ld (d := 38) (y := .global 1) (pend2 := fun x39 => []) Ty3 (fun _ => rfl) (fun x39 => ?_)
          refine OJ.go 2 [(40, .bool (decide ((a1.size : Int) ≤ x39))), (39, .bool (decide ((a1.size : Int) ≤ x39)))] ?_
          refine OJ.join (b := decide ((a1.size : Int) ≤ x39)) [4, 5, 6, 7] [8] [0, 1, 5, 44] (fun y40 => [(0, .string a0), (1, .string a1), (5, .int .i64 (a1.size : Int)), (44, .bool y40)]) [] [] (t := 40) decide_eq_true_iff (fun hp_ => ?_) (fun hp_ => ?_) (fun _ _ _ _ _ _ h_ => h_) (fun y40 => ?_)
          · refine OJ.go 4 [(44, .bool (decide ((a0.size : Int) ≤ 64))), (43, .bool (decide ((a0.size : Int) ≤ 64))), (42, .int .i64 (a0.size : Int)), (41, .string a0)] ?_
            exact OJ.nil ⟨(Cov.mem Cov.nil), rfl, _, rfl, by kernel_rfl⟩
          · refine OJ.go 4 [(44, .bool false), (43, undef), (42, undef), (41, undef)] ?_
            exact OJ.nil ⟨(Cov.mem Cov.nil), rfl, _, rfl, by kernel_rfl⟩
          · refine OJ.go 1 [(36, .bool y40)] ?_
            refine OJ.nil ?_
            refine SJ.cond (t := (.tmp 36)) (b := y40) Iff.rfl (fun hc113 => ?_) (fun hc113 => ?_)
            · refine SJ.sr 4 ?_
              refine OJ.go 2 [(46, .string a1), (45, .string a0)] ?_
              exact OJ.fail
            · refine SJ.skip ?_
              refine SJ.inBlock ?_
              refine SJ.sr 3 ?_
              refine OJ.go 1 [(48, .string a1)] ?_
              refine OJ.idxT (d := 49) (T := 9) (y := .tmp 48) (j := .const (.int .i64 0)) (k := .i64) (fun hb41 hb42 => ?_)
              refine OJ.go 1 [(6, .int .u8 (sb a1 0))] ?_
              refine OJ.nil ?_
              refine SJ.sr 3 ?_
              refine OJ.go 1 [(50, .string a1)] ?_
              refine OJ.idxT (d := 51) (T := 9) (y := .tmp 50) (j := .const (.int .i64 1)) (k := .i64) (fun hb43 hb44 => ?_)
              refine OJ.go 1 [(7, .int .u8 (sb a1 1))] ?_
              refine OJ.nil ?_
              refine SJ.sr 1 ?_
              refine OJ.go 1 [(8, .int .i64 0)] ?_
              refine OJ.nil ?_
              refine SJ.sr 6 ?_
              refine OJ.go 6 [(9, .int .i64 (IntKind.wrap .i64 ((IntKind.wrap .i64 ((a0.size : Int) - (a1.size : Int))) + 1))), (56, .int .i64 (IntKind.wrap .i64 ((IntKind.wrap .i64 ((a0.size : Int) - (a1.size : Int))) + 1))), (55, .int .i64 (IntKind.wrap .i64 ((a0.size : Int) - (a1.size : Int)))), (54, .int .i64 (a1.size : Int)), (53, .int .i64 (a0.size : Int)), (52, .string a0)] ?_
              refine OJ.nil ?_
              refine SJ.sr 1 ?_
              refine OJ.go 1 [(10, .int .i64 0)] ?_
              refine OJ.nil ?_
              refine SJ.seq ?_
              refine SJ.block (id := 1) ?_
              exact SJ.loop (fun s_ : (Int × Int) => [(0, .string a0), (1, .string a1), (5, .int .i64 (a1.size : Int)), (6, .int .u8 (sb a1 0)), (7, .int .u8 (sb a1 1)), (8, .int .i64 s_.1), (9, .int .i64 (IntKind.wrap .i64 ((IntKind.wrap .i64 ((a0.size : Int) - (a1.size : Int))) + 1))), (10, .int .i64 s_.2)]) (fun s_ : (Int × Int) => []) [0, 1, 5, 6, 7, 8, 9, 10] rfl (fun _ _ => rfl) (fun s_ => stringslite_Index.L1_ok a0 a1 s_.1 s_.2)

/-! ### strings.Index: function 48 -/
noncomputable def strings_Index.B : Code := (Tryd.f48.body).getD .skip
noncomputable def strings_Index.cx : Fx := ⟨Tryd.prog, 48, Tryd.f48⟩
noncomputable def strings_Index.out (r_ : Int) : Value := .int .i64 r_
noncomputable def strings_Index.F0 (r_ : Int) : Reach := .ret (strings_Index.out r_)
noncomputable def strings_Index (a0 : ByteArray) (a1 : ByteArray) : M Int :=
  stringslite_Index a0 a1 >>= fun r1 =>
  pure r1
theorem strings_Index_ok (a0 : ByteArray) (a1 : ByteArray) : Ref Tryd.prog 48 [.string a0, .string a1] (strings_Index a0 a1) strings_Index.out := by
  refine Ref.of (cd := strings_Index.B) Tryd.func48 ?_
  show SJ strings_Index.cx [.code strings_Index.B] [(0, .string a0), (1, .string a1)] [] (strings_Index a0 a1) strings_Index.F0
  unfold strings_Index
  refine SJ.sr 1 ?_
  refine OJ.go 1 [(4, .int .i64 0)] ?_
  refine OJ.nil ?_
  refine SJ.sr 4 ?_
  refine OJ.go 2 [(6, .string a1), (5, .string a0)] ?_
  refine OJ.call (d := 7) (g := 55) (ats := #[9, 9]) (args := [.tmp 5, .tmp 6]) (owed := []) F55 (stringslite_Index_ok a0 a1) (fun r1 => ?_)
  refine OW.nil ?_
  refine OJ.go 1 [(4, .int .i64 r1)] ?_
  refine OJ.nil ?_
  exact SJ.ret rfl (Res.run (ys := [.int .i64 r1]) (.tmp (by kernel_rfl) .nil) rfl)

/-! ### strings.Contains: function 37 -/
noncomputable def strings_Contains.B : Code := (Tryd.f37.body).getD .skip
noncomputable def strings_Contains.cx : Fx := ⟨Tryd.prog, 37, Tryd.f37⟩
noncomputable def strings_Contains.out (r_ : Bool) : Value := .bool r_
noncomputable def strings_Contains.F0 (r_ : Bool) : Reach := .ret (strings_Contains.out r_)
noncomputable def strings_Contains (a0 : ByteArray) (a1 : ByteArray) : M Bool :=
  strings_Index a0 a1 >>= fun r1 =>
  pure (decide (r1 ≥ 0))
theorem strings_Contains_ok (a0 : ByteArray) (a1 : ByteArray) : Ref Tryd.prog 37 [.string a0, .string a1] (strings_Contains a0 a1) strings_Contains.out := by
  refine Ref.of (cd := strings_Contains.B) Tryd.func37 ?_
  show SJ strings_Contains.cx [.code strings_Contains.B] [(0, .string a0), (1, .string a1)] [] (strings_Contains a0 a1) strings_Contains.F0
  unfold strings_Contains
  refine SJ.sr 1 ?_
  refine OJ.go 1 [(4, .bool false)] ?_
  refine OJ.nil ?_
  refine SJ.sr 5 ?_
  refine OJ.go 2 [(6, .string a1), (5, .string a0)] ?_
  refine OJ.call (d := 7) (g := 48) (ats := #[9, 9]) (args := [.tmp 5, .tmp 6]) (owed := []) F48 (strings_Index_ok a0 a1) (fun r1 => ?_)
  refine OW.nil ?_
  refine OJ.go 2 [(4, .bool (decide (r1 ≥ 0))), (8, .bool (decide (r1 ≥ 0)))] ?_
  refine OJ.nil ?_
  exact SJ.ret rfl (Res.run (ys := [.bool (decide (r1 ≥ 0))]) (.tmp (by kernel_rfl) .nil) rfl)

/-! ### weir/addr.missing: function 47 -/
noncomputable def addr_missing.B : Code := (Tryd.f47.body).getD .skip
noncomputable def addr_missing.cx : Fx := ⟨Tryd.prog, 47, Tryd.f47⟩
noncomputable def addr_missing.out (r_ : (Option Addr)) : Value := .pointer r_
noncomputable def addr_missing.F0 (r_ : (Option Addr)) : Reach := .ret (addr_missing.out r_)
noncomputable def addr_missing (a0 : ByteArray) (a1 : Int) : M (Option Addr) :=
  if a1 = (a0.size : Int) then
    newv 61 c_addr_fault (⟨42, a1⟩ : addr_fault) >>= fun b2 =>
    pure (some (pt b2 0))
  else
    newv 61 c_addr_fault (⟨41, a1⟩ : addr_fault) >>= fun b3 =>
    pure (some (pt b3 0))
theorem addr_missing_ok (a0 : ByteArray) (a1 : Int) : Ref Tryd.prog 47 [.string a0, .int .i64 a1] (addr_missing a0 a1) addr_missing.out := by
  refine Ref.of (cd := addr_missing.B) Tryd.func47 ?_
  show SJ addr_missing.cx [.code addr_missing.B] [(0, .string a0), (1, .int .i64 a1)] [] (addr_missing a0 a1) addr_missing.F0
  unfold addr_missing
  refine SJ.sr 1 ?_
  refine OJ.go 1 [(4, .pointer none)] ?_
  refine OJ.nil ?_
  refine SJ.seq ?_
  refine SJ.sr 4 ?_
  refine OJ.go 4 [(8, .bool (a1 == (a0.size : Int))), (7, .int .i64 (a0.size : Int)), (6, .string a0), (5, .int .i64 a1)] ?_
  refine OJ.nil ?_
  refine SJ.cond (t := (.tmp 8)) (b := (a1 == (a0.size : Int))) beq_iff_eq (fun hc4 => ?_) (fun hc4 => ?_)
  · refine SJ.sr 4 ?_
    refine OJ.go 1 [(9, .int .i64 a1)] ?_
    refine OJ.build (d := 10) (T := 61) (parts := [(0, .const (.int .i64 42)), (1, .tmp 9)]) (ps := [(0, (cI .i64).val 42), (1, (cI .i64).val a1)]) (cd := c_addr_fault) (z0 := z_addr_fault) (⟨42, a1⟩ : addr_fault) Ty61 rfl (Filled.cons (cd := (cI .i64)) (q := 42) (o := 0) (by kernel_rfl) (Up_addr_fault_why z_addr_fault 42) (Filled.cons (cd := (cI .i64)) (q := a1) (o := 1) (by kernel_rfl) (Up_addr_fault_at_ (⟨42, z_addr_fault.at_⟩ : addr_fault) a1) Filled.nil)) ?_
    refine OJ.newOf (d := 11) (op := (.box 61 (.tmp 10))) (cd := c_addr_fault) (u := (⟨42, a1⟩ : addr_fault)) (owed := []) (box_run (by kernel_rfl)) (fun b2 => ?_)
    refine OW.nil ?_
    refine OJ.go 1 [(4, .pointer (some (pt b2 0)))] ?_
    refine OJ.nil ?_
    exact SJ.ret rfl (Res.run (ys := [.pointer (some (pt b2 0))]) (.tmp (by kernel_rfl) .nil) rfl)
  · refine SJ.skip ?_
    refine SJ.sr 4 ?_
    refine OJ.go 1 [(12, .int .i64 a1)] ?_
    refine OJ.build (d := 13) (T := 61) (parts := [(0, .const (.int .i64 41)), (1, .tmp 12)]) (ps := [(0, (cI .i64).val 41), (1, (cI .i64).val a1)]) (cd := c_addr_fault) (z0 := z_addr_fault) (⟨41, a1⟩ : addr_fault) Ty61 rfl (Filled.cons (cd := (cI .i64)) (q := 41) (o := 0) (by kernel_rfl) (Up_addr_fault_why z_addr_fault 41) (Filled.cons (cd := (cI .i64)) (q := a1) (o := 1) (by kernel_rfl) (Up_addr_fault_at_ (⟨41, z_addr_fault.at_⟩ : addr_fault) a1) Filled.nil)) ?_
    refine OJ.newOf (d := 14) (op := (.box 61 (.tmp 13))) (cd := c_addr_fault) (u := (⟨41, a1⟩ : addr_fault)) (owed := []) (box_run (by kernel_rfl)) (fun b3 => ?_)
    refine OW.nil ?_
    refine OJ.go 1 [(4, .pointer (some (pt b3 0)))] ?_
    refine OJ.nil ?_
    exact SJ.ret rfl (Res.run (ys := [.pointer (some (pt b3 0))]) (.tmp (by kernel_rfl) .nil) rfl)

/-! ### weir/addr.digit: function 46 -/
noncomputable def addr_digit.B : Code := (Tryd.f46.body).getD .skip
noncomputable def addr_digit.cx : Fx := ⟨Tryd.prog, 46, Tryd.f46⟩
noncomputable def addr_digit.out (r_ : Bool) : Value := .bool r_
noncomputable def addr_digit.F0 (r_ : Bool) : Reach := .ret (addr_digit.out r_)
noncomputable def addr_digit (a0 : Int) : M Bool :=
  (if a0 ≥ 48 then
      pure (decide (a0 ≤ 57))
    else
      pure false) >>= fun y1 =>
  pure y1
theorem addr_digit_ok (a0 : Int) : Ref Tryd.prog 46 [.int .u8 a0] (addr_digit a0) addr_digit.out := by
  refine Ref.of (cd := addr_digit.B) Tryd.func46 ?_
  show SJ addr_digit.cx [.code addr_digit.B] [(0, .int .u8 a0)] [] (addr_digit a0) addr_digit.F0
  unfold addr_digit
  refine SJ.sr 1 ?_
  refine OJ.go 1 [(2, .bool false)] ?_
  refine OJ.nil ?_
  refine SJ.sr 7 ?_
  refine OJ.go 3 [(5, .bool (decide (a0 ≥ 48))), (4, .bool (decide (a0 ≥ 48))), (3, .int .u8 a0)] ?_
  refine OJ.join (b := decide (a0 ≥ 48)) [3, 4, 5] [6] [8] (fun y1 => [(8, .bool y1)]) [] [] (t := 5) decide_eq_true_iff (fun hp_ => ?_) (fun hp_ => ?_) (fun _ _ _ _ _ _ h_ => h_) (fun y1 => ?_)
  · refine OJ.go 3 [(8, .bool (decide (a0 ≤ 57))), (7, .bool (decide (a0 ≤ 57))), (6, .int .u8 a0)] ?_
    exact OJ.nil ⟨(Cov.mem Cov.nil), rfl, _, rfl, by kernel_rfl⟩
  · refine OJ.go 3 [(8, .bool false), (7, undef), (6, undef)] ?_
    exact OJ.nil ⟨(Cov.mem Cov.nil), rfl, _, rfl, by kernel_rfl⟩
  · refine OJ.go 1 [(2, .bool y1)] ?_
    refine OJ.nil ?_
    exact SJ.ret rfl (Res.run (ys := [.bool y1]) (.tmp (by kernel_rfl) .nil) rfl)

/-! ### weir/addr.number: function 35 -/
noncomputable def addr_number.B : Code := (Tryd.f35.body).getD .skip
noncomputable def addr_number.cx : Fx := ⟨Tryd.prog, 35, Tryd.f35⟩
noncomputable def addr_number.out (r_ : (Int × Int × (Option Addr))) : Value := .tuple #[.int .i64 r_.1, .int .i64 r_.2.1, .pointer r_.2.2]
noncomputable def addr_number.F0 (r_ : (Int × Int × (Option Addr))) : Reach := .ret (addr_number.out r_)
noncomputable def addr_number.F1 (a0 : ByteArray) (a1 : Int) (a2 : Int) (a3 : Int) (s1 : Int) : (LS (Int × Int) (Int × Int × (Option Addr))) → Reach := loopF [.inLoop (c1 (c1 (c2 (c1 (c2 (c2 (c2 (c2 (c2 (c2 addr_number.B)))))))))), .inBlock 2, .code (c2 (c2 (c2 (c2 (c2 (c2 (c2 addr_number.B)))))))] (fun s_ : (Int × Int) => [(0, .string a0), (1, .int .i64 a1), (2, .int .i64 a2), (3, .int .i64 a3), (11, .int .i64 s1), (12, .int .i64 s_.1), (13, .int .i64 s_.2)]) (fun s_ : (Int × Int) => []) addr_number.F0
noncomputable def addr_number.L1 (a0 : ByteArray) (a1 : Int) (a2 : Int) (a3 : Int) (s1 : Int) (s15 : Int) (s16 : Int) : M (LS (Int × Int) (Int × Int × (Option Addr))) :=
  if s16 < s1 then
    chk ((0 : Int) ≤ s16 ∧ s16 < (a0.size : Int)) >>= fun _ =>
    pure (LS.next (IntKind.wrap .i64 ((IntKind.wrap .i64 (10 * s15)) + (IntKind.wrap .i64 (IntKind.wrap .u8 ((sb a0 s16) - 48)))), IntKind.wrap .i64 (s16 + 1)))
  else
    if s15 > a2 then
      newv 61 c_addr_fault (⟨a3, a1⟩ : addr_fault) >>= fun b26 =>
      pure (LS.done (0, 0, (some (pt b26 0))))
    else
      pure (LS.done (s15, s1, none))
theorem addr_number.L1_ok (a0 : ByteArray) (a1 : Int) (a2 : Int) (a3 : Int) (s1 : Int) (s15 : Int) (s16 : Int) :
    SJ addr_number.cx [.code (c1 (c1 (c2 (c1 (c2 (c2 (c2 (c2 (c2 (c2 addr_number.B)))))))))), .inLoop (c1 (c1 (c2 (c1 (c2 (c2 (c2 (c2 (c2 (c2 addr_number.B)))))))))), .inBlock 2, .code (c2 (c2 (c2 (c2 (c2 (c2 (c2 addr_number.B)))))))] [(0, .string a0), (1, .int .i64 a1), (2, .int .i64 a2), (3, .int .i64 a3), (11, .int .i64 s1), (12, .int .i64 s15), (13, .int .i64 s16)] [] (addr_number.L1 a0 a1 a2 a3 s1 s15 s16) (addr_number.F1 a0 a1 a2 a3 s1) := by
  unfold addr_number.L1
  refine SJ.seq ?_
  refine SJ.sr 3 ?_
  refine OJ.go 3 [(56, .bool (decide (s16 < s1))), (55, .int .i64 s1), (54, .int .i64 s16)] ?_
  refine OJ.nil ?_
  refine SJ.cond (t := (.tmp 56)) (b := decide (s16 < s1)) decide_eq_true_iff (fun hc28 => ?_) (fun hc28 => ?_)
  · refine SJ.skip ?_
    refine SJ.seq ?_
    refine SJ.block (id := 3) ?_
    refine SJ.rg 9 ?_
    refine OJ.go 4 [(62, .int .i64 s16), (61, .string a0), (60, .int .i64 (IntKind.wrap .i64 (10 * s15))), (59, .int .i64 s15)] ?_
    refine OJ.idxT (d := 63) (T := 9) (y := .tmp 61) (j := .tmp 62) (k := .i64) (fun hb23 hb24 => ?_)
    refine OJ.go 4 [(12, .int .i64 (IntKind.wrap .i64 ((IntKind.wrap .i64 (10 * s15)) + (IntKind.wrap .i64 (IntKind.wrap .u8 ((sb a0 s16) - 48)))))), (66, .int .i64 (IntKind.wrap .i64 ((IntKind.wrap .i64 (10 * s15)) + (IntKind.wrap .i64 (IntKind.wrap .u8 ((sb a0 s16) - 48)))))), (65, .int .i64 (IntKind.wrap .i64 (IntKind.wrap .u8 ((sb a0 s16) - 48)))), (64, .int .u8 (IntKind.wrap .u8 ((sb a0 s16) - 48)))] ?_
    refine OJ.nil ?_
    refine SJ.inBlock ?_
    refine SJ.rg 3 ?_
    refine OJ.go 3 [(13, .int .i64 (IntKind.wrap .i64 (s16 + 1))), (58, .int .i64 (IntKind.wrap .i64 (s16 + 1))), (57, .int .i64 s16)] ?_
    refine OJ.nil ?_
    exact SJ.at_ [0, 1, 2, 3, 11, 12, 13] rfl
  · refine SJ.exit (id := 2) (by rfl) ?_
    refine SJ.seq ?_
    refine SJ.sr 3 ?_
    refine OJ.go 3 [(69, .bool (decide (s15 > a2))), (68, .int .i64 a2), (67, .int .i64 s15)] ?_
    refine OJ.nil ?_
    refine SJ.cond (t := (.tmp 69)) (b := decide (s15 > a2)) decide_eq_true_iff (fun hc27 => ?_) (fun hc27 => ?_)
    · refine SJ.sr 7 ?_
      refine OJ.go 2 [(71, .int .i64 a1), (70, .int .i64 a3)] ?_
      refine OJ.build (d := 72) (T := 61) (parts := [(0, .tmp 70), (1, .tmp 71)]) (ps := [(0, (cI .i64).val a3), (1, (cI .i64).val a1)]) (cd := c_addr_fault) (z0 := z_addr_fault) (⟨a3, a1⟩ : addr_fault) Ty61 rfl (Filled.cons (cd := (cI .i64)) (q := a3) (o := 0) (by kernel_rfl) (Up_addr_fault_why z_addr_fault a3) (Filled.cons (cd := (cI .i64)) (q := a1) (o := 1) (by kernel_rfl) (Up_addr_fault_at_ (⟨a3, z_addr_fault.at_⟩ : addr_fault) a1) Filled.nil)) ?_
      refine OJ.newOf (d := 73) (op := (.box 61 (.tmp 72))) (cd := c_addr_fault) (u := (⟨a3, a1⟩ : addr_fault)) (owed := []) (box_run (by kernel_rfl)) (fun b26 => ?_)
      refine OW.nil ?_
      refine OJ.go 3 [(10, .pointer (some (pt b26 0))), (9, .int .i64 0), (8, .int .i64 0)] ?_
      refine OJ.nil ?_
      exact SJ.ret rfl (Res.run (ys := [.int .i64 0, .int .i64 0, .pointer (some (pt b26 0))]) (.tmp (by kernel_rfl) (.tmp (by kernel_rfl) (.tmp (by kernel_rfl) .nil))) rfl)
    · refine SJ.skip ?_
      refine SJ.sr 5 ?_
      refine OJ.go 5 [(10, .pointer none), (9, .int .i64 s1), (8, .int .i64 s15), (75, .int .i64 s1), (74, .int .i64 s15)] ?_
      refine OJ.nil ?_
      exact SJ.ret rfl (Res.run (ys := [.int .i64 s15, .int .i64 s1, .pointer none]) (.tmp (by kernel_rfl) (.tmp (by kernel_rfl) (.tmp (by kernel_rfl) .nil))) rfl)
noncomputable def addr_number.K1 (a0 : ByteArray) (a1 : Int) (a2 : Int) (a3 : Int) (s1 : Int) : M (Int × Int × (Option Addr)) :=
  if s1 = a1 then
    addr_missing a0 a1 >>= fun r8 =>
    pure (0, 0, r8)
  else
    (if (IntKind.wrap .i64 (s1 - a1)) > 3 then
        pure true
      else
        (if (IntKind.wrap .i64 (s1 - a1)) > 1 then
            chk ((0 : Int) ≤ a1 ∧ a1 < (a0.size : Int)) >>= fun _ =>
            pure ((sb a0 a1) == 48)
          else
            pure false) >>= fun y11 =>
        pure y11) >>= fun y12 =>
    if y12 = true then
      newv 61 c_addr_fault (⟨a3, a1⟩ : addr_fault) >>= fun b14 =>
      pure (0, 0, (some (pt b14 0)))
    else
      loopM (fun s_ : (Int × Int) => addr_number.L1 a0 a1 a2 a3 s1 s_.1 s_.2) (0, a1)
theorem addr_number.K1_ok (a0 : ByteArray) (a1 : Int) (a2 : Int) (a3 : Int) (s1 : Int) :
    SJ addr_number.cx [.code (c2 (c2 (c2 addr_number.B)))] [(0, .string a0), (1, .int .i64 a1), (2, .int .i64 a2), (3, .int .i64 a3), (11, .int .i64 s1)] [] (addr_number.K1 a0 a1 a2 a3 s1) addr_number.F0 := by
  unfold addr_number.K1
  refine SJ.seq ?_
  refine SJ.sr 3 ?_
  refine OJ.go 3 [(29, .bool (s1 == a1)), (28, .int .i64 a1), (27, .int .i64 s1)] ?_
  refine OJ.nil ?_
  refine SJ.cond (t := (.tmp 29)) (b := (s1 == a1)) beq_iff_eq (fun hc30 => ?_) (fun hc30 => ?_)
  · refine SJ.sr 6 ?_
    refine OJ.go 2 [(31, .int .i64 a1), (30, .string a0)] ?_
    refine OJ.call (d := 32) (g := 47) (ats := #[9, 3]) (args := [.tmp 30, .tmp 31]) (owed := []) F47 (addr_missing_ok a0 a1) (fun r8 => ?_)
    refine OW.nil ?_
    refine OJ.go 3 [(10, .pointer r8), (9, .int .i64 0), (8, .int .i64 0)] ?_
    refine OJ.nil ?_
    exact SJ.ret rfl (Res.run (ys := [.int .i64 0, .int .i64 0, .pointer r8]) (.tmp (by kernel_rfl) (.tmp (by kernel_rfl) (.tmp (by kernel_rfl) .nil))) rfl)
  · refine SJ.skip ?_
    refine SJ.seq ?_
    refine SJ.sr 16 ?_
    refine OJ.go 5 [(37, .bool (decide ((IntKind.wrap .i64 (s1 - a1)) > 3))), (36, .bool (decide ((IntKind.wrap .i64 (s1 - a1)) > 3))), (35, .int .i64 (IntKind.wrap .i64 (s1 - a1))), (34, .int .i64 a1), (33, .int .i64 s1)] ?_
    refine OJ.join (b := decide ((IntKind.wrap .i64 (s1 - a1)) > 3)) [5, 6, 7, 8, 9, 10, 11, 12, 13, 14, 15] [] [0, 1, 2, 3, 11, 48] (fun y12 => [(0, .string a0), (1, .int .i64 a1), (2, .int .i64 a2), (3, .int .i64 a3), (11, .int .i64 s1), (48, .bool y12)]) [] [] (t := 37) decide_eq_true_iff (fun hp_ => ?_) (fun hp_ => ?_) (fun _ _ _ _ _ _ h_ => h_) (fun y12 => ?_)
    · refine OJ.go 11 [(48, .bool true), (47, undef), (46, undef), (45, undef), (44, undef), (43, undef), (42, undef), (41, undef), (40, undef), (39, undef), (38, undef)] ?_
      exact OJ.nil ⟨(Cov.mem Cov.nil), rfl, _, rfl, by kernel_rfl⟩
    · refine OJ.go 5 [(42, .bool (decide ((IntKind.wrap .i64 (s1 - a1)) > 1))), (41, .bool (decide ((IntKind.wrap .i64 (s1 - a1)) > 1))), (40, .int .i64 (IntKind.wrap .i64 (s1 - a1))), (39, .int .i64 a1), (38, .int .i64 s1)] ?_
      refine OJ.join (b := decide ((IntKind.wrap .i64 (s1 - a1)) > 1)) [10, 11, 12, 13, 14] [15] [0, 1, 2, 3, 11, 37, 47] (fun y11 => [(0, .string a0), (1, .int .i64 a1), (2, .int .i64 a2), (3, .int .i64 a3), (11, .int .i64 s1), (37, .bool false), (47, .bool y11)]) [] [] (t := 42) decide_eq_true_iff (fun hp_ => ?_) (fun hp_ => ?_) (fun _ _ _ _ _ hq_ h_ => ⟨fun e_ he_ => (hq_ e_ he_).elim (fun h => h_.1 e_ h) (fun h => nomatch h), h_.2⟩) (fun y11 => ?_)
      · refine OJ.go 2 [(44, .int .i64 a1), (43, .string a0)] ?_
        refine OJ.idxT (d := 45) (T := 9) (y := .tmp 43) (j := .tmp 44) (k := .i64) (fun hb9 hb10 => ?_)
        refine OJ.go 2 [(47, .bool ((sb a0 a1) == 48)), (46, .bool ((sb a0 a1) == 48))] ?_
        exact OJ.nil ⟨(Cov.mem Cov.nil), rfl, _, rfl, by kernel_rfl⟩
      · refine OJ.go 5 [(47, .bool false), (46, undef), (45, undef), (44, undef), (43, undef)] ?_
        exact OJ.nil ⟨(Cov.mem Cov.nil), rfl, _, rfl, by kernel_rfl⟩
      · refine OJ.go 1 [(48, .bool y11)] ?_
        exact OJ.nil ⟨(Cov.mem Cov.nil), rfl, _, rfl, by kernel_rfl⟩
    · refine OJ.nil ?_
      refine SJ.cond (t := (.tmp 48)) (b := y12) Iff.rfl (fun hc29 => ?_) (fun hc29 => ?_)
      · refine SJ.sr 7 ?_
        refine OJ.go 2 [(50, .int .i64 a1), (49, .int .i64 a3)] ?_
        refine OJ.build (d := 51) (T := 61) (parts := [(0, .tmp 49), (1, .tmp 50)]) (ps := [(0, (cI .i64).val a3), (1, (cI .i64).val a1)]) (cd := c_addr_fault) (z0 := z_addr_fault) (⟨a3, a1⟩ : addr_fault) Ty61 rfl (Filled.cons (cd := (cI .i64)) (q := a3) (o := 0) (by kernel_rfl) (Up_addr_fault_why z_addr_fault a3) (Filled.cons (cd := (cI .i64)) (q := a1) (o := 1) (by kernel_rfl) (Up_addr_fault_at_ (⟨a3, z_addr_fault.at_⟩ : addr_fault) a1) Filled.nil)) ?_
        refine OJ.newOf (d := 52) (op := (.box 61 (.tmp 51))) (cd := c_addr_fault) (u := (⟨a3, a1⟩ : addr_fault)) (owed := []) (box_run (by kernel_rfl)) (fun b14 => ?_)
        refine OW.nil ?_
        refine OJ.go 3 [(10, .pointer (some (pt b14 0))), (9, .int .i64 0), (8, .int .i64 0)] ?_
        refine OJ.nil ?_
        exact SJ.ret rfl (Res.run (ys := [.int .i64 0, .int .i64 0, .pointer (some (pt b14 0))]) (.tmp (by kernel_rfl) (.tmp (by kernel_rfl) (.tmp (by kernel_rfl) .nil))) rfl)
      · refine SJ.skip ?_
        refine SJ.sr 1 ?_
        refine OJ.go 1 [(12, .int .i64 0)] ?_
        refine OJ.nil ?_
        refine SJ.seq ?_
        refine SJ.sr 2 ?_
        refine OJ.go 2 [(13, .int .i64 a1), (53, .int .i64 a1)] ?_
        refine OJ.nil ?_
        refine SJ.block (id := 2) ?_
        exact SJ.loop (fun s_ : (Int × Int) => [(0, .string a0), (1, .int .i64 a1), (2, .int .i64 a2), (3, .int .i64 a3), (11, .int .i64 s1), (12, .int .i64 s_.1), (13, .int .i64 s_.2)]) (fun s_ : (Int × Int) => []) [0, 1, 2, 3, 11, 12, 13] rfl (fun _ _ => rfl) (fun s_ => addr_number.L1_ok a0 a1 a2 a3 s1 s_.1 s_.2)
noncomputable def addr_number.F2 (a0 : ByteArray) (a1 : Int) (a2 : Int) (a3 : Int) : (LS Int (Int × Int × (Option Addr))) → Reach := loopF [.inLoop (c1 (c1 (c1 (c2 (c2 addr_number.B))))), .inBlock 0, .code (c2 (c2 (c2 addr_number.B)))] (fun s_ : Int => [(0, .string a0), (1, .int .i64 a1), (2, .int .i64 a2), (3, .int .i64 a3), (11, .int .i64 s_)]) (fun s_ : Int => []) addr_number.F0
noncomputable def addr_number.L2 (a0 : ByteArray) (a1 : Int) (a2 : Int) (a3 : Int) (s1 : Int) : M (LS Int (Int × Int × (Option Addr))) :=
  (if s1 < (a0.size : Int) then
      chk ((0 : Int) ≤ s1 ∧ s1 < (a0.size : Int)) >>= fun _ =>
      addr_digit (sb a0 s1) >>= fun r33 =>
      pure r33
    else
      pure false) >>= fun y34 =>
  if y34 = true then
    pure (LS.next (IntKind.wrap .i64 (s1 + 1)))
  else
    (addr_number.K1 a0 a1 a2 a3 s1) >>= fun b => pure (LS.done b)
theorem addr_number.L2_ok (a0 : ByteArray) (a1 : Int) (a2 : Int) (a3 : Int) (s1 : Int) :
    SJ addr_number.cx [.code (c1 (c1 (c1 (c2 (c2 addr_number.B))))), .inLoop (c1 (c1 (c1 (c2 (c2 addr_number.B))))), .inBlock 0, .code (c2 (c2 (c2 addr_number.B)))] [(0, .string a0), (1, .int .i64 a1), (2, .int .i64 a2), (3, .int .i64 a3), (11, .int .i64 s1)] [] (addr_number.L2 a0 a1 a2 a3 s1) (addr_number.F2 a0 a1 a2 a3) := by
  unfold addr_number.L2
  refine SJ.seq ?_
  refine SJ.sr 10 ?_
  refine OJ.go 5 [(19, .bool (decide (s1 < (a0.size : Int)))), (18, .bool (decide (s1 < (a0.size : Int)))), (17, .int .i64 (a0.size : Int)), (16, .string a0), (15, .int .i64 s1)] ?_
  refine OJ.join (b := decide (s1 < (a0.size : Int))) [5, 6, 7, 8, 9] [] [0, 1, 2, 3, 11, 24] (fun y34 => [(0, .string a0), (1, .int .i64 a1), (2, .int .i64 a2), (3, .int .i64 a3), (11, .int .i64 s1), (24, .bool y34)]) [] [] (t := 19) decide_eq_true_iff (fun hp_ => ?_) (fun hp_ => ?_) (fun _ _ _ _ _ _ h_ => h_) (fun y34 => ?_)
  · refine OJ.go 2 [(21, .int .i64 s1), (20, .string a0)] ?_
    refine OJ.idxT (d := 22) (T := 9) (y := .tmp 20) (j := .tmp 21) (k := .i64) (fun hb31 hb32 => ?_)
    refine OJ.call (d := 23) (g := 46) (ats := #[5]) (args := [.tmp 22]) (owed := []) F46 (addr_digit_ok (sb a0 s1)) (fun r33 => ?_)
    refine OW.nil ?_
    refine OJ.go 1 [(24, .bool r33)] ?_
    exact OJ.nil ⟨(Cov.mem Cov.nil), rfl, _, rfl, by kernel_rfl⟩
  · refine OJ.go 5 [(24, .bool false), (23, undef), (22, undef), (21, undef), (20, undef)] ?_
    exact OJ.nil ⟨(Cov.mem Cov.nil), rfl, _, rfl, by kernel_rfl⟩
  · refine OJ.nil ?_
    refine SJ.cond (t := (.tmp 24)) (b := y34) Iff.rfl (fun hc35 => ?_) (fun hc35 => ?_)
    · refine SJ.skip ?_
      refine SJ.block (id := 1) ?_
      refine SJ.rg 3 ?_
      refine OJ.go 3 [(11, .int .i64 (IntKind.wrap .i64 (s1 + 1))), (26, .int .i64 (IntKind.wrap .i64 (s1 + 1))), (25, .int .i64 s1)] ?_
      refine OJ.nil ?_
      refine SJ.inBlock ?_
      exact SJ.at_ [0, 1, 2, 3, 11] rfl
    · refine SJ.exit (id := 0) (by rfl) ?_
      refine SJ.less [0, 1, 2, 3, 11] (m' := [(0, .string a0), (1, .int .i64 a1), (2, .int .i64 a2), (3, .int .i64 a3), (11, .int .i64 s1)]) ?_
      refine SJ.done ?_
      exact addr_number.K1_ok a0 a1 a2 a3 s1
noncomputable def addr_number (a0 : ByteArray) (a1 : Int) (a2 : Int) (a3 : Int) : M (Int × Int × (Option Addr)) :=
  loopM (fun s_ : Int => addr_number.L2 a0 a1 a2 a3 s_) a1
theorem addr_number_ok (a0 : ByteArray) (a1 : Int) (a2 : Int) (a3 : Int) : Ref Tryd.prog 35 [.string a0, .int .i64 a1, .int .i64 a2, .int .i64 a3] (addr_number a0 a1 a2 a3) addr_number.out := by
  refine Ref.of (cd := addr_number.B) Tryd.func35 ?_
  show SJ addr_number.cx [.code addr_number.B] [(0, .string a0), (1, .int .i64 a1), (2, .int .i64 a2), (3, .int .i64 a3)] [] (addr_number a0 a1 a2 a3) addr_number.F0
  unfold addr_number
  refine SJ.sr 3 ?_
  refine OJ.go 3 [(10, .pointer none), (9, .int .i64 0), (8, .int .i64 0)] ?_
  refine OJ.nil ?_
  refine SJ.sr 2 ?_
  refine OJ.go 2 [(11, .int .i64 a1), (14, .int .i64 a1)] ?_
  refine OJ.nil ?_
  refine SJ.seq ?_
  refine SJ.block (id := 0) ?_
  exact SJ.loop (fun s_ : Int => [(0, .string a0), (1, .int .i64 a1), (2, .int .i64 a2), (3, .int .i64 a3), (11, .int .i64 s_)]) (fun s_ : Int => []) [0, 1, 2, 3, 11] rfl (fun _ _ => rfl) (fun s_ => addr_number.L2_ok a0 a1 a2 a3 s_)

/-! ### weir/addr.four: function 38 -/
noncomputable def addr_four.B : Code := (Tryd.f38.body).getD .skip
noncomputable def addr_four.cx : Fx := ⟨Tryd.prog, 38, Tryd.f38⟩
noncomputable def addr_four.out (r_ : ((Vec Int 4) × (Option Addr))) : Value := .tuple #[((cI .u8).arr 4).val r_.1, .pointer r_.2]
noncomputable def addr_four.F0 (r_ : ((Vec Int 4) × (Option Addr))) : Reach := .ret (addr_four.out r_)
noncomputable def addr_four.K1 (a0 : ByteArray) (s3 : Int) (s5 : (Vec Int 4)) : M ((Vec Int 4) × (Option Addr)) :=
  if s3 < (a0.size : Int) then
    newv 61 c_addr_fault (⟨41, s3⟩ : addr_fault) >>= fun b27 =>
    pure (s5, (some (pt b27 0)))
  else
    pure (s5, none)
theorem addr_four.K1_ok (a0 : ByteArray) (b1 : Nat) (b2 : Nat) (s3 : Int) (s5 : (Vec Int 4)) (s6 : (Vec Int 4)) :
    SJ addr_four.cx [.code (c2 (c2 (c2 addr_four.B)))] [(0, .string a0), (1, .int .i64 s3), (4, .pointer (some (pt b1 0))), (6, .pointer (some (pt b2 0)))] [(b2, ((cI .u8).arr 4).enc s5), (b1, ((cI .u8).arr 4).enc s6)] (addr_four.K1 a0 s3 s5) addr_four.F0 := by
  unfold addr_four.K1
  refine SJ.seq ?_
  refine SJ.sr 4 ?_
  refine OJ.go 4 [(52, .bool (decide (s3 < (a0.size : Int)))), (51, .int .i64 (a0.size : Int)), (50, .string a0), (49, .int .i64 s3)] ?_
  refine OJ.nil ?_
  refine SJ.cond (t := (.tmp 52)) (b := decide (s3 < (a0.size : Int))) decide_eq_true_iff (fun hc28 => ?_) (fun hc28 => ?_)
  · refine SJ.sr 6 ?_
    refine OJ.kld (d := 53) (y := .tmp 6) (cd := ((cI .u8).arr 4)) (j := 0) (b := b2) (o := 0) s5 (pend2 := []) Ty86 rfl (At.whole _) rfl ?_
    refine OJ.go 1 [(54, .int .i64 s3)] ?_
    refine OJ.build (d := 55) (T := 61) (parts := [(0, .const (.int .i64 41)), (1, .tmp 54)]) (ps := [(0, (cI .i64).val 41), (1, (cI .i64).val s3)]) (cd := c_addr_fault) (z0 := z_addr_fault) (⟨41, s3⟩ : addr_fault) Ty61 rfl (Filled.cons (cd := (cI .i64)) (q := 41) (o := 0) (by kernel_rfl) (Up_addr_fault_why z_addr_fault 41) (Filled.cons (cd := (cI .i64)) (q := s3) (o := 1) (by kernel_rfl) (Up_addr_fault_at_ (⟨41, z_addr_fault.at_⟩ : addr_fault) s3) Filled.nil)) ?_
    refine OJ.newOf (d := 56) (op := (.box 61 (.tmp 55))) (cd := c_addr_fault) (u := (⟨41, s3⟩ : addr_fault)) (owed := []) (box_run (by kernel_rfl)) (fun b27 => ?_)
    refine OW.nil ?_
    refine OJ.kst (y := .tmp 4) (z := .tmp 53) (cd := ((cI .u8).arr 4)) (u := s5) (j := 1) (b := b1) (o := 0) (((cI .u8).arr 4).enc s5) (owed := []) Ty86 rfl (Upd.whole ((Cod.len _ _).trans (Cod.len _ _).symm)) rfl ?_
    refine OW.nil ?_
    refine OJ.go 1 [(5, .pointer (some (pt b27 0)))] ?_
    refine OJ.nil ?_
    exact SJ.ret rfl (Res.run (ys := [((cI .u8).arr 4).val s5, .pointer (some (pt b27 0))]) (.cell (j := 1) (b := b1) (cd := ((cI .u8).arr 4)) (q := s5) (by kernel_rfl) rfl Ty86 (At.whole _) (.tmp (by kernel_rfl) .nil)) rfl)
  · refine SJ.skip ?_
    refine SJ.sr 3 ?_
    refine OJ.kld (d := 57) (y := .tmp 6) (cd := ((cI .u8).arr 4)) (j := 0) (b := b2) (o := 0) s5 (pend2 := []) Ty86 rfl (At.whole _) rfl ?_
    refine OJ.kst (y := .tmp 4) (z := .tmp 57) (cd := ((cI .u8).arr 4)) (u := s5) (j := 1) (b := b1) (o := 0) (((cI .u8).arr 4).enc s5) (owed := []) Ty86 rfl (Upd.whole ((Cod.len _ _).trans (Cod.len _ _).symm)) rfl ?_
    refine OW.nil ?_
    refine OJ.go 1 [(5, .pointer none)] ?_
    refine OJ.nil ?_
    exact SJ.ret rfl (Res.run (ys := [((cI .u8).arr 4).val s5, .pointer none]) (.cell (j := 1) (b := b1) (cd := ((cI .u8).arr 4)) (q := s5) (by kernel_rfl) rfl Ty86 (At.whole _) (.tmp (by kernel_rfl) .nil)) rfl)
noncomputable def addr_four.F1 (a0 : ByteArray) (b1 : Nat) (b2 : Nat) : (LS (Int × Int × (Vec Int 4) × (Vec Int 4)) ((Vec Int 4) × (Option Addr))) → Reach := loopF [.inLoop (c1 (c1 (c2 (c1 (c2 (c2 addr_four.B)))))), .inBlock 0, .code (c2 (c2 (c2 addr_four.B)))] (fun s_ : (Int × Int × (Vec Int 4) × (Vec Int 4)) => [(0, .string a0), (1, .int .i64 s_.1), (4, .pointer (some (pt b1 0))), (6, .pointer (some (pt b2 0))), (11, .int .i64 s_.2.1)]) (fun s_ : (Int × Int × (Vec Int 4) × (Vec Int 4)) => [(b2, ((cI .u8).arr 4).enc s_.2.2.1), (b1, ((cI .u8).arr 4).enc s_.2.2.2)]) addr_four.F0
noncomputable def addr_four.K2 (a0 : ByteArray) (s4 : Int) (s5 : (Vec Int 4)) (s6 : (Vec Int 4)) (j35 : Int) : M (LS (Int × Int × (Vec Int 4) × (Vec Int 4)) ((Vec Int 4) × (Option Addr))) :=
  addr_number a0 j35 255 43 >>= fun r36 =>
  if ¬ (r36.2.2 = none) then
    pure (LS.done (s5, r36.2.2))
  else
    chk ((0 : Int) ≤ s4 ∧ s4 < (4 : Nat)) >>= fun _ =>
    pure (LS.next (r36.2.1, IntKind.wrap .i64 (s4 + 1), (Vec.s s5 s4 (IntKind.wrap .u8 r36.1)), s6))
theorem addr_four.K2_ok (a0 : ByteArray) (b1 : Nat) (b2 : Nat) (s4 : Int) (s5 : (Vec Int 4)) (s6 : (Vec Int 4)) (j35 : Int) :
    SJ addr_four.cx [.code (c2 (c2 (c1 (c1 (c2 (c2 (c1 (c1 (c2 (c1 (c2 (c2 addr_four.B)))))))))))), .inBlock 1, .code (c2 (c2 (c2 (c1 (c1 (c2 (c1 (c2 (c2 addr_four.B))))))))), .inLoop (c1 (c1 (c2 (c1 (c2 (c2 addr_four.B)))))), .inBlock 0, .code (c2 (c2 (c2 addr_four.B)))] [(0, .string a0), (1, .int .i64 j35), (4, .pointer (some (pt b1 0))), (6, .pointer (some (pt b2 0))), (11, .int .i64 s4), (7, .int .i64 s4)] [(b2, ((cI .u8).arr 4).enc s5), (b1, ((cI .u8).arr 4).enc s6)] (addr_four.K2 a0 s4 s5 s6 j35) (addr_four.F1 a0 b1 b2) := by
  unfold addr_four.K2
  refine SJ.sr 10 ?_
  refine OJ.go 2 [(34, .int .i64 j35), (33, .string a0)] ?_
  refine OJ.call (d := 35) (g := 35) (ats := #[9, 3, 3, 28]) (args := [.tmp 33, .tmp 34, .const (.int .i64 255), .const (.int .i64 43)]) (owed := []) F35 (addr_number_ok a0 j35 255 43) (fun r36 => ?_)
  refine OW.nil ?_
  refine OJ.go 7 [(10, .pointer r36.2.2), (9, .int .i64 r36.2.1), (8, .int .i64 r36.1), (38, .pointer r36.2.2), (37, .int .i64 r36.2.1), (36, .int .i64 r36.1), (32, .tuple #[.int .i64 r36.1, .int .i64 r36.2.1, .pointer r36.2.2])] ?_
  refine OJ.nil ?_
  refine SJ.seq ?_
  refine SJ.sr 2 ?_
  refine OJ.go 2 [(40, .bool (!(Option.isNone r36.2.2))), (39, .pointer r36.2.2)] ?_
  refine OJ.nil ?_
  refine SJ.cond (t := (.tmp 40)) (b := (!(Option.isNone r36.2.2))) (bnot_iff Option.isNone_iff_eq_none) (fun hc39 => ?_) (fun hc39 => ?_)
  · refine SJ.sr 4 ?_
    refine OJ.kld (d := 41) (y := .tmp 6) (cd := ((cI .u8).arr 4)) (j := 0) (b := b2) (o := 0) s5 (pend2 := []) Ty86 rfl (At.whole _) rfl ?_
    refine OJ.go 1 [(42, .pointer r36.2.2)] ?_
    refine OJ.kst (y := .tmp 4) (z := .tmp 41) (cd := ((cI .u8).arr 4)) (u := s5) (j := 1) (b := b1) (o := 0) (((cI .u8).arr 4).enc s5) (owed := []) Ty86 rfl (Upd.whole ((Cod.len _ _).trans (Cod.len _ _).symm)) rfl ?_
    refine OW.nil ?_
    refine OJ.go 1 [(5, .pointer r36.2.2)] ?_
    refine OJ.nil ?_
    exact SJ.ret rfl (Res.run (ys := [((cI .u8).arr 4).val s5, .pointer r36.2.2]) (.cell (j := 1) (b := b1) (cd := ((cI .u8).arr 4)) (q := s5) (by kernel_rfl) rfl Ty86 (At.whole _) (.tmp (by kernel_rfl) .nil)) rfl)
  · refine SJ.skip ?_
    refine SJ.sr 5 ?_
    refine OJ.go 3 [(45, .int .u8 (IntKind.wrap .u8 r36.1)), (44, .int .i64 r36.1), (43, .int .i64 s4)] ?_
    refine OJ.idxK (d := 46) (T := 86) (y := .tmp 6) (j := .tmp 43) (E := 5) (sz := 1) (b := b2) (o := 0) (k := .i64) (fun hb37 hb38 => ?_)
    refine OJ.kst (y := .tmp 46) (z := .tmp 45) (cd := (cI .u8)) (u := (IntKind.wrap .u8 r36.1)) (j := 0) (b := b2) (o := (0 + s4.toNat * 1)) (((cI .u8).arr 4).enc (Vec.s s5 s4 (IntKind.wrap .u8 r36.1))) (owed := []) Ty5 rfl (Upd.zero (Upd.arr hb37 hb38)) rfl ?_
    refine OW.nil ?_
    refine OJ.nil ?_
    refine SJ.rg 2 ?_
    refine OJ.go 2 [(1, .int .i64 r36.2.1), (47, .int .i64 r36.2.1)] ?_
    refine OJ.nil ?_
    refine SJ.inBlock ?_
    refine SJ.rg 2 ?_
    refine OJ.go 2 [(11, .int .i64 (IntKind.wrap .i64 (s4 + 1))), (48, .int .i64 (IntKind.wrap .i64 (s4 + 1)))] ?_
    refine OJ.nil ?_
    exact SJ.at_ [0, 1, 4, 6, 11] rfl
noncomputable def addr_four.L1 (a0 : ByteArray) (s3 : Int) (s4 : Int) (s5 : (Vec Int 4)) (s6 : (Vec Int 4)) : M (LS (Int × Int × (Vec Int 4) × (Vec Int 4)) ((Vec Int 4) × (Option Addr))) :=
  if s4 < 4 then
    if s4 > 0 then
      (if s3 = (a0.size : Int) then
          pure true
        else
          chk ((0 : Int) ≤ s3 ∧ s3 < (a0.size : Int)) >>= fun _ =>
          pure ((sb a0 s3) != 46)) >>= fun y42 =>
      if y42 = true then
        draw >>= fun _ =>
        addr_missing a0 s3 >>= fun r44 =>
        pure (LS.done (s5, r44))
      else
        addr_four.K2 a0 s4 s5 s6 (IntKind.wrap .i64 (s3 + 1))
    else
      addr_four.K2 a0 s4 s5 s6 s3
  else
    (addr_four.K1 a0 s3 s5) >>= fun b => pure (LS.done b)
theorem addr_four.L1_ok (a0 : ByteArray) (b1 : Nat) (b2 : Nat) (s3 : Int) (s4 : Int) (s5 : (Vec Int 4)) (s6 : (Vec Int 4)) :
    SJ addr_four.cx [.code (c1 (c1 (c2 (c1 (c2 (c2 addr_four.B)))))), .inLoop (c1 (c1 (c2 (c1 (c2 (c2 addr_four.B)))))), .inBlock 0, .code (c2 (c2 (c2 addr_four.B)))] [(0, .string a0), (1, .int .i64 s3), (4, .pointer (some (pt b1 0))), (6, .pointer (some (pt b2 0))), (11, .int .i64 s4)] [(b2, ((cI .u8).arr 4).enc s5), (b1, ((cI .u8).arr 4).enc s6)] (addr_four.L1 a0 s3 s4 s5 s6) (addr_four.F1 a0 b1 b2) := by
  unfold addr_four.L1
  refine SJ.sr 1 ?_
  refine OJ.go 1 [(12, .bool (decide (s4 < 4)))] ?_
  refine OJ.nil ?_
  refine SJ.seq ?_
  refine SJ.cond (t := (.tmp 12)) (b := decide (s4 < 4)) decide_eq_true_iff (fun hc47 => ?_) (fun hc47 => ?_)
  · refine SJ.skip ?_
    refine SJ.seq ?_
    refine SJ.block (id := 1) ?_
    refine SJ.sr 2 ?_
    refine OJ.go 2 [(7, .int .i64 s4), (13, .int .i64 s4)] ?_
    refine OJ.nil ?_
    refine SJ.seq ?_
    refine SJ.sr 2 ?_
    refine OJ.go 2 [(15, .bool (decide (s4 > 0))), (14, .int .i64 s4)] ?_
    refine OJ.nil ?_
    refine SJ.cond (t := (.tmp 15)) (b := decide (s4 > 0)) decide_eq_true_iff (fun hc46 => ?_) (fun hc46 => ?_)
    · refine SJ.seq ?_
      refine SJ.sr 10 ?_
      refine OJ.go 5 [(20, .bool (s3 == (a0.size : Int))), (19, .bool (s3 == (a0.size : Int))), (18, .int .i64 (a0.size : Int)), (17, .string a0), (16, .int .i64 s3)] ?_
      refine OJ.join (b := (s3 == (a0.size : Int))) [5, 6, 7, 8, 9] [] [0, 1, 4, 6, 11, 7, 25] (fun y42 => [(0, .string a0), (1, .int .i64 s3), (4, .pointer (some (pt b1 0))), (6, .pointer (some (pt b2 0))), (11, .int .i64 s4), (7, .int .i64 s4), (25, .bool y42)]) [] [] (t := 20) beq_iff_eq (fun hp_ => ?_) (fun hp_ => ?_) (fun _ _ _ _ _ _ h_ => h_) (fun y42 => ?_)
      · refine OJ.go 5 [(25, .bool true), (24, undef), (23, undef), (22, undef), (21, undef)] ?_
        exact OJ.nil ⟨(Cov.mem Cov.nil), rfl, _, rfl, by kernel_rfl⟩
      · refine OJ.go 2 [(22, .int .i64 s3), (21, .string a0)] ?_
        refine OJ.idxT (d := 23) (T := 9) (y := .tmp 21) (j := .tmp 22) (k := .i64) (fun hb40 hb41 => ?_)
        refine OJ.go 2 [(25, .bool ((sb a0 s3) != 46)), (24, .bool ((sb a0 s3) != 46))] ?_
        exact OJ.nil ⟨(Cov.mem Cov.nil), rfl, _, rfl, by kernel_rfl⟩
      · refine OJ.nil ?_
        refine SJ.cond (t := (.tmp 25)) (b := y42) Iff.rfl (fun hc45 => ?_) (fun hc45 => ?_)
        · refine SJ.seq ?_
          refine SJ.draw (id := 7) (kd := [1, 0, 0, 2, 2, 0]) (bef := [0, 0, 0, 6, 15, 31]) (ord := [0, 1, 2, 3, 4, 5]) mixed ?_
          refine OJ.kld (d := 26) (y := .tmp 6) (cd := ((cI .u8).arr 4)) (j := 0) (b := b2) (o := 0) s5 (pend2 := [⟨0, 86, (pt b2 0), ((cI .u8).arr 4).val s5⟩]) Ty86 rfl (At.whole _) rfl ?_
          refine OJ.go 2 [(28, .int .i64 s3), (27, .string a0)] ?_
          refine OJ.call (d := 29) (g := 47) (ats := #[9, 3]) (args := [.tmp 27, .tmp 28]) (owed := [⟨0, 86, (pt b2 0), ((cI .u8).arr 4).val s5⟩]) F47 (addr_missing_ok a0 s3) (fun r44 => ?_)
          refine OW.known (j := 0) (q := s5) Ty86 rfl (At.whole _) ?_
          refine OW.nil ?_
          refine OJ.kst (y := .tmp 4) (z := .tmp 26) (cd := ((cI .u8).arr 4)) (u := s5) (j := 1) (b := b1) (o := 0) (((cI .u8).arr 4).enc s5) (owed := []) Ty86 rfl (Upd.whole ((Cod.len _ _).trans (Cod.len _ _).symm)) rfl ?_
          refine OW.nil ?_
          refine OJ.go 1 [(5, .pointer r44)] ?_
          refine OJ.nil ?_
          exact SJ.ret rfl (Res.run (ys := [((cI .u8).arr 4).val s5, .pointer r44]) (.cell (j := 1) (b := b1) (cd := ((cI .u8).arr 4)) (q := s5) (by kernel_rfl) rfl Ty86 (At.whole _) (.tmp (by kernel_rfl) .nil)) rfl)
        · refine SJ.skip ?_
          refine SJ.rg 3 ?_
          refine OJ.go 3 [(1, .int .i64 (IntKind.wrap .i64 (s3 + 1))), (31, .int .i64 (IntKind.wrap .i64 (s3 + 1))), (30, .int .i64 s3)] ?_
          refine OJ.nil ?_
          refine SJ.less [0, 1, 4, 6, 11, 7] (m' := [(0, .string a0), (1, .int .i64 (IntKind.wrap .i64 (s3 + 1))), (4, .pointer (some (pt b1 0))), (6, .pointer (some (pt b2 0))), (11, .int .i64 s4), (7, .int .i64 s4)]) ?_
          exact addr_four.K2_ok a0 b1 b2 s4 s5 s6 (IntKind.wrap .i64 (s3 + 1))
    · refine SJ.skip ?_
      refine SJ.less [0, 1, 4, 6, 11, 7] (m' := [(0, .string a0), (1, .int .i64 s3), (4, .pointer (some (pt b1 0))), (6, .pointer (some (pt b2 0))), (11, .int .i64 s4), (7, .int .i64 s4)]) ?_
      exact addr_four.K2_ok a0 b1 b2 s4 s5 s6 s3
  · refine SJ.exit (id := 0) (by rfl) ?_
    refine SJ.less [0, 1, 4, 6] (m' := [(0, .string a0), (1, .int .i64 s3), (4, .pointer (some (pt b1 0))), (6, .pointer (some (pt b2 0)))]) ?_
    refine SJ.done ?_
    exact addr_four.K1_ok a0 b1 b2 s3 s5 s6
noncomputable def addr_four (a0 : ByteArray) (a1 : Int) : M ((Vec Int 4) × (Option Addr)) :=
  slot 86 >>= fun b1 =>
  slot 86 >>= fun b2 =>
  loopM (fun s_ : (Int × Int × (Vec Int 4) × (Vec Int 4)) => addr_four.L1 a0 s_.1 s_.2.1 s_.2.2.1 s_.2.2.2) (a1, 0, (Vec.rep 4 0), (Vec.rep 4 0))
theorem addr_four_ok (a0 : ByteArray) (a1 : Int) : Ref Tryd.prog 38 [.string a0, .int .i64 a1] (addr_four a0 a1) addr_four.out := by
  refine Ref.of (cd := addr_four.B) Tryd.func38 ?_
  show SJ addr_four.cx [.code addr_four.B] [(0, .string a0), (1, .int .i64 a1)] [] (addr_four a0 a1) addr_four.F0
  unfold addr_four
  refine SJ.sr 2 ?_
  refine OJ.slotOf (d := 4) (op := (.alloc 86)) (cd := ((cI .u8).arr 4)) (u := (Vec.rep 4 0)) (owed := []) (alloc_run Ty86) (fun b1 => ?_)
  refine OW.nil ?_
  refine OJ.go 1 [(5, .pointer none)] ?_
  refine OJ.nil ?_
  refine SJ.sr 1 ?_
  refine OJ.slotOf (d := 6) (op := (.alloc 86)) (cd := ((cI .u8).arr 4)) (u := (Vec.rep 4 0)) (owed := []) (alloc_run Ty86) (fun b2 => ?_)
  refine OW.nil ?_
  refine OJ.nil ?_
  refine SJ.seq ?_
  refine SJ.sr 1 ?_
  refine OJ.go 1 [(11, .int .i64 0)] ?_
  refine OJ.nil ?_
  refine SJ.block (id := 0) ?_
  exact SJ.loop (fun s_ : (Int × Int × (Vec Int 4) × (Vec Int 4)) => [(0, .string a0), (1, .int .i64 s_.1), (4, .pointer (some (pt b1 0))), (6, .pointer (some (pt b2 0))), (11, .int .i64 s_.2.1)]) (fun s_ : (Int × Int × (Vec Int 4) × (Vec Int 4)) => [(b2, ((cI .u8).arr 4).enc s_.2.2.1), (b1, ((cI .u8).arr 4).enc s_.2.2.2)]) [0, 1, 4, 6, 11] rfl (fun _ _ => rfl) (fun s_ => addr_four.L1_ok a0 b1 b2 s_.1 s_.2.1 s_.2.2.1 s_.2.2.2)

/-! ### internal/stringslite.HasPrefix: function 67 -/
noncomputable def stringslite_HasPrefix.B : Code := (Tryd.f67.body).getD .skip
noncomputable def stringslite_HasPrefix.cx : Fx := ⟨Tryd.prog, 67, Tryd.f67⟩
noncomputable def stringslite_HasPrefix.out (r_ : Bool) : Value := .bool r_
noncomputable def stringslite_HasPrefix.F0 (r_ : Bool) : Reach := .ret (stringslite_HasPrefix.out r_)
noncomputable def stringslite_HasPrefix (a0 : ByteArray) (a1 : ByteArray) : M Bool :=
  (if (a0.size : Int) ≥ (a1.size : Int) then
      chk (0 ≤ (0 : Int) ∧ (0 : Int) ≤ (a1.size : Int) ∧ (a1.size : Int) ≤ (a0.size : Int)) >>= fun _ =>
      pure ((ByteArray.extract a0 (Int.toNat 0) (Int.toNat (a1.size : Int))).toList == a1.toList)
    else
      pure false) >>= fun y1 =>
  pure y1
theorem stringslite_HasPrefix_ok (a0 : ByteArray) (a1 : ByteArray) : Ref Tryd.prog 67 [.string a0, .string a1] (stringslite_HasPrefix a0 a1) stringslite_HasPrefix.out := by
  refine Ref.of (cd := stringslite_HasPrefix.B) Tryd.func67 ?_
  show SJ stringslite_HasPrefix.cx [.code stringslite_HasPrefix.B] [(0, .string a0), (1, .string a1)] [] (stringslite_HasPrefix a0 a1) stringslite_HasPrefix.F0
  unfold stringslite_HasPrefix
  refine SJ.sr 1 ?_
  refine OJ.go 1 [(4, .bool false)] ?_
  refine OJ.nil ?_
  refine SJ.sr 14 ?_
  refine OJ.go 6 [(10, .bool (decide ((a0.size : Int) ≥ (a1.size : Int)))), (9, .bool (decide ((a0.size : Int) ≥ (a1.size : Int)))), (8, .int .i64 (a1.size : Int)), (7, .string a1), (6, .int .i64 (a0.size : Int)), (5, .string a0)] ?_
  refine OJ.join (b := decide ((a0.size : Int) ≥ (a1.size : Int))) [6, 7, 8, 9, 10, 11, 12] [13] [17] (fun y1 => [(17, .bool y1)]) [] [] (t := 10) decide_eq_true_iff (fun hp_ => ?_) (fun hp_ => ?_) (fun _ _ _ _ _ _ h_ => h_) (fun y1 => ?_)
  · refine OJ.go 3 [(13, .int .i64 (a1.size : Int)), (12, .string a1), (11, .string a0)] ?_
    refine OJ.cutT (d := 14) (t := 9) (y := .tmp 11) (lo := none) (hi := (some (.tmp 13))) (lo' := none) (hi' := some (.i64, (a1.size : Int))) ?_
    refine OJ.go 3 [(17, .bool ((ByteArray.extract a0 (Int.toNat 0) (Int.toNat (a1.size : Int))).toList == a1.toList)), (16, .bool ((ByteArray.extract a0 (Int.toNat 0) (Int.toNat (a1.size : Int))).toList == a1.toList)), (15, .string a1)] ?_
    exact OJ.nil ⟨(Cov.mem Cov.nil), rfl, _, rfl, by kernel_rfl⟩
  · refine OJ.go 7 [(17, .bool false), (16, undef), (15, undef), (14, undef), (13, undef), (12, undef), (11, undef)] ?_
    exact OJ.nil ⟨(Cov.mem Cov.nil), rfl, _, rfl, by kernel_rfl⟩
  · refine OJ.go 1 [(4, .bool y1)] ?_
    refine OJ.nil ?_
    exact SJ.ret rfl (Res.run (ys := [.bool y1]) (.tmp (by kernel_rfl) .nil) rfl)

/-! ### strings.HasPrefix: function 56 -/
noncomputable def strings_HasPrefix.B : Code := (Tryd.f56.body).getD .skip
noncomputable def strings_HasPrefix.cx : Fx := ⟨Tryd.prog, 56, Tryd.f56⟩
noncomputable def strings_HasPrefix.out (r_ : Bool) : Value := .bool r_
noncomputable def strings_HasPrefix.F0 (r_ : Bool) : Reach := .ret (strings_HasPrefix.out r_)
noncomputable def strings_HasPrefix (a0 : ByteArray) (a1 : ByteArray) : M Bool :=
  stringslite_HasPrefix a0 a1 >>= fun r1 =>
  pure r1
theorem strings_HasPrefix_ok (a0 : ByteArray) (a1 : ByteArray) : Ref Tryd.prog 56 [.string a0, .string a1] (strings_HasPrefix a0 a1) strings_HasPrefix.out := by
  refine Ref.of (cd := strings_HasPrefix.B) Tryd.func56 ?_
  show SJ strings_HasPrefix.cx [.code strings_HasPrefix.B] [(0, .string a0), (1, .string a1)] [] (strings_HasPrefix a0 a1) strings_HasPrefix.F0
  unfold strings_HasPrefix
  refine SJ.sr 1 ?_
  refine OJ.go 1 [(4, .bool false)] ?_
  refine OJ.nil ?_
  refine SJ.sr 4 ?_
  refine OJ.go 2 [(6, .string a1), (5, .string a0)] ?_
  refine OJ.call (d := 7) (g := 67) (ats := #[9, 9]) (args := [.tmp 5, .tmp 6]) (owed := []) F67 (stringslite_HasPrefix_ok a0 a1) (fun r1 => ?_)
  refine OW.nil ?_
  refine OJ.go 1 [(4, .bool r1)] ?_
  refine OJ.nil ?_
  exact SJ.ret rfl (Res.run (ys := [.bool r1]) (.tmp (by kernel_rfl) .nil) rfl)

/-! ### (*weir/addr.six).double: function 49 -/
noncomputable def addr_six_double.B : Code := (Tryd.f49.body).getD .skip
noncomputable def addr_six_double.cx : Fx := ⟨Tryd.prog, 49, Tryd.f49⟩
noncomputable def addr_six_double.out (r_ : (Bool × (Option Addr))) : Value := .tuple #[.bool r_.1, .pointer r_.2]
noncomputable def addr_six_double.F0 (r_ : (Bool × (Option Addr))) : Reach := .ret (addr_six_double.out r_)
noncomputable def addr_six_double (a0 : (Option Addr)) : M (Bool × (Option Addr)) :=
  draw >>= fun _ =>
  nilck a0 >>= fun p1 =>
  ld cS p1 >>= fun x2 =>
  nilck a0 >>= fun p3 =>
  ld (cI .i64) (Addr.add p3 1) >>= fun x4 =>
  chk (0 ≤ (x4 : Int) ∧ (x4 : Int) ≤ (x2.size : Int) ∧ (x2.size : Int) ≤ (x2.size : Int)) >>= fun _ =>
  strings_HasPrefix (ByteArray.extract x2 (Int.toNat x4) (Int.toNat (x2.size : Int))) str3 >>= fun r5 =>
  if ¬ (r5 = true) then
    pure (false, none)
  else
    nilck a0 >>= fun p6 =>
    ld (cI .i64) (Addr.add p6 3) >>= fun x7 =>
    (if x7 ≥ 0 then
        pure true
      else
        nilck a0 >>= fun p8 =>
        ld cL (Addr.add p8 2) >>= fun x9 =>
        pure ((x9.len : Int) == 8)) >>= fun y10 =>
    if y10 = true then
      draw >>= fun _ =>
      nilck a0 >>= fun p14 =>
      ld (cI .i64) (Addr.add p14 1) >>= fun x15 =>
      newv 61 c_addr_fault (⟨44, x15⟩ : addr_fault) >>= fun b16 =>
      pure (false, (some (pt b16 0)))
    else
      nilck a0 >>= fun p17 =>
      ld cL (Addr.add p17 2) >>= fun x18 =>
      nilck a0 >>= fun p19 =>
      st (cI .i64) (Addr.add p19 3) (x18.len : Int) >>= fun _ =>
      nilck a0 >>= fun p20 =>
      ld (cI .i64) (Addr.add p20 1) >>= fun x21 =>
      nilck a0 >>= fun p22 =>
      st (cI .i64) (Addr.add p22 1) (IntKind.wrap .i64 (x21 + 2)) >>= fun _ =>
      pure (true, none)
theorem addr_six_double_ok (a0 : (Option Addr)) : Ref Tryd.prog 49 [.pointer a0] (addr_six_double a0) addr_six_double.out := by
  refine Ref.of (cd := addr_six_double.B) Tryd.func49 ?_
  show SJ addr_six_double.cx [.code addr_six_double.B] [(0, .pointer a0)] [] (addr_six_double a0) addr_six_double.F0
  unfold addr_six_double
  refine SJ.sr 2 ?_
  refine OJ.go 2 [(3, .pointer none), (2, .bool false)] ?_
  refine OJ.nil ?_
  refine SJ.seq ?_
  refine SJ.seq ?_
  refine SJ.draw (id := 1) (kd := [0, 0, 0, 1, 0, 0, 0, 1, 0, 2, 0]) (bef := [0, 1, 3, 7, 0, 16, 48, 112, 255, 511, 1023]) (ord := [0, 1, 2, 3, 4, 5, 6, 7, 8, 9, 10]) mixed ?_
  refine OJ.go 1 [(4, .pointer a0)] ?_
  refine OJ.nilck (d := 5) (y := .tmp 4) (fun p1 => ?_)
  refine OJ.go 1 [(6, .pointer (some p1))] ?_
  refine OJ.ld (d := 7) (y := .tmp 6) (pend2 := fun x2 => [⟨3, 9, p1, cS.val x2⟩]) Ty9 (fun _ => rfl) (fun x2 => ?_)
  refine OJ.go 1 [(8, .pointer a0)] ?_
  refine OJ.nilck (d := 9) (y := .tmp 8) (fun p3 => ?_)
  refine OJ.go 1 [(10, .pointer (some (Addr.add p3 1)))] ?_
  refine OJ.ld (d := 11) (y := .tmp 10) (pend2 := fun x4 => [⟨7, 3, (Addr.add p3 1), (cI .i64).val x4⟩, ⟨3, 9, p1, cS.val x2⟩]) Ty3 (fun _ => rfl) (fun x4 => ?_)
  refine OJ.cutT (d := 12) (t := 9) (y := .tmp 7) (lo := (some (.tmp 11))) (hi := none) (lo' := some (.i64, x4)) (hi' := none) ?_
  refine OJ.call (d := 13) (g := 56) (ats := #[9, 9]) (args := [.tmp 12, .const (.string str3)]) (owed := []) F56 (strings_HasPrefix_ok (ByteArray.extract x2 (Int.toNat x4) (Int.toNat (x2.size : Int))) str3) (fun r5 => ?_)
  refine OW.nil ?_
  refine OJ.go 1 [(14, .bool (!r5))] ?_
  refine OJ.nil ?_
  refine SJ.cond (t := (.tmp 14)) (b := (!r5)) (bnot_iff Iff.rfl) (fun hc24 => ?_) (fun hc24 => ?_)
  · refine SJ.sr 2 ?_
    refine OJ.go 2 [(3, .pointer none), (2, .bool false)] ?_
    refine OJ.nil ?_
    exact SJ.ret rfl (Res.run (ys := [.bool false, .pointer none]) (.tmp (by kernel_rfl) (.tmp (by kernel_rfl) .nil)) rfl)
  · refine SJ.skip ?_
    refine SJ.seq ?_
    refine SJ.sr 13 ?_
    refine OJ.go 1 [(15, .pointer a0)] ?_
    refine OJ.nilck (d := 16) (y := .tmp 15) (fun p6 => ?_)
    refine OJ.go 1 [(17, .pointer (some (Addr.add p6 3)))] ?_
    refine OJ.ld (d := 18) (y := .tmp 17) (pend2 := fun x7 => []) Ty3 (fun _ => rfl) (fun x7 => ?_)
    refine OJ.go 2 [(20, .bool (decide (x7 ≥ 0))), (19, .bool (decide (x7 ≥ 0)))] ?_
    refine OJ.join (b := decide (x7 ≥ 0)) [6, 7, 8, 9, 10, 11, 12] [] [0, 27] (fun y10 => [(0, .pointer a0), (27, .bool y10)]) [] [] (t := 20) decide_eq_true_iff (fun hp_ => ?_) (fun hp_ => ?_) (fun _ _ _ _ _ _ h_ => h_) (fun y10 => ?_)
    · refine OJ.go 7 [(27, .bool true), (26, undef), (25, undef), (24, undef), (23, undef), (22, undef), (21, undef)] ?_
      exact OJ.nil ⟨(Cov.mem Cov.nil), rfl, _, rfl, by kernel_rfl⟩
    · refine OJ.go 1 [(21, .pointer a0)] ?_
      refine OJ.nilck (d := 22) (y := .tmp 21) (fun p8 => ?_)
      refine OJ.go 1 [(23, .pointer (some (Addr.add p8 2)))] ?_
      refine OJ.ld (d := 24) (y := .tmp 23) (pend2 := fun x9 => []) Ty23 (fun _ => rfl) (fun x9 => ?_)
      refine OJ.go 3 [(27, .bool ((x9.len : Int) == 8)), (26, .bool ((x9.len : Int) == 8)), (25, .int .i64 (x9.len : Int))] ?_
      exact OJ.nil ⟨(Cov.mem Cov.nil), rfl, _, rfl, by kernel_rfl⟩
    · refine OJ.nil ?_
      refine SJ.cond (t := (.tmp 27)) (b := y10) Iff.rfl (fun hc23 => ?_) (fun hc23 => ?_)
      · refine SJ.seq ?_
        refine SJ.draw (id := 4) (kd := [0, 0, 0, 1, 0, 2, 0, 0]) (bef := [0, 1, 3, 7, 15, 31, 0, 127]) (ord := [0, 1, 2, 3, 4, 5, 6, 7]) mixed ?_
        refine OJ.go 1 [(28, .pointer a0)] ?_
        refine OJ.nilck (d := 29) (y := .tmp 28) (fun p14 => ?_)
        refine OJ.go 1 [(30, .pointer (some (Addr.add p14 1)))] ?_
        refine OJ.ld (d := 31) (y := .tmp 30) (pend2 := fun x15 => [⟨3, 3, (Addr.add p14 1), (cI .i64).val x15⟩]) Ty3 (fun _ => rfl) (fun x15 => ?_)
        refine OJ.build (d := 32) (T := 61) (parts := [(0, .const (.int .i64 44)), (1, .tmp 31)]) (ps := [(0, (cI .i64).val 44), (1, (cI .i64).val x15)]) (cd := c_addr_fault) (z0 := z_addr_fault) (⟨44, x15⟩ : addr_fault) Ty61 rfl (Filled.cons (cd := (cI .i64)) (q := 44) (o := 0) (by kernel_rfl) (Up_addr_fault_why z_addr_fault 44) (Filled.cons (cd := (cI .i64)) (q := x15) (o := 1) (by kernel_rfl) (Up_addr_fault_at_ (⟨44, z_addr_fault.at_⟩ : addr_fault) x15) Filled.nil)) ?_
        refine OJ.newOf (d := 33) (op := (.box 61 (.tmp 32))) (cd := c_addr_fault) (u := (⟨44, x15⟩ : addr_fault)) (owed := []) (box_run (by kernel_rfl)) (fun b16 => ?_)
        refine OW.nil ?_
        refine OJ.go 2 [(3, .pointer (some (pt b16 0))), (2, .bool false)] ?_
        refine OJ.nil ?_
        exact SJ.ret rfl (Res.run (ys := [.bool false, .pointer (some (pt b16 0))]) (.tmp (by kernel_rfl) (.tmp (by kernel_rfl) .nil)) rfl)
      · refine SJ.skip ?_
        refine SJ.sr 9 ?_
        refine OJ.go 2 [(35, .pointer a0), (34, .pointer a0)] ?_
        refine OJ.nilck (d := 36) (y := .tmp 35) (fun p17 => ?_)
        refine OJ.go 1 [(37, .pointer (some (Addr.add p17 2)))] ?_
        refine OJ.ld (d := 38) (y := .tmp 37) (pend2 := fun x18 => []) Ty23 (fun _ => rfl) (fun x18 => ?_)
        refine OJ.go 1 [(39, .int .i64 (x18.len : Int))] ?_
        refine OJ.nilck (d := 40) (y := .tmp 34) (fun p19 => ?_)
        refine OJ.go 1 [(41, .pointer (some (Addr.add p19 3)))] ?_
        refine OJ.st (y := .tmp 41) (z := .tmp 39) (owed := []) Ty3 ?_
        refine OW.nil ?_
        refine OJ.nil ?_
        refine SJ.sr 8 ?_
        refine OJ.go 1 [(42, .pointer a0)] ?_
        refine OJ.nilck (d := 43) (y := .tmp 42) (fun p20 => ?_)
        refine OJ.go 1 [(44, .pointer (some (Addr.add p20 1)))] ?_
        refine OJ.ld (d := 45) (y := .tmp 44) (pend2 := fun x21 => []) Ty3 (fun _ => rfl) (fun x21 => ?_)
        refine OJ.go 1 [(46, .int .i64 (IntKind.wrap .i64 (x21 + 2)))] ?_
        refine OJ.nilck (d := 47) (y := .tmp 42) (fun p22 => ?_)
        refine OJ.go 1 [(48, .pointer (some (Addr.add p22 1)))] ?_
        refine OJ.st (y := .tmp 48) (z := .tmp 46) (owed := []) Ty3 ?_
        refine OW.nil ?_
        refine OJ.nil ?_
        refine SJ.sr 2 ?_
        refine OJ.go 2 [(3, .pointer none), (2, .bool true)] ?_
        refine OJ.nil ?_
        exact SJ.ret rfl (Res.run (ys := [.bool true, .pointer none]) (.tmp (by kernel_rfl) (.tmp (by kernel_rfl) .nil)) rfl)

/-! ### weir/addr.hexa: function 36 -/
noncomputable def addr_hexa.B : Code := (Tryd.f36.body).getD .skip
noncomputable def addr_hexa.cx : Fx := ⟨Tryd.prog, 36, Tryd.f36⟩
noncomputable def addr_hexa.out (r_ : Int) : Value := .int .i64 r_
noncomputable def addr_hexa.F0 (r_ : Int) : Reach := .ret (addr_hexa.out r_)
noncomputable def addr_hexa (a0 : Int) : M Int :=
  addr_digit a0 >>= fun r1 =>
  if r1 = true then
    pure (IntKind.wrap .i64 (IntKind.wrap .u8 (a0 - 48)))
  else
    (if a0 ≥ 97 then
        pure (decide (a0 ≤ 102))
      else
        pure false) >>= fun y8 =>
    if y8 = true then
      pure (IntKind.wrap .i64 ((IntKind.wrap .i64 (IntKind.wrap .u8 (a0 - 97))) + 10))
    else
      (if a0 ≥ 65 then
          pure (decide (a0 ≤ 70))
        else
          pure false) >>= fun y11 =>
      if y11 = true then
        pure (IntKind.wrap .i64 ((IntKind.wrap .i64 (IntKind.wrap .u8 (a0 - 65))) + 10))
      else
        pure (-1)
theorem addr_hexa_ok (a0 : Int) : Ref Tryd.prog 36 [.int .u8 a0] (addr_hexa a0) addr_hexa.out := by
  refine Ref.of (cd := addr_hexa.B) Tryd.func36 ?_
  show SJ addr_hexa.cx [.code addr_hexa.B] [(0, .int .u8 a0)] [] (addr_hexa a0) addr_hexa.F0
  unfold addr_hexa
  refine SJ.sr 1 ?_
  refine OJ.go 1 [(2, .int .i64 0)] ?_
  refine OJ.nil ?_
  refine SJ.seq ?_
  refine SJ.block (id := 0) ?_
  refine SJ.sr 3 ?_
  refine OJ.go 1 [(4, .int .u8 a0)] ?_
  refine OJ.call (d := 5) (g := 46) (ats := #[5]) (args := [.tmp 4]) (owed := []) F46 (addr_digit_ok a0) (fun r1 => ?_)
  refine OW.nil ?_
  refine OJ.go 1 [(3, .bool r1)] ?_
  refine OJ.nil ?_
  refine SJ.cond (t := (.tmp 3)) (b := r1) Iff.rfl (fun hc14 => ?_) (fun hc14 => ?_)
  · refine SJ.sr 4 ?_
    refine OJ.go 4 [(2, .int .i64 (IntKind.wrap .i64 (IntKind.wrap .u8 (a0 - 48)))), (8, .int .i64 (IntKind.wrap .i64 (IntKind.wrap .u8 (a0 - 48)))), (7, .int .u8 (IntKind.wrap .u8 (a0 - 48))), (6, .int .u8 a0)] ?_
    refine OJ.nil ?_
    exact SJ.ret rfl (Res.run (ys := [.int .i64 (IntKind.wrap .i64 (IntKind.wrap .u8 (a0 - 48)))]) (.tmp (by kernel_rfl) .nil) rfl)
  · refine SJ.sr 7 ?_
    refine OJ.go 3 [(12, .bool (decide (a0 ≥ 97))), (11, .bool (decide (a0 ≥ 97))), (10, .int .u8 a0)] ?_
    refine OJ.join (b := decide (a0 ≥ 97)) [3, 4, 5] [6] [0, 15] (fun y8 => [(0, .int .u8 a0), (15, .bool y8)]) [] [] (t := 12) decide_eq_true_iff (fun hp_ => ?_) (fun hp_ => ?_) (fun _ _ _ _ _ _ h_ => h_) (fun y8 => ?_)
    · refine OJ.go 3 [(15, .bool (decide (a0 ≤ 102))), (14, .bool (decide (a0 ≤ 102))), (13, .int .u8 a0)] ?_
      exact OJ.nil ⟨(Cov.mem Cov.nil), rfl, _, rfl, by kernel_rfl⟩
    · refine OJ.go 3 [(15, .bool false), (14, undef), (13, undef)] ?_
      exact OJ.nil ⟨(Cov.mem Cov.nil), rfl, _, rfl, by kernel_rfl⟩
    · refine OJ.go 1 [(9, .bool y8)] ?_
      refine OJ.nil ?_
      refine SJ.cond (t := (.tmp 9)) (b := y8) Iff.rfl (fun hc13 => ?_) (fun hc13 => ?_)
      · refine SJ.sr 5 ?_
        refine OJ.go 5 [(2, .int .i64 (IntKind.wrap .i64 ((IntKind.wrap .i64 (IntKind.wrap .u8 (a0 - 97))) + 10))), (19, .int .i64 (IntKind.wrap .i64 ((IntKind.wrap .i64 (IntKind.wrap .u8 (a0 - 97))) + 10))), (18, .int .i64 (IntKind.wrap .i64 (IntKind.wrap .u8 (a0 - 97)))), (17, .int .u8 (IntKind.wrap .u8 (a0 - 97))), (16, .int .u8 a0)] ?_
        refine OJ.nil ?_
        exact SJ.ret rfl (Res.run (ys := [.int .i64 (IntKind.wrap .i64 ((IntKind.wrap .i64 (IntKind.wrap .u8 (a0 - 97))) + 10))]) (.tmp (by kernel_rfl) .nil) rfl)
      · refine SJ.sr 7 ?_
        refine OJ.go 3 [(23, .bool (decide (a0 ≥ 65))), (22, .bool (decide (a0 ≥ 65))), (21, .int .u8 a0)] ?_
        refine OJ.join (b := decide (a0 ≥ 65)) [3, 4, 5] [6] [0, 26] (fun y11 => [(0, .int .u8 a0), (26, .bool y11)]) [] [] (t := 23) decide_eq_true_iff (fun hp_ => ?_) (fun hp_ => ?_) (fun _ _ _ _ _ _ h_ => h_) (fun y11 => ?_)
        · refine OJ.go 3 [(26, .bool (decide (a0 ≤ 70))), (25, .bool (decide (a0 ≤ 70))), (24, .int .u8 a0)] ?_
          exact OJ.nil ⟨(Cov.mem Cov.nil), rfl, _, rfl, by kernel_rfl⟩
        · refine OJ.go 3 [(26, .bool false), (25, undef), (24, undef)] ?_
          exact OJ.nil ⟨(Cov.mem Cov.nil), rfl, _, rfl, by kernel_rfl⟩
        · refine OJ.go 1 [(20, .bool y11)] ?_
          refine OJ.nil ?_
          refine SJ.cond (t := (.tmp 20)) (b := y11) Iff.rfl (fun hc12 => ?_) (fun hc12 => ?_)
          · refine SJ.sr 5 ?_
            refine OJ.go 5 [(2, .int .i64 (IntKind.wrap .i64 ((IntKind.wrap .i64 (IntKind.wrap .u8 (a0 - 65))) + 10))), (30, .int .i64 (IntKind.wrap .i64 ((IntKind.wrap .i64 (IntKind.wrap .u8 (a0 - 65))) + 10))), (29, .int .i64 (IntKind.wrap .i64 (IntKind.wrap .u8 (a0 - 65)))), (28, .int .u8 (IntKind.wrap .u8 (a0 - 65))), (27, .int .u8 a0)] ?_
            refine OJ.nil ?_
            exact SJ.ret rfl (Res.run (ys := [.int .i64 (IntKind.wrap .i64 ((IntKind.wrap .i64 (IntKind.wrap .u8 (a0 - 65))) + 10))]) (.tmp (by kernel_rfl) .nil) rfl)
          · refine SJ.skip ?_
            refine SJ.inBlock ?_
            refine SJ.sr 1 ?_
            refine OJ.go 1 [(2, .int .i64 (-1))] ?_
            refine OJ.nil ?_
            exact SJ.ret rfl (Res.run (ys := [.int .i64 (-1)]) (.tmp (by kernel_rfl) .nil) rfl)

/-! ### (*weir/addr.six).room: function 57 -/
noncomputable def addr_six_room.B : Code := (Tryd.f57.body).getD .skip
noncomputable def addr_six_room.cx : Fx := ⟨Tryd.prog, 57, Tryd.f57⟩
noncomputable def addr_six_room.out (r_ : Int) : Value := .int .i64 r_
noncomputable def addr_six_room.F0 (r_ : Int) : Reach := .ret (addr_six_room.out r_)
noncomputable def addr_six_room (a0 : (Option Addr)) : M Int :=
  nilck a0 >>= fun p1 =>
  ld (cI .i64) (Addr.add p1 3) >>= fun x2 =>
  if x2 ≥ 0 then
    nilck a0 >>= fun p5 =>
    ld cL (Addr.add p5 2) >>= fun x6 =>
    pure (IntKind.wrap .i64 (7 - (x6.len : Int)))
  else
    nilck a0 >>= fun p7 =>
    ld cL (Addr.add p7 2) >>= fun x8 =>
    pure (IntKind.wrap .i64 (8 - (x8.len : Int)))
theorem addr_six_room_ok (a0 : (Option Addr)) : Ref Tryd.prog 57 [.pointer a0] (addr_six_room a0) addr_six_room.out := by
  refine Ref.of (cd := addr_six_room.B) Tryd.func57 ?_
  show SJ addr_six_room.cx [.code addr_six_room.B] [(0, .pointer a0)] [] (addr_six_room a0) addr_six_room.F0
  unfold addr_six_room
  refine SJ.sr 1 ?_
  refine OJ.go 1 [(2, .int .i64 0)] ?_
  refine OJ.nil ?_
  refine SJ.seq ?_
  refine SJ.sr 5 ?_
  refine OJ.go 1 [(3, .pointer a0)] ?_
  refine OJ.nilck (d := 4) (y := .tmp 3) (fun p1 => ?_)
  refine OJ.go 1 [(5, .pointer (some (Addr.add p1 3)))] ?_
  refine OJ.ld (d := 6) (y := .tmp 5) (pend2 := fun x2 => []) Ty3 (fun _ => rfl) (fun x2 => ?_)
  refine OJ.go 1 [(7, .bool (decide (x2 ≥ 0)))] ?_
  refine OJ.nil ?_
  refine SJ.cond (t := (.tmp 7)) (b := decide (x2 ≥ 0)) decide_eq_true_iff (fun hc9 => ?_) (fun hc9 => ?_)
  · refine SJ.sr 7 ?_
    refine OJ.go 1 [(8, .pointer a0)] ?_
    refine OJ.nilck (d := 9) (y := .tmp 8) (fun p5 => ?_)
    refine OJ.go 1 [(10, .pointer (some (Addr.add p5 2)))] ?_
    refine OJ.ld (d := 11) (y := .tmp 10) (pend2 := fun x6 => []) Ty23 (fun _ => rfl) (fun x6 => ?_)
    refine OJ.go 3 [(2, .int .i64 (IntKind.wrap .i64 (7 - (x6.len : Int)))), (13, .int .i64 (IntKind.wrap .i64 (7 - (x6.len : Int)))), (12, .int .i64 (x6.len : Int))] ?_
    refine OJ.nil ?_
    exact SJ.ret rfl (Res.run (ys := [.int .i64 (IntKind.wrap .i64 (7 - (x6.len : Int)))]) (.tmp (by kernel_rfl) .nil) rfl)
  · refine SJ.skip ?_
    refine SJ.sr 7 ?_
    refine OJ.go 1 [(14, .pointer a0)] ?_
    refine OJ.nilck (d := 15) (y := .tmp 14) (fun p7 => ?_)
    refine OJ.go 1 [(16, .pointer (some (Addr.add p7 2)))] ?_
    refine OJ.ld (d := 17) (y := .tmp 16) (pend2 := fun x8 => []) Ty23 (fun _ => rfl) (fun x8 => ?_)
    refine OJ.go 3 [(2, .int .i64 (IntKind.wrap .i64 (8 - (x8.len : Int)))), (19, .int .i64 (IntKind.wrap .i64 (8 - (x8.len : Int)))), (18, .int .i64 (x8.len : Int))] ?_
    refine OJ.nil ?_
    exact SJ.ret rfl (Res.run (ys := [.int .i64 (IntKind.wrap .i64 (8 - (x8.len : Int)))]) (.tmp (by kernel_rfl) .nil) rfl)
end Go.Proofs.YtddmmgcfanpmmaaDoor.Lx
