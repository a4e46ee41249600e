/- Programs of the M-world for Go functions, each with the proof that the Go text does what it says. Printed by lxgen.py. -/
import Derived.Test.YtgddbpmfendaeaaLxT
set_option linter.unusedVariables false
set_option linter.unusedSimpArgs false
namespace Go.Proofs.Ytgddbpmfendaeaa.Lx
open Go Go.Proofs
/-! ### weir/weirlaw18.two: function 43 -/
noncomputable def weirlaw18_two.B : Code := (Try.f43.body).getD .skip
noncomputable def weirlaw18_two.cx : Fx := ⟨Try.prog, 43, Try.f43⟩
noncomputable def weirlaw18_two.out (r_ : Sl) : Value := Sl.v r_
noncomputable def weirlaw18_two.F0 (r_ : Sl) : Reach := .ret (weirlaw18_two.out r_)
noncomputable def weirlaw18_two  : M Sl :=
  newv 41 (c_api_Class.arr 2) (⟨[(⟨100, 3, 1000, z_api_Class.Rate, z_api_Class.Burst⟩ : api_Class), (⟨200, 9, 1000, 10, 65535⟩ : api_Class)], rfl⟩ : Vec api_Class 2) >>= fun b1 =>
  pure (⟨some (pt b1 0), 2, 2⟩ : Sl)
theorem weirlaw18_two_ok  : Ref Try.prog 43 [] (weirlaw18_two) weirlaw18_two.out := by
  refine Ref.of (cd := weirlaw18_two.B) Try.func43 (by kernel_rfl) (by kernel_rfl) ?_
  show SJ weirlaw18_two.cx [.code weirlaw18_two.B] [] [] (weirlaw18_two) weirlaw18_two.F0
  unfold weirlaw18_two
  refine SJ.seq (by kernel_rfl) ?_
  refine SJ.region (id := 0) (by kernel_rfl) [0] (by kernel_rfl) ?_
  refine OJ.run [0] [] [] (m2 := []) (by kernel_rfl) (by kernel_rfl) ?_
  refine OJ.nil ?_
  refine SJ.seq (by kernel_rfl) ?_
  refine SJ.region (id := 1) (by kernel_rfl) [0, 1, 2, 3] (by kernel_rfl) ?_
  refine OJ.build (d := 1) (T := 41) (parts := [(0, .const (.int .i64 100)), (1, .const (.int .i64 3)), (2, .const (.int .i64 1000))]) (ps := [(0, (cI .i64).val 100), (1, (cI .i64).val 3), (2, (cI .i64).val 1000)]) (cd := c_api_Class) (z0 := z_api_Class) (⟨100, 3, 1000, z_api_Class.Rate, z_api_Class.Burst⟩ : api_Class) (by kernel_rfl) (by kernel_rfl) Ty41 rfl (by kernel_rfl) (Filled.cons (cd := (cI .i64)) (q := 100) (o := 0) (by kernel_rfl) (Up_api_Class_Quantum z_api_Class 100) (Filled.cons (cd := (cI .i64)) (q := 3) (o := 1) (by kernel_rfl) (Up_api_Class_Items (⟨100, z_api_Class.Items, z_api_Class.Bytes, z_api_Class.Rate, z_api_Class.Burst⟩ : api_Class) 3) (Filled.cons (cd := (cI .i64)) (q := 1000) (o := 2) (by kernel_rfl) (Up_api_Class_Bytes (⟨100, 3, z_api_Class.Bytes, z_api_Class.Rate, z_api_Class.Burst⟩ : api_Class) 1000) Filled.nil))) (by kernel_rfl) (by kernel_rfl) (by kernel_rfl) ?_
  refine OJ.build (d := 2) (T := 41) (parts := [(0, .const (.int .i64 200)), (1, .const (.int .i64 9)), (2, .const (.int .i64 1000)), (3, .const (.int .i64 10)), (4, .const (.int .i64 65535))]) (ps := [(0, (cI .i64).val 200), (1, (cI .i64).val 9), (2, (cI .i64).val 1000), (3, (cI .i64).val 10), (4, (cI .i64).val 65535)]) (cd := c_api_Class) (z0 := z_api_Class) (⟨200, 9, 1000, 10, 65535⟩ : api_Class) (by kernel_rfl) (by kernel_rfl) Ty41 rfl (by kernel_rfl) (Filled.cons (cd := (cI .i64)) (q := 200) (o := 0) (by kernel_rfl) (Up_api_Class_Quantum z_api_Class 200) (Filled.cons (cd := (cI .i64)) (q := 9) (o := 1) (by kernel_rfl) (Up_api_Class_Items (⟨200, z_api_Class.Items, z_api_Class.Bytes, z_api_Class.Rate, z_api_Class.Burst⟩ : api_Class) 9) (Filled.cons (cd := (cI .i64)) (q := 1000) (o := 2) (by kernel_rfl) (Up_api_Class_Bytes (⟨200, 9, z_api_Class.Bytes, z_api_Class.Rate, z_api_Class.Burst⟩ : api_Class) 1000) (Filled.cons (cd := (cI .i64)) (q := 10) (o := 3) (by kernel_rfl) (Up_api_Class_Rate (⟨200, 9, 1000, z_api_Class.Rate, z_api_Class.Burst⟩ : api_Class) 10) (Filled.cons (cd := (cI .i64)) (q := 65535) (o := 4) (by kernel_rfl) (Up_api_Class_Burst (⟨200, 9, 1000, 10, z_api_Class.Burst⟩ : api_Class) 65535) Filled.nil))))) (by kernel_rfl) (by kernel_rfl) (by kernel_rfl) ?_
  refine OJ.rowNew (d := 3) (t := 27) (parts := [(0, .tmp 1), (1, .tmp 2)]) (ps := [(0, c_api_Class.val (⟨100, 3, 1000, z_api_Class.Rate, z_api_Class.Burst⟩ : api_Class)), (1, c_api_Class.val (⟨200, 9, 1000, 10, 65535⟩ : api_Class))]) (cd := c_api_Class) (owed := []) (by kernel_rfl) (by kernel_rfl) (by kernel_rfl) Ty41 (by kernel_rfl) (Filled.cons (cd := c_api_Class) (q := (⟨100, 3, 1000, z_api_Class.Rate, z_api_Class.Burst⟩ : api_Class)) (o := 0) rfl (Upd.arr (i := 0) (by decide) (by decide)) (Filled.cons (cd := c_api_Class) (q := (⟨200, 9, 1000, 10, 65535⟩ : api_Class)) (o := 5) rfl (Upd.arr (i := 1) (by decide) (by decide)) Filled.nil)) (by kernel_rfl) (by kernel_rfl) (by kernel_rfl) (fun b1 => ?_)
  refine OW.nil ?_
  refine OJ.run [3] [] [0] (m2 := [(0, Sl.v (⟨some (pt b1 0), 2, 2⟩ : Sl))]) (by kernel_rfl) (by kernel_rfl) ?_
  refine OJ.nil ?_
  exact SJ.ret (by kernel_rfl) rfl (Res.run (ys := [Sl.v (⟨some (pt b1 0), 2, 2⟩ : Sl)]) (.tmp (by kernel_rfl) .nil) rfl)

/-! ### weir/queue.outside: function 44 -/
noncomputable def queue_outside.B : Code := (Try.f44.body).getD .skip
noncomputable def queue_outside.cx : Fx := ⟨Try.prog, 44, Try.f44⟩
noncomputable def queue_outside.out (r_ : Bool) : Value := .bool r_
noncomputable def queue_outside.F0 (r_ : Bool) : Reach := .ret (queue_outside.out r_)
noncomputable def queue_outside (a0 : Int) (a1 : Int) (a2 : Int) : M Bool :=
  (if a0 < a1 then
      pure true
    else
      pure (decide (a0 > a2))) >>= fun y1 =>
  pure y1
theorem queue_outside_ok (a0 : Int) (a1 : Int) (a2 : Int) : Ref Try.prog 44 [.int .i64 a0, .int .i64 a1, .int .i64 a2] (queue_outside a0 a1 a2) queue_outside.out := by
  refine Ref.of (cd := queue_outside.B) Try.func44 (by kernel_rfl) (by kernel_rfl) ?_
  show SJ queue_outside.cx [.code queue_outside.B] [(0, .int .i64 a0), (1, .int .i64 a1), (2, .int .i64 a2)] [] (queue_outside a0 a1 a2) queue_outside.F0
  unfold queue_outside
  refine SJ.seq (by kernel_rfl) ?_
  refine SJ.region (id := 0) (by kernel_rfl) [0] (by kernel_rfl) ?_
  refine OJ.run [0] [] [0, 1, 2] (m2 := [(0, .int .i64 a0), (1, .int .i64 a1), (2, .int .i64 a2)]) (by kernel_rfl) (by kernel_rfl) ?_
  refine OJ.nil ?_
  refine SJ.seq (by kernel_rfl) ?_
  refine SJ.region (id := 1) (by kernel_rfl) [0, 1, 2, 3, 4, 5, 6, 7, 8] (by kernel_rfl) ?_
  refine OJ.run [0, 1, 2, 3] [4, 5, 6, 7, 8] [0, 2, 10] (m2 := [(0, .int .i64 a0), (2, .int .i64 a2), (10, .bool (decide (a0 < a1)))]) (by kernel_rfl) (by kernel_rfl) ?_
  refine OJ.join (b := decide (a0 < a1)) [4, 5, 6, 7] [8] [14] (fun y1 => [(14, .bool y1)]) [] [] (by kernel_rfl) (t := 10) (by kernel_rfl) decide_eq_true_iff (fun hp_ => ?_) (fun hp_ => ?_) (by kernel_rfl) (fun _ _ _ _ _ _ h_ => h_) (fun y1 => ?_)
  · refine OJ.run [4, 5, 6, 7] [] [14] (m2 := [(14, .bool true)]) (by kernel_rfl) (by kernel_rfl) ?_
    exact OJ.nil ⟨(Cov.mem Cov.nil), rfl, _, rfl, by kernel_rfl⟩
  · refine OJ.run [4, 5, 6, 7] [] [14] (m2 := [(14, .bool (decide (a0 > a2)))]) (by kernel_rfl) (by kernel_rfl) ?_
    exact OJ.nil ⟨(Cov.mem Cov.nil), rfl, _, rfl, by kernel_rfl⟩
  · refine OJ.run [8] [] [6] (m2 := [(6, .bool y1)]) (by kernel_rfl) (by kernel_rfl) ?_
    refine OJ.nil ?_
    exact SJ.ret (by kernel_rfl) rfl (Res.run (ys := [.bool y1]) (.tmp (by kernel_rfl) .nil) rfl)

/-! ### weir/queue.sound: function 50 -/
noncomputable def queue_sound.B : Code := (Try.f50.body).getD .skip
noncomputable def queue_sound.cx : Fx := ⟨Try.prog, 50, Try.f50⟩
noncomputable def queue_sound.out (r_ : Bool) : Value := .bool r_
noncomputable def queue_sound.F0 (r_ : Bool) : Reach := .ret (queue_sound.out r_)
noncomputable def queue_sound (a0 : api_Class) : M Bool :=
  slot 41 >>= fun b1 =>
  queue_outside a0.Quantum 64 65535 >>= fun r2 =>
  (if r2 = true then
      pure true
    else
      queue_outside a0.Items 1 4096 >>= fun r3 =>
      pure r3) >>= fun y4 =>
  (if y4 = true then
      pure true
    else
      queue_outside a0.Bytes 1 67108864 >>= fun r5 =>
      pure r5) >>= fun y6 =>
  (if y6 = true then
      pure true
    else
      queue_outside a0.Rate 0 67108864 >>= fun r7 =>
      pure r7) >>= fun y8 =>
  if y8 = true then
    pure false
  else
    (if a0.Rate = 0 then
        pure true
      else
        queue_outside a0.Burst 65535 268435456 >>= fun r9 =>
        pure (!r9)) >>= fun y10 =>
    pure y10
theorem queue_sound_ok (a0 : api_Class) : Ref Try.prog 50 [c_api_Class.val a0] (queue_sound a0) queue_sound.out := by
  refine Ref.of (cd := queue_sound.B) Try.func50 (by kernel_rfl) (by kernel_rfl) ?_
  show SJ queue_sound.cx [.code queue_sound.B] [(0, c_api_Class.val a0)] [] (queue_sound a0) queue_sound.F0
  unfold queue_sound
  refine SJ.seq (by kernel_rfl) ?_
  refine SJ.region (id := 0) (by kernel_rfl) [0, 1] (by kernel_rfl) ?_
  refine OJ.slotOf (d := 1) (op := (.box 41 (.tmp 0))) (cd := c_api_Class) (u := a0) (owed := []) (by kernel_rfl) (box_run (by kernel_rfl)) (by kernel_rfl) (by kernel_rfl) (by kernel_rfl) (fun b1 => ?_)
  refine OW.nil ?_
  refine OJ.run [1] [] [1] (m2 := [(1, .pointer (some (pt b1 0)))]) (by kernel_rfl) (by kernel_rfl) ?_
  refine OJ.nil ?_
  refine SJ.seq (by kernel_rfl) ?_
  refine SJ.seq (by kernel_rfl) ?_
  refine SJ.region (id := 1) (by kernel_rfl) [0, 1, 2, 3, 4, 5, 6, 7, 8, 9, 10, 11, 12, 13, 14, 15, 16, 17] (by kernel_rfl) ?_
  refine OJ.run [0] [1, 2, 3, 4, 5, 6, 7, 8, 9, 10, 11, 12, 13, 14, 15, 16, 17] [1, 3] (m2 := [(1, .pointer (some (pt b1 0))), (3, .pointer (some (pt b1 0)))]) (by kernel_rfl) (by kernel_rfl) ?_
  refine OJ.kld (d := 4) (T := 3) (y := .tmp 3) (cd := (cI .i64)) (j := 0) (b := b1) (o := 0) a0.Quantum (pend2 := []) (by kernel_rfl) (by kernel_rfl) Ty3 (by kernel_rfl) rfl (At_api_Class_Quantum a0) (by kernel_rfl) rfl ?_
  refine OJ.call (d := 5) (g := 44) (ats := #[3, 3, 3]) (args := [.tmp 4, .const (.int .i64 64), .const (.int .i64 65535)]) (vals := [.int .i64 a0.Quantum, .int .i64 64, .int .i64 65535]) (owed := []) (by kernel_rfl) F44 (by kernel_rfl) (queue_outside_ok a0.Quantum 64 65535) (by kernel_rfl) (by kernel_rfl) (by kernel_rfl) (fun r2 => ?_)
  refine OW.nil ?_
  refine OJ.run [3] [4, 5, 6, 7, 8, 9, 10, 11, 12, 13, 14, 15, 16, 17] [1, 6] (m2 := [(1, .pointer (some (pt b1 0))), (6, .bool r2)]) (by kernel_rfl) (by kernel_rfl) ?_
  refine OJ.join (b := r2) [4, 5, 6, 7] [8, 9, 10, 11, 12, 13, 14, 15, 16, 17] [1, 10] (fun y4 => [(1, .pointer (some (pt b1 0))), (10, .bool y4)]) [] [] (by kernel_rfl) (t := 6) (by kernel_rfl) Iff.rfl (fun hp_ => ?_) (fun hp_ => ?_) (by kernel_rfl) (fun _ _ _ _ _ _ h_ => h_) (fun y4 => ?_)
  · refine OJ.run [4, 5, 6, 7] [] [1, 10] (m2 := [(1, .pointer (some (pt b1 0))), (10, .bool true)]) (by kernel_rfl) (by kernel_rfl) ?_
    exact OJ.nil ⟨(Cov.mem Cov.nil), rfl, _, rfl, by kernel_rfl⟩
  · refine OJ.run [4] [5, 6, 7] [1, 6, 7] (m2 := [(1, .pointer (some (pt b1 0))), (6, .bool false), (7, .pointer (some (pt b1 1)))]) (by kernel_rfl) (by kernel_rfl) ?_
    refine OJ.kld (d := 8) (T := 3) (y := .tmp 7) (cd := (cI .i64)) (j := 0) (b := b1) (o := 1) a0.Items (pend2 := []) (by kernel_rfl) (by kernel_rfl) Ty3 (by kernel_rfl) rfl (At_api_Class_Items a0) (by kernel_rfl) rfl ?_
    refine OJ.call (d := 9) (g := 44) (ats := #[3, 3, 3]) (args := [.tmp 8, .const (.int .i64 1), .const (.int .i64 4096)]) (vals := [.int .i64 a0.Items, .int .i64 1, .int .i64 4096]) (owed := []) (by kernel_rfl) F44 (by kernel_rfl) (queue_outside_ok a0.Items 1 4096) (by kernel_rfl) (by kernel_rfl) (by kernel_rfl) (fun r3 => ?_)
    refine OW.nil ?_
    refine OJ.run [7] [] [1, 10] (m2 := [(1, .pointer (some (pt b1 0))), (10, .bool r3)]) (by kernel_rfl) (by kernel_rfl) ?_
    exact OJ.nil ⟨(Cov.mem Cov.nil), rfl, _, rfl, by kernel_rfl⟩
  · refine OJ.run [8] [9, 10, 11, 12, 13, 14, 15, 16, 17] [1, 11] (m2 := [(1, .pointer (some (pt b1 0))), (11, .bool y4)]) (by kernel_rfl) (by kernel_rfl) ?_
    refine OJ.join (b := y4) [9, 10, 11, 12] [13, 14, 15, 16, 17] [1, 15] (fun y6 => [(1, .pointer (some (pt b1 0))), (15, .bool y6)]) [] [] (by kernel_rfl) (t := 11) (by kernel_rfl) Iff.rfl (fun hp_ => ?_) (fun hp_ => ?_) (by kernel_rfl) (fun _ _ _ _ _ _ h_ => h_) (fun y6 => ?_)
    · refine OJ.run [9, 10, 11, 12] [] [1, 15] (m2 := [(1, .pointer (some (pt b1 0))), (15, .bool true)]) (by kernel_rfl) (by kernel_rfl) ?_
      exact OJ.nil ⟨(Cov.mem Cov.nil), rfl, _, rfl, by kernel_rfl⟩
    · refine OJ.run [9] [10, 11, 12] [1, 11, 12] (m2 := [(1, .pointer (some (pt b1 0))), (11, .bool false), (12, .pointer (some (pt b1 2)))]) (by kernel_rfl) (by kernel_rfl) ?_
      refine OJ.kld (d := 13) (T := 3) (y := .tmp 12) (cd := (cI .i64)) (j := 0) (b := b1) (o := 2) a0.Bytes (pend2 := []) (by kernel_rfl) (by kernel_rfl) Ty3 (by kernel_rfl) rfl (At_api_Class_Bytes a0) (by kernel_rfl) rfl ?_
      refine OJ.call (d := 14) (g := 44) (ats := #[3, 3, 3]) (args := [.tmp 13, .const (.int .i64 1), .const (.int .i64 67108864)]) (vals := [.int .i64 a0.Bytes, .int .i64 1, .int .i64 67108864]) (owed := []) (by kernel_rfl) F44 (by kernel_rfl) (queue_outside_ok a0.Bytes 1 67108864) (by kernel_rfl) (by kernel_rfl) (by kernel_rfl) (fun r5 => ?_)
      refine OW.nil ?_
      refine OJ.run [12] [] [1, 15] (m2 := [(1, .pointer (some (pt b1 0))), (15, .bool r5)]) (by kernel_rfl) (by kernel_rfl) ?_
      exact OJ.nil ⟨(Cov.mem Cov.nil), rfl, _, rfl, by kernel_rfl⟩
    · refine OJ.run [13] [14, 15, 16, 17] [1, 16] (m2 := [(1, .pointer (some (pt b1 0))), (16, .bool y6)]) (by kernel_rfl) (by kernel_rfl) ?_
      refine OJ.join (b := y6) [14, 15, 16, 17] [] [1, 20] (fun y8 => [(1, .pointer (some (pt b1 0))), (20, .bool y8)]) [] [] (by kernel_rfl) (t := 16) (by kernel_rfl) Iff.rfl (fun hp_ => ?_) (fun hp_ => ?_) (by kernel_rfl) (fun _ _ _ _ _ _ h_ => h_) (fun y8 => ?_)
      · refine OJ.run [14, 15, 16, 17] [] [1, 20] (m2 := [(1, .pointer (some (pt b1 0))), (20, .bool true)]) (by kernel_rfl) (by kernel_rfl) ?_
        exact OJ.nil ⟨(Cov.mem Cov.nil), rfl, _, rfl, by kernel_rfl⟩
      · refine OJ.run [14] [15, 16, 17] [1, 16, 17] (m2 := [(1, .pointer (some (pt b1 0))), (16, .bool false), (17, .pointer (some (pt b1 3)))]) (by kernel_rfl) (by kernel_rfl) ?_
        refine OJ.kld (d := 18) (T := 3) (y := .tmp 17) (cd := (cI .i64)) (j := 0) (b := b1) (o := 3) a0.Rate (pend2 := []) (by kernel_rfl) (by kernel_rfl) Ty3 (by kernel_rfl) rfl (At_api_Class_Rate a0) (by kernel_rfl) rfl ?_
        refine OJ.call (d := 19) (g := 44) (ats := #[3, 3, 3]) (args := [.tmp 18, .const (.int .i64 0), .const (.int .i64 67108864)]) (vals := [.int .i64 a0.Rate, .int .i64 0, .int .i64 67108864]) (owed := []) (by kernel_rfl) F44 (by kernel_rfl) (queue_outside_ok a0.Rate 0 67108864) (by kernel_rfl) (by kernel_rfl) (by kernel_rfl) (fun r7 => ?_)
        refine OW.nil ?_
        refine OJ.run [17] [] [1, 20] (m2 := [(1, .pointer (some (pt b1 0))), (20, .bool r7)]) (by kernel_rfl) (by kernel_rfl) ?_
        exact OJ.nil ⟨(Cov.mem Cov.nil), rfl, _, rfl, by kernel_rfl⟩
      · refine OJ.nil ?_
        refine SJ.cond (t := (.tmp 20)) (b := y8) (by kernel_rfl) (by kernel_rfl) Iff.rfl (fun hc11 => ?_) (fun hc11 => ?_)
        · refine SJ.seq (by kernel_rfl) ?_
          refine SJ.region (id := 2) (by kernel_rfl) [0] (by kernel_rfl) ?_
          refine OJ.run [0] [] [2] (m2 := [(2, .bool false)]) (by kernel_rfl) (by kernel_rfl) ?_
          refine OJ.nil ?_
          exact SJ.ret (by kernel_rfl) rfl (Res.run (ys := [.bool false]) (.tmp (by kernel_rfl) .nil) rfl)
        · refine SJ.skip (by kernel_rfl) ?_
          refine SJ.seq (by kernel_rfl) ?_
          refine SJ.region (id := 3) (by kernel_rfl) [0, 1, 2, 3, 4, 5, 6, 7, 8, 9] (by kernel_rfl) ?_
          refine OJ.run [0] [1, 2, 3, 4, 5, 6, 7, 8, 9] [1, 21] (m2 := [(1, .pointer (some (pt b1 0))), (21, .pointer (some (pt b1 3)))]) (by kernel_rfl) (by kernel_rfl) ?_
          refine OJ.kld (d := 22) (T := 3) (y := .tmp 21) (cd := (cI .i64)) (j := 0) (b := b1) (o := 3) a0.Rate (pend2 := []) (by kernel_rfl) (by kernel_rfl) Ty3 (by kernel_rfl) rfl (At_api_Class_Rate a0) (by kernel_rfl) rfl ?_
          refine OJ.run [2, 3] [4, 5, 6, 7, 8, 9] [1, 24] (m2 := [(1, .pointer (some (pt b1 0))), (24, .bool (a0.Rate == 0))]) (by kernel_rfl) (by kernel_rfl) ?_
          refine OJ.join (b := (a0.Rate == 0)) [4, 5, 6, 7, 8] [9] [29] (fun y10 => [(29, .bool y10)]) [] [] (by kernel_rfl) (t := 24) (by kernel_rfl) beq_iff_eq (fun hp_ => ?_) (fun hp_ => ?_) (by kernel_rfl) (fun _ _ _ _ _ _ h_ => h_) (fun y10 => ?_)
          · refine OJ.run [4, 5, 6, 7, 8] [] [29] (m2 := [(29, .bool true)]) (by kernel_rfl) (by kernel_rfl) ?_
            exact OJ.nil ⟨(Cov.mem Cov.nil), rfl, _, rfl, by kernel_rfl⟩
          · refine OJ.run [4] [5, 6, 7, 8] [24, 25] (m2 := [(24, .bool false), (25, .pointer (some (pt b1 4)))]) (by kernel_rfl) (by kernel_rfl) ?_
            refine OJ.kld (d := 26) (T := 3) (y := .tmp 25) (cd := (cI .i64)) (j := 0) (b := b1) (o := 4) a0.Burst (pend2 := []) (by kernel_rfl) (by kernel_rfl) Ty3 (by kernel_rfl) rfl (At_api_Class_Burst a0) (by kernel_rfl) rfl ?_
            refine OJ.call (d := 27) (g := 44) (ats := #[3, 3, 3]) (args := [.tmp 26, .const (.int .i64 65535), .const (.int .i64 268435456)]) (vals := [.int .i64 a0.Burst, .int .i64 65535, .int .i64 268435456]) (owed := []) (by kernel_rfl) F44 (by kernel_rfl) (queue_outside_ok a0.Burst 65535 268435456) (by kernel_rfl) (by kernel_rfl) (by kernel_rfl) (fun r9 => ?_)
            refine OW.nil ?_
            refine OJ.run [7, 8] [] [29] (m2 := [(29, .bool (!r9))]) (by kernel_rfl) (by kernel_rfl) ?_
            exact OJ.nil ⟨(Cov.mem Cov.nil), rfl, _, rfl, by kernel_rfl⟩
          · refine OJ.run [9] [] [2] (m2 := [(2, .bool y10)]) (by kernel_rfl) (by kernel_rfl) ?_
            refine OJ.nil ?_
            exact SJ.ret (by kernel_rfl) rfl (Res.run (ys := [.bool y10]) (.tmp (by kernel_rfl) .nil) rfl)

/-! ### weir/queue.New: function 38 -/
noncomputable def queue_New.B : Code := (Try.f38.body).getD .skip
noncomputable def queue_New.cx : Fx := ⟨Try.prog, 38, Try.f38⟩
noncomputable def queue_New.out (r_ : ((Option Addr) × Int)) : Value := .tuple #[.pointer r_.1, .int .i64 r_.2]
noncomputable def queue_New.F0 (r_ : ((Option Addr) × Int)) : Reach := .ret (queue_New.out r_)
noncomputable def queue_New.F1 (a0 : Sl) (b2 : Nat) : (LS Int ((Option Addr) × Int)) → Reach := loopF [.inLoop (c1 (c1 (c2 (c1 (c2 (c2 (c2 queue_New.B))))))), .inBlock 0, .code (c2 (c2 (c2 (c2 queue_New.B))))] (fun s_ : Int => [(4, .pointer (some (pt b2 0))), (17, Sl.v a0), (18, .int .i64 (a0.len : Int)), (19, .int .i64 s_)]) (fun s_ : Int => []) queue_New.F0
noncomputable def queue_New.L1 (a0 : Sl) (b2 : Nat) (s3 : Int) : M (LS Int ((Option Addr) × Int)) :=
  if s3 < (a0.len : Int) then
    idx a0.a a0.len s3 5 >>= fun p13 =>
    ld c_api_Class p13 >>= fun x14 =>
    slot 41 >>= fun b15 =>
    queue_sound x14 >>= fun r16 =>
    if ¬ (r16 = true) then
      pure (LS.done (none, 180))
    else
      draw >>= fun _ =>
      ld cL (pt b2 0) >>= fun x17 =>
      slot 104 >>= fun b18 =>
      same cL (pt b2 0) x17 >>= fun _ =>
      appl c_queue_class 104 96 z_queue_class x17 [(⟨x14, z_queue_class.line, z_queue_class.bytes, x14.Burst⟩ : queue_class)] >>= fun r19 =>
      st cL (pt b2 0) r19 >>= fun _ =>
      pure (LS.next (IntKind.wrap .i64 (s3 + 1)))
  else
    pure (LS.done ((some (pt b2 0)), 0))
theorem queue_New.L1_ok (a0 : Sl) (b2 : Nat) (s3 : Int) :
    SJ queue_New.cx [.code (c1 (c1 (c2 (c1 (c2 (c2 (c2 queue_New.B))))))), .inLoop (c1 (c1 (c2 (c1 (c2 (c2 (c2 queue_New.B))))))), .inBlock 0, .code (c2 (c2 (c2 (c2 queue_New.B))))] [(4, .pointer (some (pt b2 0))), (17, Sl.v a0), (18, .int .i64 (a0.len : Int)), (19, .int .i64 s3)] [] (queue_New.L1 a0 b2 s3) (queue_New.F1 a0 b2) := by
  unfold queue_New.L1
  refine SJ.seq (by kernel_rfl) ?_
  refine SJ.region (id := 5) (by kernel_rfl) [0] (by kernel_rfl) ?_
  refine OJ.run [0] [] [4, 17, 18, 19, 20] (m2 := [(4, .pointer (some (pt b2 0))), (17, Sl.v a0), (18, .int .i64 (a0.len : Int)), (19, .int .i64 s3), (20, .bool (decide (s3 < (a0.len : Int))))]) (by kernel_rfl) (by kernel_rfl) ?_
  refine OJ.nil ?_
  refine SJ.seq (by kernel_rfl) ?_
  refine SJ.cond (t := (.tmp 20)) (b := decide (s3 < (a0.len : Int))) (by kernel_rfl) (by kernel_rfl) decide_eq_true_iff (fun hc21 => ?_) (fun hc21 => ?_)
  · refine SJ.skip (by kernel_rfl) ?_
    refine SJ.seq (by kernel_rfl) ?_
    refine SJ.block (id := 1) (by kernel_rfl) ?_
    refine SJ.seq (by kernel_rfl) ?_
    refine SJ.region (id := 6) (by kernel_rfl) [0, 1, 2, 3] (by kernel_rfl) ?_
    refine OJ.idxS (d := 21) (T := 27) (y := .tmp 17) (j := .tmp 19) (E := 41) (cap := a0.cap) (k := .i64) (by kernel_rfl) (by kernel_rfl) (by kernel_rfl) (by kernel_rfl) (by kernel_rfl) (by kernel_rfl) (by kernel_rfl) (by kernel_rfl) (fun p13 => ?_)
    refine OJ.ld (d := 22) (T := 41) (y := .tmp 21) (pend2 := fun x14 => []) (by kernel_rfl) (by kernel_rfl) Ty41 (by kernel_rfl) (by kernel_rfl) (fun _ => rfl) (fun x14 => ?_)
    refine OJ.slotOf (d := 6) (op := (.alloc 41)) (cd := c_api_Class) (u := z_api_Class) (owed := []) (by kernel_rfl) (alloc_run Ty41) (by kernel_rfl) (by kernel_rfl) (by kernel_rfl) (fun b15 => ?_)
    refine OW.nil ?_
    refine OJ.kst (T := 41) (y := .tmp 6) (z := .tmp 22) (cd := c_api_Class) (u := x14) (j := 0) (b := b15) (o := 0) (c_api_Class.enc x14) (h2 := [(b15, c_api_Class.enc x14)]) (owed := []) (by kernel_rfl) (by kernel_rfl) (by kernel_rfl) Ty41 rfl (Upd.whole ((Cod.len _ _).trans (Cod.len _ _).symm)) (by kernel_rfl) (by kernel_rfl) rfl ?_
    refine OW.nil ?_
    refine OJ.nil ?_
    refine SJ.seq (by kernel_rfl) ?_
    refine SJ.seq (by kernel_rfl) ?_
    refine SJ.region (id := 7) (by kernel_rfl) [0, 1, 2] (by kernel_rfl) ?_
    refine OJ.kld (d := 23) (T := 41) (y := .tmp 6) (cd := c_api_Class) (j := 0) (b := b15) (o := 0) x14 (pend2 := []) (by kernel_rfl) (by kernel_rfl) Ty41 (by kernel_rfl) rfl (At.whole _) (by kernel_rfl) rfl ?_
    refine OJ.call (d := 24) (g := 50) (ats := #[41]) (args := [.tmp 23]) (vals := [c_api_Class.val x14]) (owed := []) (by kernel_rfl) F50 (by kernel_rfl) (queue_sound_ok x14) (by kernel_rfl) (by kernel_rfl) (by kernel_rfl) (fun r16 => ?_)
    refine OW.nil ?_
    refine OJ.run [2] [] [4, 17, 18, 19, 6, 25] (m2 := [(4, .pointer (some (pt b2 0))), (17, Sl.v a0), (18, .int .i64 (a0.len : Int)), (19, .int .i64 s3), (6, .pointer (some (pt b15 0))), (25, .bool (!r16))]) (by kernel_rfl) (by kernel_rfl) ?_
    refine OJ.nil ?_
    refine SJ.cond (t := (.tmp 25)) (b := (!r16)) (by kernel_rfl) (by kernel_rfl) (bnot_iff Iff.rfl) (fun hc20 => ?_) (fun hc20 => ?_)
    · refine SJ.seq (by kernel_rfl) ?_
      refine SJ.region (id := 8) (by kernel_rfl) [0, 1] (by kernel_rfl) ?_
      refine OJ.run [0, 1] [] [2, 3] (m2 := [(2, .pointer none), (3, .int .i64 180)]) (by kernel_rfl) (by kernel_rfl) ?_
      refine OJ.nil ?_
      exact SJ.ret (by kernel_rfl) rfl (Res.run (ys := [.pointer none, .int .i64 180]) (.tmp (by kernel_rfl) (.tmp (by kernel_rfl) .nil)) rfl)
    · refine SJ.skip (by kernel_rfl) ?_
      refine SJ.draw (id := 9) (kd := [0, 0, 0, 0, 1, 1, 0, 1, 0, 2, 2, 0, 0, 2]) (bef := [0, 0, 2, 6, 14, 0, 0, 64, 224, 480, 1022, 2047, 4095, 8191]) (ord := [0, 1, 2, 3, 4, 5, 6, 7, 8, 9, 10, 11, 12, 13]) (by kernel_rfl) mixed (by kernel_rfl) ?_
      refine OJ.run [0, 1, 2, 3] [4, 5, 6, 7, 8, 9, 10, 11, 12, 13] [4, 17, 18, 19, 6, 26, 29] (m2 := [(4, .pointer (some (pt b2 0))), (17, Sl.v a0), (18, .int .i64 (a0.len : Int)), (19, .int .i64 s3), (6, .pointer (some (pt b15 0))), (26, .pointer (some (pt b2 0))), (29, .pointer (some (pt b2 0)))]) (by kernel_rfl) (by kernel_rfl) ?_
      refine OJ.ld (d := 30) (T := 92) (y := .tmp 29) (pend2 := fun x17 => [⟨4, 92, (pt b2 0), cL.val x17⟩]) (by kernel_rfl) (by kernel_rfl) Ty92 (by kernel_rfl) (by kernel_rfl) (fun _ => rfl) (fun x17 => ?_)
      refine OJ.kld (d := 31) (T := 41) (y := .tmp 6) (cd := c_api_Class) (j := 0) (b := b15) (o := 0) x14 (pend2 := [⟨5, 41, (pt b15 0), c_api_Class.val x14⟩, ⟨4, 92, (pt b2 0), cL.val x17⟩]) (by kernel_rfl) (by kernel_rfl) Ty41 (by kernel_rfl) rfl (At.whole _) (by kernel_rfl) rfl ?_
      refine OJ.run [6] [7, 8, 9, 10, 11, 12, 13] [4, 17, 18, 19, 26, 30, 31, 32] (m2 := [(4, .pointer (some (pt b2 0))), (17, Sl.v a0), (18, .int .i64 (a0.len : Int)), (19, .int .i64 s3), (26, .pointer (some (pt b2 0))), (30, Sl.v x17), (31, c_api_Class.val x14), (32, .pointer (some (pt b15 4)))]) (by kernel_rfl) (by kernel_rfl) ?_
      refine OJ.kld (d := 33) (T := 3) (y := .tmp 32) (cd := (cI .i64)) (j := 0) (b := b15) (o := 4) x14.Burst (pend2 := [⟨7, 3, (pt b15 4), (cI .i64).val x14.Burst⟩, ⟨5, 41, (pt b15 0), c_api_Class.val x14⟩, ⟨4, 92, (pt b2 0), cL.val x17⟩]) (by kernel_rfl) (by kernel_rfl) Ty3 (by kernel_rfl) rfl (At_api_Class_Burst x14) (by kernel_rfl) rfl ?_
      refine OJ.build (d := 34) (T := 104) (parts := [(0, .tmp 31), (3, .tmp 33)]) (ps := [(0, c_api_Class.val x14), (3, (cI .i64).val x14.Burst)]) (cd := c_queue_class) (z0 := z_queue_class) (⟨x14, z_queue_class.line, z_queue_class.bytes, x14.Burst⟩ : queue_class) (by kernel_rfl) (by kernel_rfl) Ty104 rfl (by kernel_rfl) (Filled.cons (cd := c_api_Class) (q := x14) (o := 0) (by kernel_rfl) (Up_queue_class_c z_queue_class x14) (Filled.cons (cd := (cI .i64)) (q := x14.Burst) (o := 9) (by kernel_rfl) (Up_queue_class_tokens (⟨x14, z_queue_class.line, z_queue_class.bytes, z_queue_class.tokens⟩ : queue_class) x14.Burst) Filled.nil)) (by kernel_rfl) (by kernel_rfl) (by kernel_rfl) ?_
      refine OJ.rowSlot (d := 35) (t := 92) (parts := [(0, .tmp 34)]) (ps := [(0, c_queue_class.val (⟨x14, z_queue_class.line, z_queue_class.bytes, x14.Burst⟩ : queue_class))]) (cd := c_queue_class) (⟨[(⟨x14, z_queue_class.line, z_queue_class.bytes, x14.Burst⟩ : queue_class)], rfl⟩ : Vec queue_class 1) (owed := [⟨4, 92, (pt b2 0), cL.val x17⟩]) (by kernel_rfl) (by kernel_rfl) (by kernel_rfl) Ty104 (by kernel_rfl) (Filled.cons (cd := c_queue_class) (q := (⟨x14, z_queue_class.line, z_queue_class.bytes, x14.Burst⟩ : queue_class)) (o := 0) rfl (Upd.arr (i := 0) (by decide) (by decide)) Filled.nil) (by kernel_rfl) (by kernel_rfl) (by kernel_rfl) (fun b18 => ?_)
      refine OW.same Ty92 ?_
      refine OW.nil ?_
      refine OJ.appl (d := 36) (t := 92) (u := 92) (so := .tmp 30) (xo := .tmp 35) (j := 0) (b := b18) (l := (c_queue_class.arr 1).enc (⟨[(⟨x14, z_queue_class.line, z_queue_class.bytes, x14.Burst⟩ : queue_class)], rfl⟩ : Vec queue_class 1)) (n := 1) (k := 1) [(⟨x14, z_queue_class.line, z_queue_class.bytes, x14.Burst⟩ : queue_class)] (owed := []) (by kernel_rfl) (by kernel_rfl) (by kernel_rfl) Ty104 (by kernel_rfl) (by kernel_rfl) (by kernel_rfl) (by rfl) (Cod.arr_enc _ _ _) (by rfl) (by kernel_rfl) (by kernel_rfl) (by kernel_rfl) (fun r19 => ?_)
      refine OW.nil ?_
      refine OJ.run [11, 12] [13] [4, 17, 18, 19, 36, 38] (m2 := [(4, .pointer (some (pt b2 0))), (17, Sl.v a0), (18, .int .i64 (a0.len : Int)), (19, .int .i64 s3), (36, Sl.v r19), (38, .pointer (some (pt b2 0)))]) (by kernel_rfl) (by kernel_rfl) ?_
      refine OJ.st (T := 92) (y := .tmp 38) (z := .tmp 36) (owed := []) (by kernel_rfl) (by kernel_rfl) (by kernel_rfl) Ty92 (by kernel_rfl) (by kernel_rfl) ?_
      refine OW.nil ?_
      refine OJ.nil ?_
      refine SJ.inBlock ?_
      refine SJ.region (id := 10) (by kernel_rfl) [0, 1] (by kernel_rfl) ?_
      refine OJ.run [0, 1] [] [4, 17, 18, 19] (m2 := [(4, .pointer (some (pt b2 0))), (17, Sl.v a0), (18, .int .i64 (a0.len : Int)), (19, .int .i64 (IntKind.wrap .i64 (s3 + 1)))]) (by kernel_rfl) (by kernel_rfl) ?_
      refine OJ.nil ?_
      refine SJ.forget (List.Sublist.cons _ (List.Sublist.cons _ List.Sublist.slnil)) ?_
      exact SJ.at_ [4, 17, 18, 19] rfl (by kernel_rfl)
  · refine SJ.exit (id := 0) (by kernel_rfl) (by rfl) ?_
    refine SJ.seq (by kernel_rfl) ?_
    refine SJ.region (id := 11) (by kernel_rfl) [0, 1, 2] (by kernel_rfl) ?_
    refine OJ.run [0, 1, 2] [] [2, 3] (m2 := [(2, .pointer (some (pt b2 0))), (3, .int .i64 0)]) (by kernel_rfl) (by kernel_rfl) ?_
    refine OJ.nil ?_
    exact SJ.ret (by kernel_rfl) rfl (Res.run (ys := [.pointer (some (pt b2 0)), .int .i64 0]) (.tmp (by kernel_rfl) (.tmp (by kernel_rfl) .nil)) rfl)
noncomputable def queue_New (a0 : Sl) : M ((Option Addr) × Int) :=
  (if (a0.len : Int) = 0 then
      pure true
    else
      pure (decide ((a0.len : Int) > 8))) >>= fun y1 =>
  if y1 = true then
    pure (none, 180)
  else
    newv 97 c_queue_Queue z_queue_Queue >>= fun b2 =>
    loopM (fun s_ : Int => queue_New.L1 a0 b2 s_) 0
theorem queue_New_ok (a0 : Sl) : Ref Try.prog 38 [Sl.v a0] (queue_New a0) queue_New.out := by
  refine Ref.of (cd := queue_New.B) Try.func38 (by kernel_rfl) (by kernel_rfl) ?_
  show SJ queue_New.cx [.code queue_New.B] [(0, Sl.v a0)] [] (queue_New a0) queue_New.F0
  unfold queue_New
  refine SJ.seq (by kernel_rfl) ?_
  refine SJ.region (id := 0) (by kernel_rfl) [0, 1] (by kernel_rfl) ?_
  refine OJ.run [0, 1] [] [0] (m2 := [(0, Sl.v a0)]) (by kernel_rfl) (by kernel_rfl) ?_
  refine OJ.nil ?_
  refine SJ.seq (by kernel_rfl) ?_
  refine SJ.seq (by kernel_rfl) ?_
  refine SJ.region (id := 1) (by kernel_rfl) [0, 1, 2, 3, 4, 5, 6, 7] (by kernel_rfl) ?_
  refine OJ.run [0, 1, 2, 3] [4, 5, 6, 7] [0, 10] (m2 := [(0, Sl.v a0), (10, .bool ((a0.len : Int) == 0))]) (by kernel_rfl) (by kernel_rfl) ?_
  refine OJ.join (b := ((a0.len : Int) == 0)) [4, 5, 6, 7] [] [0, 14] (fun y1 => [(0, Sl.v a0), (14, .bool y1)]) [] [] (by kernel_rfl) (t := 10) (by kernel_rfl) beq_iff_eq (fun hp_ => ?_) (fun hp_ => ?_) (by kernel_rfl) (fun _ _ _ _ _ _ h_ => h_) (fun y1 => ?_)
  · refine OJ.run [4, 5, 6, 7] [] [0, 14] (m2 := [(0, Sl.v a0), (14, .bool true)]) (by kernel_rfl) (by kernel_rfl) ?_
    exact OJ.nil ⟨(Cov.mem Cov.nil), rfl, _, rfl, by kernel_rfl⟩
  · refine OJ.run [4, 5, 6, 7] [] [0, 14] (m2 := [(0, Sl.v a0), (14, .bool (decide ((a0.len : Int) > 8)))]) (by kernel_rfl) (by kernel_rfl) ?_
    exact OJ.nil ⟨(Cov.mem Cov.nil), rfl, _, rfl, by kernel_rfl⟩
  · refine OJ.nil ?_
    refine SJ.cond (t := (.tmp 14)) (b := y1) (by kernel_rfl) (by kernel_rfl) Iff.rfl (fun hc22 => ?_) (fun hc22 => ?_)
    · refine SJ.seq (by kernel_rfl) ?_
      refine SJ.region (id := 2) (by kernel_rfl) [0, 1] (by kernel_rfl) ?_
      refine OJ.run [0, 1] [] [2, 3] (m2 := [(2, .pointer none), (3, .int .i64 180)]) (by kernel_rfl) (by kernel_rfl) ?_
      refine OJ.nil ?_
      exact SJ.ret (by kernel_rfl) rfl (Res.run (ys := [.pointer none, .int .i64 180]) (.tmp (by kernel_rfl) (.tmp (by kernel_rfl) .nil)) rfl)
    · refine SJ.skip (by kernel_rfl) ?_
      refine SJ.seq (by kernel_rfl) ?_
      refine SJ.region (id := 3) (by kernel_rfl) [0, 1, 2] (by kernel_rfl) ?_
      refine OJ.build (d := 15) (T := 97) (parts := []) (ps := []) (cd := c_queue_Queue) (z0 := z_queue_Queue) z_queue_Queue (by kernel_rfl) (by kernel_rfl) Ty97 rfl (by kernel_rfl) Filled.nil (by kernel_rfl) (by kernel_rfl) (by kernel_rfl) ?_
      refine OJ.newOf (d := 16) (op := (.box 97 (.tmp 15))) (cd := c_queue_Queue) (u := z_queue_Queue) (owed := []) (by kernel_rfl) (box_run (by kernel_rfl)) (by kernel_rfl) (by kernel_rfl) (by kernel_rfl) (fun b2 => ?_)
      refine OW.nil ?_
      refine OJ.run [2] [] [0, 4] (m2 := [(0, Sl.v a0), (4, .pointer (some (pt b2 0)))]) (by kernel_rfl) (by kernel_rfl) ?_
      refine OJ.nil ?_
      refine SJ.seq (by kernel_rfl) ?_
      refine SJ.seq (by kernel_rfl) ?_
      refine SJ.region (id := 4) (by kernel_rfl) [0, 1, 2] (by kernel_rfl) ?_
      refine OJ.run [0, 1, 2] [] [4, 17, 18, 19] (m2 := [(4, .pointer (some (pt b2 0))), (17, Sl.v a0), (18, .int .i64 (a0.len : Int)), (19, .int .i64 0)]) (by kernel_rfl) (by kernel_rfl) ?_
      refine OJ.nil ?_
      refine SJ.block (id := 0) (by kernel_rfl) ?_
      exact SJ.loop (fun s_ : Int => [(4, .pointer (some (pt b2 0))), (17, Sl.v a0), (18, .int .i64 (a0.len : Int)), (19, .int .i64 s_)]) (fun s_ : Int => []) [4, 17, 18, 19] (by kernel_rfl) (by kernel_rfl) rfl (fun _ _ => rfl) (fun s_ => queue_New.L1_ok a0 b2 s_)

/-! ### weir/weirref18.out: function 51 -/
noncomputable def weirref18_out.B : Code := (Try.f51.body).getD .skip
noncomputable def weirref18_out.cx : Fx := ⟨Try.prog, 51, Try.f51⟩
noncomputable def weirref18_out.out (r_ : Bool) : Value := .bool r_
noncomputable def weirref18_out.F0 (r_ : Bool) : Reach := .ret (weirref18_out.out r_)
noncomputable def weirref18_out (a0 : Int) (a1 : Int) (a2 : Int) : M Bool :=
  (if a0 < a1 then
      pure true
    else
      pure (decide (a0 > a2))) >>= fun y1 =>
  pure y1
theorem weirref18_out_ok (a0 : Int) (a1 : Int) (a2 : Int) : Ref Try.prog 51 [.int .i64 a0, .int .i64 a1, .int .i64 a2] (weirref18_out a0 a1 a2) weirref18_out.out := by
  refine Ref.of (cd := weirref18_out.B) Try.func51 (by kernel_rfl) (by kernel_rfl) ?_
  show SJ weirref18_out.cx [.code weirref18_out.B] [(0, .int .i64 a0), (1, .int .i64 a1), (2, .int .i64 a2)] [] (weirref18_out a0 a1 a2) weirref18_out.F0
  unfold weirref18_out
  refine SJ.seq (by kernel_rfl) ?_
  refine SJ.region (id := 0) (by kernel_rfl) [0] (by kernel_rfl) ?_
  refine OJ.run [0] [] [0, 1, 2] (m2 := [(0, .int .i64 a0), (1, .int .i64 a1), (2, .int .i64 a2)]) (by kernel_rfl) (by kernel_rfl) ?_
  refine OJ.nil ?_
  refine SJ.seq (by kernel_rfl) ?_
  refine SJ.region (id := 1) (by kernel_rfl) [0, 1, 2, 3, 4, 5, 6, 7, 8] (by kernel_rfl) ?_
  refine OJ.run [0, 1, 2, 3] [4, 5, 6, 7, 8] [0, 2, 10] (m2 := [(0, .int .i64 a0), (2, .int .i64 a2), (10, .bool (decide (a0 < a1)))]) (by kernel_rfl) (by kernel_rfl) ?_
  refine OJ.join (b := decide (a0 < a1)) [4, 5, 6, 7] [8] [14] (fun y1 => [(14, .bool y1)]) [] [] (by kernel_rfl) (t := 10) (by kernel_rfl) decide_eq_true_iff (fun hp_ => ?_) (fun hp_ => ?_) (by kernel_rfl) (fun _ _ _ _ _ _ h_ => h_) (fun y1 => ?_)
  · refine OJ.run [4, 5, 6, 7] [] [14] (m2 := [(14, .bool true)]) (by kernel_rfl) (by kernel_rfl) ?_
    exact OJ.nil ⟨(Cov.mem Cov.nil), rfl, _, rfl, by kernel_rfl⟩
  · refine OJ.run [4, 5, 6, 7] [] [14] (m2 := [(14, .bool (decide (a0 > a2)))]) (by kernel_rfl) (by kernel_rfl) ?_
    exact OJ.nil ⟨(Cov.mem Cov.nil), rfl, _, rfl, by kernel_rfl⟩
  · refine OJ.run [8] [] [6] (m2 := [(6, .bool y1)]) (by kernel_rfl) (by kernel_rfl) ?_
    refine OJ.nil ?_
    exact SJ.ret (by kernel_rfl) rfl (Res.run (ys := [.bool y1]) (.tmp (by kernel_rfl) .nil) rfl)

/-! ### weir/weirref18.New: function 41 -/
noncomputable def weirref18_New.B : Code := (Try.f41.body).getD .skip
noncomputable def weirref18_New.cx : Fx := ⟨Try.prog, 41, Try.f41⟩
noncomputable def weirref18_New.out (r_ : (weirref18_Queue × Int)) : Value := .tuple #[c_weirref18_Queue.val r_.1, .int .i64 r_.2]
noncomputable def weirref18_New.F0 (r_ : (weirref18_Queue × Int)) : Reach := .ret (weirref18_New.out r_)
noncomputable def weirref18_New.F1 (a0 : Sl) (b1 : Nat) (b3 : Nat) : (LS (Int × weirref18_Queue × weirref18_Queue) (weirref18_Queue × Int)) → Reach := loopF [.inLoop (c1 (c1 (c2 (c1 (c2 (c2 (c2 weirref18_New.B))))))), .inBlock 0, .code (c2 (c2 (c2 (c2 weirref18_New.B))))] (fun s_ : (Int × weirref18_Queue × weirref18_Queue) => [(0, Sl.v a0), (2, .pointer (some (pt b1 0))), (4, .pointer (some (pt b3 0))), (5, .int .i64 s_.1)]) (fun s_ : (Int × weirref18_Queue × weirref18_Queue) => [(b3, c_weirref18_Queue.enc s_.2.1), (b1, c_weirref18_Queue.enc s_.2.2)]) weirref18_New.F0
noncomputable def weirref18_New.L1 (a0 : Sl) (s4 : Int) (s5 : weirref18_Queue) (s6 : weirref18_Queue) : M (LS (Int × weirref18_Queue × weirref18_Queue) (weirref18_Queue × Int)) :=
  if s4 < (a0.len : Int) then
    idx a0.a a0.len s4 5 >>= fun p24 =>
    ld c_api_Class p24 >>= fun x25 =>
    slot 41 >>= fun b26 =>
    weirref18_out x25.Quantum 64 65535 >>= fun r27 =>
    (if r27 = true then
        pure true
      else
        weirref18_out x25.Items 1 4096 >>= fun r28 =>
        pure r28) >>= fun y29 =>
    (if y29 = true then
        pure true
      else
        weirref18_out x25.Bytes 1 67108864 >>= fun r30 =>
        pure r30) >>= fun y31 =>
    (if y31 = true then
        pure true
      else
        weirref18_out x25.Rate 0 67108864 >>= fun r32 =>
        pure r32) >>= fun y33 =>
    (if y33 = true then
        pure true
      else
        (if x25.Rate > 0 then
            weirref18_out x25.Burst 65535 268435456 >>= fun r34 =>
            pure r34
          else
            pure false) >>= fun y35 =>
        pure y35) >>= fun y36 =>
    if y36 = true then
      pure (LS.done (z_weirref18_Queue, 180))
    else
      slot 116 >>= fun b37 =>
      appl c_weirref18_Line 116 80 z_weirref18_Line s5.L [(⟨x25, z_weirref18_Line.L, z_weirref18_Line.Deficit, x25.Burst⟩ : weirref18_Line)] >>= fun r38 =>
      pure (LS.next (IntKind.wrap .i64 (s4 + 1), (⟨r38, s5.At, s5.Given⟩ : weirref18_Queue), s6))
  else
    pure (LS.done (s5, 0))
theorem weirref18_New.L1_ok (a0 : Sl) (b1 : Nat) (b3 : Nat) (s4 : Int) (s5 : weirref18_Queue) (s6 : weirref18_Queue) :
    SJ weirref18_New.cx [.code (c1 (c1 (c2 (c1 (c2 (c2 (c2 weirref18_New.B))))))), .inLoop (c1 (c1 (c2 (c1 (c2 (c2 (c2 weirref18_New.B))))))), .inBlock 0, .code (c2 (c2 (c2 (c2 weirref18_New.B))))] [(0, Sl.v a0), (2, .pointer (some (pt b1 0))), (4, .pointer (some (pt b3 0))), (5, .int .i64 s4)] [(b3, c_weirref18_Queue.enc s5), (b1, c_weirref18_Queue.enc s6)] (weirref18_New.L1 a0 s4 s5 s6) (weirref18_New.F1 a0 b1 b3) := by
  unfold weirref18_New.L1
  refine SJ.seq (by kernel_rfl) ?_
  refine SJ.seq (by kernel_rfl) ?_
  refine SJ.region (id := 5) (by kernel_rfl) [0, 1, 2, 3] (by kernel_rfl) ?_
  refine OJ.run [0, 1, 2, 3] [] [0, 2, 4, 5, 15] (m2 := [(0, Sl.v a0), (2, .pointer (some (pt b1 0))), (4, .pointer (some (pt b3 0))), (5, .int .i64 s4), (15, .bool (decide (s4 < (a0.len : Int))))]) (by kernel_rfl) (by kernel_rfl) ?_
  refine OJ.nil ?_
  refine SJ.cond (t := (.tmp 15)) (b := decide (s4 < (a0.len : Int))) (by kernel_rfl) (by kernel_rfl) decide_eq_true_iff (fun hc40 => ?_) (fun hc40 => ?_)
  · refine SJ.skip (by kernel_rfl) ?_
    refine SJ.seq (by kernel_rfl) ?_
    refine SJ.block (id := 1) (by kernel_rfl) ?_
    refine SJ.seq (by kernel_rfl) ?_
    refine SJ.region (id := 7) (by kernel_rfl) [0, 1, 2, 3, 4, 5] (by kernel_rfl) ?_
    refine OJ.run [0, 1] [2, 3, 4, 5] [0, 2, 4, 5, 18, 19] (m2 := [(0, Sl.v a0), (2, .pointer (some (pt b1 0))), (4, .pointer (some (pt b3 0))), (5, .int .i64 s4), (18, Sl.v a0), (19, .int .i64 s4)]) (by kernel_rfl) (by kernel_rfl) ?_
    refine OJ.idxS (d := 20) (T := 27) (y := .tmp 18) (j := .tmp 19) (E := 41) (cap := a0.cap) (k := .i64) (by kernel_rfl) (by kernel_rfl) (by kernel_rfl) (by kernel_rfl) (by kernel_rfl) (by kernel_rfl) (by kernel_rfl) (by kernel_rfl) (fun p24 => ?_)
    refine OJ.ld (d := 21) (T := 41) (y := .tmp 20) (pend2 := fun x25 => []) (by kernel_rfl) (by kernel_rfl) Ty41 (by kernel_rfl) (by kernel_rfl) (fun _ => rfl) (fun x25 => ?_)
    refine OJ.slotOf (d := 6) (op := (.alloc 41)) (cd := c_api_Class) (u := z_api_Class) (owed := []) (by kernel_rfl) (alloc_run Ty41) (by kernel_rfl) (by kernel_rfl) (by kernel_rfl) (fun b26 => ?_)
    refine OW.nil ?_
    refine OJ.kst (T := 41) (y := .tmp 6) (z := .tmp 21) (cd := c_api_Class) (u := x25) (j := 0) (b := b26) (o := 0) (c_api_Class.enc x25) (h2 := [(b26, c_api_Class.enc x25), (b3, c_weirref18_Queue.enc s5), (b1, c_weirref18_Queue.enc s6)]) (owed := []) (by kernel_rfl) (by kernel_rfl) (by kernel_rfl) Ty41 rfl (Upd.whole ((Cod.len _ _).trans (Cod.len _ _).symm)) (by kernel_rfl) (by kernel_rfl) rfl ?_
    refine OW.nil ?_
    refine OJ.nil ?_
    refine SJ.seq (by kernel_rfl) ?_
    refine SJ.seq (by kernel_rfl) ?_
    refine SJ.region (id := 8) (by kernel_rfl) [0, 1, 2, 3, 4, 5, 6, 7, 8, 9, 10, 11, 12, 13, 14, 15, 16, 17, 18, 19, 20, 21, 22, 23, 24, 25, 26, 27] (by kernel_rfl) ?_
    refine OJ.run [0] [1, 2, 3, 4, 5, 6, 7, 8, 9, 10, 11, 12, 13, 14, 15, 16, 17, 18, 19, 20, 21, 22, 23, 24, 25, 26, 27] [0, 2, 4, 5, 6, 22] (m2 := [(0, Sl.v a0), (2, .pointer (some (pt b1 0))), (4, .pointer (some (pt b3 0))), (5, .int .i64 s4), (6, .pointer (some (pt b26 0))), (22, .pointer (some (pt b26 0)))]) (by kernel_rfl) (by kernel_rfl) ?_
    refine OJ.kld (d := 23) (T := 3) (y := .tmp 22) (cd := (cI .i64)) (j := 0) (b := b26) (o := 0) x25.Quantum (pend2 := []) (by kernel_rfl) (by kernel_rfl) Ty3 (by kernel_rfl) rfl (At_api_Class_Quantum x25) (by kernel_rfl) rfl ?_
    refine OJ.call (d := 24) (g := 51) (ats := #[3, 3, 3]) (args := [.tmp 23, .const (.int .i64 64), .const (.int .i64 65535)]) (vals := [.int .i64 x25.Quantum, .int .i64 64, .int .i64 65535]) (owed := []) (by kernel_rfl) F51 (by kernel_rfl) (weirref18_out_ok x25.Quantum 64 65535) (by kernel_rfl) (by kernel_rfl) (by kernel_rfl) (fun r27 => ?_)
    refine OW.nil ?_
    refine OJ.run [3] [4, 5, 6, 7, 8, 9, 10, 11, 12, 13, 14, 15, 16, 17, 18, 19, 20, 21, 22, 23, 24, 25, 26, 27] [0, 2, 4, 5, 6, 25] (m2 := [(0, Sl.v a0), (2, .pointer (some (pt b1 0))), (4, .pointer (some (pt b3 0))), (5, .int .i64 s4), (6, .pointer (some (pt b26 0))), (25, .bool r27)]) (by kernel_rfl) (by kernel_rfl) ?_
    refine OJ.join (b := r27) [4, 5, 6, 7] [8, 9, 10, 11, 12, 13, 14, 15, 16, 17, 18, 19, 20, 21, 22, 23, 24, 25, 26, 27] [0, 2, 4, 5, 6, 29] (fun y29 => [(0, Sl.v a0), (2, .pointer (some (pt b1 0))), (4, .pointer (some (pt b3 0))), (5, .int .i64 s4), (6, .pointer (some (pt b26 0))), (29, .bool y29)]) [] [] (by kernel_rfl) (t := 25) (by kernel_rfl) Iff.rfl (fun hp_ => ?_) (fun hp_ => ?_) (by kernel_rfl) (fun _ _ _ _ _ _ h_ => h_) (fun y29 => ?_)
    · refine OJ.run [4, 5, 6, 7] [] [0, 2, 4, 5, 6, 29] (m2 := [(0, Sl.v a0), (2, .pointer (some (pt b1 0))), (4, .pointer (some (pt b3 0))), (5, .int .i64 s4), (6, .pointer (some (pt b26 0))), (29, .bool true)]) (by kernel_rfl) (by kernel_rfl) ?_
      exact OJ.nil ⟨(Cov.mem Cov.nil), rfl, _, rfl, by kernel_rfl⟩
    · refine OJ.run [4] [5, 6, 7] [0, 2, 4, 5, 6, 25, 26] (m2 := [(0, Sl.v a0), (2, .pointer (some (pt b1 0))), (4, .pointer (some (pt b3 0))), (5, .int .i64 s4), (6, .pointer (some (pt b26 0))), (25, .bool false), (26, .pointer (some (pt b26 1)))]) (by kernel_rfl) (by kernel_rfl) ?_
      refine OJ.kld (d := 27) (T := 3) (y := .tmp 26) (cd := (cI .i64)) (j := 0) (b := b26) (o := 1) x25.Items (pend2 := []) (by kernel_rfl) (by kernel_rfl) Ty3 (by kernel_rfl) rfl (At_api_Class_Items x25) (by kernel_rfl) rfl ?_
      refine OJ.call (d := 28) (g := 51) (ats := #[3, 3, 3]) (args := [.tmp 27, .const (.int .i64 1), .const (.int .i64 4096)]) (vals := [.int .i64 x25.Items, .int .i64 1, .int .i64 4096]) (owed := []) (by kernel_rfl) F51 (by kernel_rfl) (weirref18_out_ok x25.Items 1 4096) (by kernel_rfl) (by kernel_rfl) (by kernel_rfl) (fun r28 => ?_)
      refine OW.nil ?_
      refine OJ.run [7] [] [0, 2, 4, 5, 6, 29] (m2 := [(0, Sl.v a0), (2, .pointer (some (pt b1 0))), (4, .pointer (some (pt b3 0))), (5, .int .i64 s4), (6, .pointer (some (pt b26 0))), (29, .bool r28)]) (by kernel_rfl) (by kernel_rfl) ?_
      exact OJ.nil ⟨(Cov.mem Cov.nil), rfl, _, rfl, by kernel_rfl⟩
    · refine OJ.run [8] [9, 10, 11, 12, 13, 14, 15, 16, 17, 18, 19, 20, 21, 22, 23, 24, 25, 26, 27] [0, 2, 4, 5, 6, 30] (m2 := [(0, Sl.v a0), (2, .pointer (some (pt b1 0))), (4, .pointer (some (pt b3 0))), (5, .int .i64 s4), (6, .pointer (some (pt b26 0))), (30, .bool y29)]) (by kernel_rfl) (by kernel_rfl) ?_
      refine OJ.join (b := y29) [9, 10, 11, 12] [13, 14, 15, 16, 17, 18, 19, 20, 21, 22, 23, 24, 25, 26, 27] [0, 2, 4, 5, 6, 34] (fun y31 => [(0, Sl.v a0), (2, .pointer (some (pt b1 0))), (4, .pointer (some (pt b3 0))), (5, .int .i64 s4), (6, .pointer (some (pt b26 0))), (34, .bool y31)]) [] [] (by kernel_rfl) (t := 30) (by kernel_rfl) Iff.rfl (fun hp_ => ?_) (fun hp_ => ?_) (by kernel_rfl) (fun _ _ _ _ _ _ h_ => h_) (fun y31 => ?_)
      · refine OJ.run [9, 10, 11, 12] [] [0, 2, 4, 5, 6, 34] (m2 := [(0, Sl.v a0), (2, .pointer (some (pt b1 0))), (4, .pointer (some (pt b3 0))), (5, .int .i64 s4), (6, .pointer (some (pt b26 0))), (34, .bool true)]) (by kernel_rfl) (by kernel_rfl) ?_
        exact OJ.nil ⟨(Cov.mem Cov.nil), rfl, _, rfl, by kernel_rfl⟩
      · refine OJ.run [9] [10, 11, 12] [0, 2, 4, 5, 6, 30, 31] (m2 := [(0, Sl.v a0), (2, .pointer (some (pt b1 0))), (4, .pointer (some (pt b3 0))), (5, .int .i64 s4), (6, .pointer (some (pt b26 0))), (30, .bool false), (31, .pointer (some (pt b26 2)))]) (by kernel_rfl) (by kernel_rfl) ?_
        refine OJ.kld (d := 32) (T := 3) (y := .tmp 31) (cd := (cI .i64)) (j := 0) (b := b26) (o := 2) x25.Bytes (pend2 := []) (by kernel_rfl) (by kernel_rfl) Ty3 (by kernel_rfl) rfl (At_api_Class_Bytes x25) (by kernel_rfl) rfl ?_
        refine OJ.call (d := 33) (g := 51) (ats := #[3, 3, 3]) (args := [.tmp 32, .const (.int .i64 1), .const (.int .i64 67108864)]) (vals := [.int .i64 x25.Bytes, .int .i64 1, .int .i64 67108864]) (owed := []) (by kernel_rfl) F51 (by kernel_rfl) (weirref18_out_ok x25.Bytes 1 67108864) (by kernel_rfl) (by kernel_rfl) (by kernel_rfl) (fun r30 => ?_)
        refine OW.nil ?_
        refine OJ.run [12] [] [0, 2, 4, 5, 6, 34] (m2 := [(0, Sl.v a0), (2, .pointer (some (pt b1 0))), (4, .pointer (some (pt b3 0))), (5, .int .i64 s4), (6, .pointer (some (pt b26 0))), (34, .bool r30)]) (by kernel_rfl) (by kernel_rfl) ?_
        exact OJ.nil ⟨(Cov.mem Cov.nil), rfl, _, rfl, by kernel_rfl⟩
      · refine OJ.run [13] [14, 15, 16, 17, 18, 19, 20, 21, 22, 23, 24, 25, 26, 27] [0, 2, 4, 5, 6, 35] (m2 := [(0, Sl.v a0), (2, .pointer (some (pt b1 0))), (4, .pointer (some (pt b3 0))), (5, .int .i64 s4), (6, .pointer (some (pt b26 0))), (35, .bool y31)]) (by kernel_rfl) (by kernel_rfl) ?_
        refine OJ.join (b := y31) [14, 15, 16, 17] [18, 19, 20, 21, 22, 23, 24, 25, 26, 27] [0, 2, 4, 5, 6, 39] (fun y33 => [(0, Sl.v a0), (2, .pointer (some (pt b1 0))), (4, .pointer (some (pt b3 0))), (5, .int .i64 s4), (6, .pointer (some (pt b26 0))), (39, .bool y33)]) [] [] (by kernel_rfl) (t := 35) (by kernel_rfl) Iff.rfl (fun hp_ => ?_) (fun hp_ => ?_) (by kernel_rfl) (fun _ _ _ _ _ _ h_ => h_) (fun y33 => ?_)
        · refine OJ.run [14, 15, 16, 17] [] [0, 2, 4, 5, 6, 39] (m2 := [(0, Sl.v a0), (2, .pointer (some (pt b1 0))), (4, .pointer (some (pt b3 0))), (5, .int .i64 s4), (6, .pointer (some (pt b26 0))), (39, .bool true)]) (by kernel_rfl) (by kernel_rfl) ?_
          exact OJ.nil ⟨(Cov.mem Cov.nil), rfl, _, rfl, by kernel_rfl⟩
        · refine OJ.run [14] [15, 16, 17] [0, 2, 4, 5, 6, 35, 36] (m2 := [(0, Sl.v a0), (2, .pointer (some (pt b1 0))), (4, .pointer (some (pt b3 0))), (5, .int .i64 s4), (6, .pointer (some (pt b26 0))), (35, .bool false), (36, .pointer (some (pt b26 3)))]) (by kernel_rfl) (by kernel_rfl) ?_
          refine OJ.kld (d := 37) (T := 3) (y := .tmp 36) (cd := (cI .i64)) (j := 0) (b := b26) (o := 3) x25.Rate (pend2 := []) (by kernel_rfl) (by kernel_rfl) Ty3 (by kernel_rfl) rfl (At_api_Class_Rate x25) (by kernel_rfl) rfl ?_
          refine OJ.call (d := 38) (g := 51) (ats := #[3, 3, 3]) (args := [.tmp 37, .const (.int .i64 0), .const (.int .i64 67108864)]) (vals := [.int .i64 x25.Rate, .int .i64 0, .int .i64 67108864]) (owed := []) (by kernel_rfl) F51 (by kernel_rfl) (weirref18_out_ok x25.Rate 0 67108864) (by kernel_rfl) (by kernel_rfl) (by kernel_rfl) (fun r32 => ?_)
          refine OW.nil ?_
          refine OJ.run [17] [] [0, 2, 4, 5, 6, 39] (m2 := [(0, Sl.v a0), (2, .pointer (some (pt b1 0))), (4, .pointer (some (pt b3 0))), (5, .int .i64 s4), (6, .pointer (some (pt b26 0))), (39, .bool r32)]) (by kernel_rfl) (by kernel_rfl) ?_
          exact OJ.nil ⟨(Cov.mem Cov.nil), rfl, _, rfl, by kernel_rfl⟩
        · refine OJ.run [18] [19, 20, 21, 22, 23, 24, 25, 26, 27] [0, 2, 4, 5, 6, 40] (m2 := [(0, Sl.v a0), (2, .pointer (some (pt b1 0))), (4, .pointer (some (pt b3 0))), (5, .int .i64 s4), (6, .pointer (some (pt b26 0))), (40, .bool y33)]) (by kernel_rfl) (by kernel_rfl) ?_
          refine OJ.join (b := y33) [19, 20, 21, 22, 23, 24, 25, 26, 27] [] [0, 2, 4, 5, 6, 49] (fun y36 => [(0, Sl.v a0), (2, .pointer (some (pt b1 0))), (4, .pointer (some (pt b3 0))), (5, .int .i64 s4), (6, .pointer (some (pt b26 0))), (49, .bool y36)]) [] [] (by kernel_rfl) (t := 40) (by kernel_rfl) Iff.rfl (fun hp_ => ?_) (fun hp_ => ?_) (by kernel_rfl) (fun _ _ _ _ _ _ h_ => h_) (fun y36 => ?_)
          · refine OJ.run [19, 20, 21, 22, 23, 24, 25, 26, 27] [] [0, 2, 4, 5, 6, 49] (m2 := [(0, Sl.v a0), (2, .pointer (some (pt b1 0))), (4, .pointer (some (pt b3 0))), (5, .int .i64 s4), (6, .pointer (some (pt b26 0))), (49, .bool true)]) (by kernel_rfl) (by kernel_rfl) ?_
            exact OJ.nil ⟨(Cov.mem Cov.nil), rfl, _, rfl, by kernel_rfl⟩
          · refine OJ.run [19] [20, 21, 22, 23, 24, 25, 26, 27] [0, 2, 4, 5, 6, 40, 41] (m2 := [(0, Sl.v a0), (2, .pointer (some (pt b1 0))), (4, .pointer (some (pt b3 0))), (5, .int .i64 s4), (6, .pointer (some (pt b26 0))), (40, .bool false), (41, .pointer (some (pt b26 3)))]) (by kernel_rfl) (by kernel_rfl) ?_
            refine OJ.kld (d := 42) (T := 3) (y := .tmp 41) (cd := (cI .i64)) (j := 0) (b := b26) (o := 3) x25.Rate (pend2 := []) (by kernel_rfl) (by kernel_rfl) Ty3 (by kernel_rfl) rfl (At_api_Class_Rate x25) (by kernel_rfl) rfl ?_
            refine OJ.run [21, 22] [23, 24, 25, 26, 27] [0, 2, 4, 5, 6, 40, 44] (m2 := [(0, Sl.v a0), (2, .pointer (some (pt b1 0))), (4, .pointer (some (pt b3 0))), (5, .int .i64 s4), (6, .pointer (some (pt b26 0))), (40, .bool false), (44, .bool (decide (x25.Rate > 0)))]) (by kernel_rfl) (by kernel_rfl) ?_
            refine OJ.join (b := decide (x25.Rate > 0)) [23, 24, 25, 26] [27] [0, 2, 4, 5, 6, 40, 48] (fun y35 => [(0, Sl.v a0), (2, .pointer (some (pt b1 0))), (4, .pointer (some (pt b3 0))), (5, .int .i64 s4), (6, .pointer (some (pt b26 0))), (40, .bool false), (48, .bool y35)]) [] [] (by kernel_rfl) (t := 44) (by kernel_rfl) decide_eq_true_iff (fun hp_ => ?_) (fun hp_ => ?_) (by kernel_rfl) (fun _ _ _ _ _ hq_ h_ => ⟨fun e_ he_ => (hq_ e_ he_).elim (fun h => h_.1 e_ h) (fun h => nomatch h), h_.2⟩) (fun y35 => ?_)
            · refine OJ.run [23] [24, 25, 26] [0, 2, 4, 5, 6, 40, 44, 45] (m2 := [(0, Sl.v a0), (2, .pointer (some (pt b1 0))), (4, .pointer (some (pt b3 0))), (5, .int .i64 s4), (6, .pointer (some (pt b26 0))), (40, .bool false), (44, .bool true), (45, .pointer (some (pt b26 4)))]) (by kernel_rfl) (by kernel_rfl) ?_
              refine OJ.kld (d := 46) (T := 3) (y := .tmp 45) (cd := (cI .i64)) (j := 0) (b := b26) (o := 4) x25.Burst (pend2 := []) (by kernel_rfl) (by kernel_rfl) Ty3 (by kernel_rfl) rfl (At_api_Class_Burst x25) (by kernel_rfl) rfl ?_
              refine OJ.call (d := 47) (g := 51) (ats := #[3, 3, 3]) (args := [.tmp 46, .const (.int .i64 65535), .const (.int .i64 268435456)]) (vals := [.int .i64 x25.Burst, .int .i64 65535, .int .i64 268435456]) (owed := []) (by kernel_rfl) F51 (by kernel_rfl) (weirref18_out_ok x25.Burst 65535 268435456) (by kernel_rfl) (by kernel_rfl) (by kernel_rfl) (fun r34 => ?_)
              refine OW.nil ?_
              refine OJ.run [26] [] [0, 2, 4, 5, 6, 40, 48] (m2 := [(0, Sl.v a0), (2, .pointer (some (pt b1 0))), (4, .pointer (some (pt b3 0))), (5, .int .i64 s4), (6, .pointer (some (pt b26 0))), (40, .bool false), (48, .bool r34)]) (by kernel_rfl) (by kernel_rfl) ?_
              exact OJ.nil ⟨(Cov.mem Cov.nil), rfl, _, rfl, by kernel_rfl⟩
            · refine OJ.run [23, 24, 25, 26] [] [0, 2, 4, 5, 6, 40, 48] (m2 := [(0, Sl.v a0), (2, .pointer (some (pt b1 0))), (4, .pointer (some (pt b3 0))), (5, .int .i64 s4), (6, .pointer (some (pt b26 0))), (40, .bool false), (48, .bool false)]) (by kernel_rfl) (by kernel_rfl) ?_
              exact OJ.nil ⟨(Cov.mem Cov.nil), rfl, _, rfl, by kernel_rfl⟩
            · refine OJ.run [27] [] [0, 2, 4, 5, 6, 49] (m2 := [(0, Sl.v a0), (2, .pointer (some (pt b1 0))), (4, .pointer (some (pt b3 0))), (5, .int .i64 s4), (6, .pointer (some (pt b26 0))), (49, .bool y35)]) (by kernel_rfl) (by kernel_rfl) ?_
              exact OJ.nil ⟨(Cov.mem Cov.nil), rfl, _, rfl, by kernel_rfl⟩
          · refine OJ.nil ?_
            refine SJ.cond (t := (.tmp 49)) (b := y36) (by kernel_rfl) (by kernel_rfl) Iff.rfl (fun hc39 => ?_) (fun hc39 => ?_)
            · refine SJ.seq (by kernel_rfl) ?_
              refine SJ.region (id := 9) (by kernel_rfl) [0, 1, 2] (by kernel_rfl) ?_
              refine OJ.build (d := 50) (T := 71) (parts := []) (ps := []) (cd := c_weirref18_Queue) (z0 := z_weirref18_Queue) z_weirref18_Queue (by kernel_rfl) (by kernel_rfl) Ty71 rfl (by kernel_rfl) Filled.nil (by kernel_rfl) (by kernel_rfl) (by kernel_rfl) ?_
              refine OJ.kst (T := 71) (y := .tmp 2) (z := .tmp 50) (cd := c_weirref18_Queue) (u := z_weirref18_Queue) (j := 2) (b := b1) (o := 0) (c_weirref18_Queue.enc z_weirref18_Queue) (h2 := [(b26, c_api_Class.enc x25), (b3, c_weirref18_Queue.enc s5), (b1, c_weirref18_Queue.enc z_weirref18_Queue)]) (owed := []) (by kernel_rfl) (by kernel_rfl) (by kernel_rfl) Ty71 rfl (Upd.whole ((Cod.len _ _).trans (Cod.len _ _).symm)) (by kernel_rfl) (by kernel_rfl) rfl ?_
              refine OW.nil ?_
              refine OJ.run [2] [] [2, 3] (m2 := [(2, .pointer (some (pt b1 0))), (3, .int .i64 180)]) (by kernel_rfl) (by kernel_rfl) ?_
              refine OJ.nil ?_
              exact SJ.ret (by kernel_rfl) rfl (Res.run (ys := [c_weirref18_Queue.val z_weirref18_Queue, .int .i64 180]) (.cell (j := 2) (b := b1) (cd := c_weirref18_Queue) (q := z_weirref18_Queue) (by kernel_rfl) rfl Ty71 (At.whole _) (.tmp (by kernel_rfl) .nil)) rfl)
            · refine SJ.skip (by kernel_rfl) ?_
              refine SJ.region (id := 10) (by kernel_rfl) [0, 1, 2, 3, 4, 5, 6, 7, 8, 9] (by kernel_rfl) ?_
              refine OJ.run [0] [1, 2, 3, 4, 5, 6, 7, 8, 9] [0, 2, 4, 5, 6, 51] (m2 := [(0, Sl.v a0), (2, .pointer (some (pt b1 0))), (4, .pointer (some (pt b3 0))), (5, .int .i64 s4), (6, .pointer (some (pt b26 0))), (51, .pointer (some (pt b3 0)))]) (by kernel_rfl) (by kernel_rfl) ?_
              refine OJ.kld (d := 52) (T := 69) (y := .tmp 51) (cd := cL) (j := 1) (b := b3) (o := 0) s5.L (pend2 := []) (by kernel_rfl) (by kernel_rfl) Ty69 (by kernel_rfl) rfl (At_weirref18_Queue_L s5) (by kernel_rfl) rfl ?_
              refine OJ.kld (d := 53) (T := 41) (y := .tmp 6) (cd := c_api_Class) (j := 0) (b := b26) (o := 0) x25 (pend2 := []) (by kernel_rfl) (by kernel_rfl) Ty41 (by kernel_rfl) rfl (At.whole _) (by kernel_rfl) rfl ?_
              refine OJ.run [3] [4, 5, 6, 7, 8, 9] [0, 2, 4, 5, 52, 53, 54] (m2 := [(0, Sl.v a0), (2, .pointer (some (pt b1 0))), (4, .pointer (some (pt b3 0))), (5, .int .i64 s4), (52, Sl.v s5.L), (53, c_api_Class.val x25), (54, .pointer (some (pt b26 4)))]) (by kernel_rfl) (by kernel_rfl) ?_
              refine OJ.kld (d := 55) (T := 3) (y := .tmp 54) (cd := (cI .i64)) (j := 0) (b := b26) (o := 4) x25.Burst (pend2 := []) (by kernel_rfl) (by kernel_rfl) Ty3 (by kernel_rfl) rfl (At_api_Class_Burst x25) (by kernel_rfl) rfl ?_
              refine OJ.build (d := 56) (T := 116) (parts := [(0, .tmp 53), (3, .tmp 55)]) (ps := [(0, c_api_Class.val x25), (3, (cI .i64).val x25.Burst)]) (cd := c_weirref18_Line) (z0 := z_weirref18_Line) (⟨x25, z_weirref18_Line.L, z_weirref18_Line.Deficit, x25.Burst⟩ : weirref18_Line) (by kernel_rfl) (by kernel_rfl) Ty116 rfl (by kernel_rfl) (Filled.cons (cd := c_api_Class) (q := x25) (o := 0) (by kernel_rfl) (Up_weirref18_Line_C z_weirref18_Line x25) (Filled.cons (cd := (cI .i64)) (q := x25.Burst) (o := 7) (by kernel_rfl) (Up_weirref18_Line_Tokens (⟨x25, z_weirref18_Line.L, z_weirref18_Line.Deficit, z_weirref18_Line.Tokens⟩ : weirref18_Line) x25.Burst) Filled.nil)) (by kernel_rfl) (by kernel_rfl) (by kernel_rfl) ?_
              refine OJ.rowSlot (d := 57) (t := 69) (parts := [(0, .tmp 56)]) (ps := [(0, c_weirref18_Line.val (⟨x25, z_weirref18_Line.L, z_weirref18_Line.Deficit, x25.Burst⟩ : weirref18_Line))]) (cd := c_weirref18_Line) (⟨[(⟨x25, z_weirref18_Line.L, z_weirref18_Line.Deficit, x25.Burst⟩ : weirref18_Line)], rfl⟩ : Vec weirref18_Line 1) (owed := []) (by kernel_rfl) (by kernel_rfl) (by kernel_rfl) Ty116 (by kernel_rfl) (Filled.cons (cd := c_weirref18_Line) (q := (⟨x25, z_weirref18_Line.L, z_weirref18_Line.Deficit, x25.Burst⟩ : weirref18_Line)) (o := 0) rfl (Upd.arr (i := 0) (by decide) (by decide)) Filled.nil) (by kernel_rfl) (by kernel_rfl) (by kernel_rfl) (fun b37 => ?_)
              refine OW.nil ?_
              refine OJ.appl (d := 58) (t := 69) (u := 69) (so := .tmp 52) (xo := .tmp 57) (j := 0) (b := b37) (l := (c_weirref18_Line.arr 1).enc (⟨[(⟨x25, z_weirref18_Line.L, z_weirref18_Line.Deficit, x25.Burst⟩ : weirref18_Line)], rfl⟩ : Vec weirref18_Line 1)) (n := 1) (k := 1) [(⟨x25, z_weirref18_Line.L, z_weirref18_Line.Deficit, x25.Burst⟩ : weirref18_Line)] (owed := []) (by kernel_rfl) (by kernel_rfl) (by kernel_rfl) Ty116 (by kernel_rfl) (by kernel_rfl) (by kernel_rfl) (by rfl) (Cod.arr_enc _ _ _) (by rfl) (by kernel_rfl) (by kernel_rfl) (by kernel_rfl) (fun r38 => ?_)
              refine OW.nil ?_
              refine OJ.run [8] [9] [0, 2, 4, 5, 58, 59] (m2 := [(0, Sl.v a0), (2, .pointer (some (pt b1 0))), (4, .pointer (some (pt b3 0))), (5, .int .i64 s4), (58, Sl.v r38), (59, .pointer (some (pt b3 0)))]) (by kernel_rfl) (by kernel_rfl) ?_
              refine OJ.kst (T := 69) (y := .tmp 59) (z := .tmp 58) (cd := cL) (u := r38) (j := 2) (b := b3) (o := 0) (c_weirref18_Queue.enc (⟨r38, s5.At, s5.Given⟩ : weirref18_Queue)) (h2 := [(b37, (c_weirref18_Line.arr 1).enc (⟨[(⟨x25, z_weirref18_Line.L, z_weirref18_Line.Deficit, x25.Burst⟩ : weirref18_Line)], rfl⟩ : Vec weirref18_Line 1)), (b26, c_api_Class.enc x25), (b3, c_weirref18_Queue.enc (⟨r38, s5.At, s5.Given⟩ : weirref18_Queue)), (b1, c_weirref18_Queue.enc s6)]) (owed := []) (by kernel_rfl) (by kernel_rfl) (by kernel_rfl) Ty69 rfl (Up_weirref18_Queue_L s5 r38) (by kernel_rfl) (by kernel_rfl) rfl ?_
              refine OW.nil ?_
              refine OJ.nil ?_
              refine SJ.inBlock ?_
              refine SJ.region (id := 6) (by kernel_rfl) [0, 1, 2] (by kernel_rfl) ?_
              refine OJ.run [0, 1, 2] [] [0, 2, 4, 5] (m2 := [(0, Sl.v a0), (2, .pointer (some (pt b1 0))), (4, .pointer (some (pt b3 0))), (5, .int .i64 (IntKind.wrap .i64 (s4 + 1)))]) (by kernel_rfl) (by kernel_rfl) ?_
              refine OJ.nil ?_
              refine SJ.forget (List.Sublist.cons _ (List.Sublist.cons _ (List.Sublist.cons_cons _ (List.Sublist.cons_cons _ List.Sublist.slnil)))) ?_
              exact SJ.at_ [0, 2, 4, 5] rfl (by kernel_rfl)
  · refine SJ.exit (id := 0) (by kernel_rfl) (by rfl) ?_
    refine SJ.seq (by kernel_rfl) ?_
    refine SJ.region (id := 11) (by kernel_rfl) [0, 1, 2] (by kernel_rfl) ?_
    refine OJ.kld (d := 60) (T := 71) (y := .tmp 4) (cd := c_weirref18_Queue) (j := 0) (b := b3) (o := 0) s5 (pend2 := []) (by kernel_rfl) (by kernel_rfl) Ty71 (by kernel_rfl) rfl (At.whole _) (by kernel_rfl) rfl ?_
    refine OJ.kst (T := 71) (y := .tmp 2) (z := .tmp 60) (cd := c_weirref18_Queue) (u := s5) (j := 1) (b := b1) (o := 0) (c_weirref18_Queue.enc s5) (h2 := [(b3, c_weirref18_Queue.enc s5), (b1, c_weirref18_Queue.enc s5)]) (owed := []) (by kernel_rfl) (by kernel_rfl) (by kernel_rfl) Ty71 rfl (Upd.whole ((Cod.len _ _).trans (Cod.len _ _).symm)) (by kernel_rfl) (by kernel_rfl) rfl ?_
    refine OW.nil ?_
    refine OJ.run [2] [] [2, 3] (m2 := [(2, .pointer (some (pt b1 0))), (3, .int .i64 0)]) (by kernel_rfl) (by kernel_rfl) ?_
    refine OJ.nil ?_
    exact SJ.ret (by kernel_rfl) rfl (Res.run (ys := [c_weirref18_Queue.val s5, .int .i64 0]) (.cell (j := 1) (b := b1) (cd := c_weirref18_Queue) (q := s5) (by kernel_rfl) rfl Ty71 (At.whole _) (.tmp (by kernel_rfl) .nil)) rfl)
noncomputable def weirref18_New (a0 : Sl) : M (weirref18_Queue × Int) :=
  slot 71 >>= fun b1 =>
  weirref18_out (a0.len : Int) 1 8 >>= fun r2 =>
  if r2 = true then
    pure (z_weirref18_Queue, 180)
  else
    slot 71 >>= fun b3 =>
    loopM (fun s_ : (Int × weirref18_Queue × weirref18_Queue) => weirref18_New.L1 a0 s_.1 s_.2.1 s_.2.2) (0, z_weirref18_Queue, z_weirref18_Queue)
theorem weirref18_New_ok (a0 : Sl) : Ref Try.prog 41 [Sl.v a0] (weirref18_New a0) weirref18_New.out := by
  refine Ref.of (cd := weirref18_New.B) Try.func41 (by kernel_rfl) (by kernel_rfl) ?_
  show SJ weirref18_New.cx [.code weirref18_New.B] [(0, Sl.v a0)] [] (weirref18_New a0) weirref18_New.F0
  unfold weirref18_New
  refine SJ.seq (by kernel_rfl) ?_
  refine SJ.region (id := 0) (by kernel_rfl) [0, 1] (by kernel_rfl) ?_
  refine OJ.slotOf (d := 2) (op := (.alloc 71)) (cd := c_weirref18_Queue) (u := z_weirref18_Queue) (owed := []) (by kernel_rfl) (alloc_run Ty71) (by kernel_rfl) (by kernel_rfl) (by kernel_rfl) (fun b1 => ?_)
  refine OW.nil ?_
  refine OJ.run [1] [] [0, 2] (m2 := [(0, Sl.v a0), (2, .pointer (some (pt b1 0)))]) (by kernel_rfl) (by kernel_rfl) ?_
  refine OJ.nil ?_
  refine SJ.seq (by kernel_rfl) ?_
  refine SJ.seq (by kernel_rfl) ?_
  refine SJ.region (id := 1) (by kernel_rfl) [0, 1, 2] (by kernel_rfl) ?_
  refine OJ.run [0, 1] [2] [0, 2, 8] (m2 := [(0, Sl.v a0), (2, .pointer (some (pt b1 0))), (8, .int .i64 (a0.len : Int))]) (by kernel_rfl) (by kernel_rfl) ?_
  refine OJ.call (d := 9) (g := 51) (ats := #[3, 3, 3]) (args := [.tmp 8, .const (.int .i64 1), .const (.int .i64 8)]) (vals := [.int .i64 (a0.len : Int), .int .i64 1, .int .i64 8]) (owed := []) (by kernel_rfl) F51 (by kernel_rfl) (weirref18_out_ok (a0.len : Int) 1 8) (by kernel_rfl) (by kernel_rfl) (by kernel_rfl) (fun r2 => ?_)
  refine OW.nil ?_
  refine OJ.nil ?_
  refine SJ.cond (t := (.tmp 9)) (b := r2) (by kernel_rfl) (by kernel_rfl) Iff.rfl (fun hc41 => ?_) (fun hc41 => ?_)
  · refine SJ.seq (by kernel_rfl) ?_
    refine SJ.region (id := 2) (by kernel_rfl) [0, 1, 2] (by kernel_rfl) ?_
    refine OJ.build (d := 10) (T := 71) (parts := []) (ps := []) (cd := c_weirref18_Queue) (z0 := z_weirref18_Queue) z_weirref18_Queue (by kernel_rfl) (by kernel_rfl) Ty71 rfl (by kernel_rfl) Filled.nil (by kernel_rfl) (by kernel_rfl) (by kernel_rfl) ?_
    refine OJ.kst (T := 71) (y := .tmp 2) (z := .tmp 10) (cd := c_weirref18_Queue) (u := z_weirref18_Queue) (j := 0) (b := b1) (o := 0) (c_weirref18_Queue.enc z_weirref18_Queue) (h2 := [(b1, c_weirref18_Queue.enc z_weirref18_Queue)]) (owed := []) (by kernel_rfl) (by kernel_rfl) (by kernel_rfl) Ty71 rfl (Upd.whole ((Cod.len _ _).trans (Cod.len _ _).symm)) (by kernel_rfl) (by kernel_rfl) rfl ?_
    refine OW.nil ?_
    refine OJ.run [2] [] [2, 3] (m2 := [(2, .pointer (some (pt b1 0))), (3, .int .i64 180)]) (by kernel_rfl) (by kernel_rfl) ?_
    refine OJ.nil ?_
    exact SJ.ret (by kernel_rfl) rfl (Res.run (ys := [c_weirref18_Queue.val z_weirref18_Queue, .int .i64 180]) (.cell (j := 0) (b := b1) (cd := c_weirref18_Queue) (q := z_weirref18_Queue) (by kernel_rfl) rfl Ty71 (At.whole _) (.tmp (by kernel_rfl) .nil)) rfl)
  · refine SJ.skip (by kernel_rfl) ?_
    refine SJ.seq (by kernel_rfl) ?_
    refine SJ.region (id := 3) (by kernel_rfl) [0, 1, 2] (by kernel_rfl) ?_
    refine OJ.build (d := 11) (T := 71) (parts := []) (ps := []) (cd := c_weirref18_Queue) (z0 := z_weirref18_Queue) z_weirref18_Queue (by kernel_rfl) (by kernel_rfl) Ty71 rfl (by kernel_rfl) Filled.nil (by kernel_rfl) (by kernel_rfl) (by kernel_rfl) ?_
    refine OJ.slotOf (d := 4) (op := (.alloc 71)) (cd := c_weirref18_Queue) (u := z_weirref18_Queue) (owed := []) (by kernel_rfl) (alloc_run Ty71) (by kernel_rfl) (by kernel_rfl) (by kernel_rfl) (fun b3 => ?_)
    refine OW.nil ?_
    refine OJ.kst (T := 71) (y := .tmp 4) (z := .tmp 11) (cd := c_weirref18_Queue) (u := z_weirref18_Queue) (j := 0) (b := b3) (o := 0) (c_weirref18_Queue.enc z_weirref18_Queue) (h2 := [(b3, c_weirref18_Queue.enc z_weirref18_Queue), (b1, c_weirref18_Queue.enc z_weirref18_Queue)]) (owed := []) (by kernel_rfl) (by kernel_rfl) (by kernel_rfl) Ty71 rfl (Upd.whole ((Cod.len _ _).trans (Cod.len _ _).symm)) (by kernel_rfl) (by kernel_rfl) rfl ?_
    refine OW.nil ?_
    refine OJ.nil ?_
    refine SJ.seq (by kernel_rfl) ?_
    refine SJ.seq (by kernel_rfl) ?_
    refine SJ.region (id := 4) (by kernel_rfl) [0] (by kernel_rfl) ?_
    refine OJ.run [0] [] [0, 2, 4, 5] (m2 := [(0, Sl.v a0), (2, .pointer (some (pt b1 0))), (4, .pointer (some (pt b3 0))), (5, .int .i64 0)]) (by kernel_rfl) (by kernel_rfl) ?_
    refine OJ.nil ?_
    refine SJ.block (id := 0) (by kernel_rfl) ?_
    exact SJ.loop (fun s_ : (Int × weirref18_Queue × weirref18_Queue) => [(0, Sl.v a0), (2, .pointer (some (pt b1 0))), (4, .pointer (some (pt b3 0))), (5, .int .i64 s_.1)]) (fun s_ : (Int × weirref18_Queue × weirref18_Queue) => [(b3, c_weirref18_Queue.enc s_.2.1), (b1, c_weirref18_Queue.enc s_.2.2)]) [0, 2, 4, 5] (by kernel_rfl) (by kernel_rfl) rfl (fun _ _ => rfl) (fun s_ => weirref18_New.L1_ok a0 b1 b3 s_.1 s_.2.1 s_.2.2)

/-! ### weir/weirlaw18.num: function 17 -/
noncomputable def weirlaw18_num.B : Code := (Try.f17.body).getD .skip
noncomputable def weirlaw18_num.cx : Fx := ⟨Try.prog, 17, Try.f17⟩
noncomputable def weirlaw18_num.out (r_ : Int) : Value := .int .i64 r_
noncomputable def weirlaw18_num.F0 (r_ : Int) : Reach := .ret (weirlaw18_num.out r_)
noncomputable def weirlaw18_num (a0 : Int) : M Int :=
  pure a0
theorem weirlaw18_num_ok (a0 : Int) : Ref Try.prog 17 [.int .i64 a0] (weirlaw18_num a0) weirlaw18_num.out := by
  refine Ref.of (cd := weirlaw18_num.B) Try.func17 (by kernel_rfl) (by kernel_rfl) ?_
  show SJ weirlaw18_num.cx [.code weirlaw18_num.B] [(0, .int .i64 a0)] [] (weirlaw18_num a0) weirlaw18_num.F0
  unfold weirlaw18_num
  refine SJ.seq (by kernel_rfl) ?_
  refine SJ.region (id := 0) (by kernel_rfl) [0] (by kernel_rfl) ?_
  refine OJ.run [0] [] [0] (m2 := [(0, .int .i64 a0)]) (by kernel_rfl) (by kernel_rfl) ?_
  refine OJ.nil ?_
  refine SJ.seq (by kernel_rfl) ?_
  refine SJ.region (id := 1) (by kernel_rfl) [0, 1] (by kernel_rfl) ?_
  refine OJ.run [0, 1] [] [2] (m2 := [(2, .int .i64 a0)]) (by kernel_rfl) (by kernel_rfl) ?_
  refine OJ.nil ?_
  exact SJ.ret (by kernel_rfl) rfl (Res.run (ys := [.int .i64 a0]) (.tmp (by kernel_rfl) .nil) rfl)

/-! ### weir/weirlaw18.made: function 34 -/
noncomputable def weirlaw18_made.B : Code := (Try.f34.body).getD .skip
noncomputable def weirlaw18_made.cx : Fx := ⟨Try.prog, 34, Try.f34⟩
noncomputable def weirlaw18_made.out (r_ : (weirlaw18_Side × Bool)) : Value := .tuple #[c_weirlaw18_Side.val r_.1, .bool r_.2]
noncomputable def weirlaw18_made.F0 (r_ : (weirlaw18_Side × Bool)) : Reach := .ret (weirlaw18_made.out r_)
noncomputable def weirlaw18_made.K1 (r3 : ((Option Addr) × Int)) (r4 : (weirref18_Queue × Int)) (s6 : Bool) : M (weirlaw18_Side × Bool) :=
  weirlaw18_num r3.2 >>= fun r15 =>
  (if r15 ≠ r4.2 then
      pure true
    else
      pure (!((Option.isNone r3.1) == (r4.2 != 0)))) >>= fun y16 =>
  (if y16 = true then
      pure true
    else
      pure (!s6)) >>= fun y17 =>
  if y17 = true then
    pure (z_weirlaw18_Side, false)
  else
    if r4.2 = 0 then
      pure ((⟨r3.1, r4.1⟩ : weirlaw18_Side), true)
    else
      weirlaw18_two >>= fun r18 =>
      queue_New r18 >>= fun r19 =>
      weirlaw18_two >>= fun r20 =>
      weirref18_New r20 >>= fun r21 =>
      draw >>= fun _ =>
      (if ¬ (r19.1 = none) then
          weirlaw18_num r19.2 >>= fun r22 =>
          pure (r22 == 0)
        else
          pure false) >>= fun y23 =>
      pure ((⟨r19.1, r21.1⟩ : weirlaw18_Side), y23)
theorem weirlaw18_made.K1_ok (b1 : Nat) (r3 : ((Option Addr) × Int)) (r4 : (weirref18_Queue × Int)) (b5 : Nat) (s6 : Bool) :
    SJ weirlaw18_made.cx [.code (c2 (c2 (c2 (c2 (c2 (c2 (c2 weirlaw18_made.B)))))))] [(2, .pointer (some (pt b1 0))), (5, .pointer r3.1), (6, .int .i64 r3.2), (7, .pointer (some (pt b5 0))), (8, .int .i64 r4.2), (9, .bool s6)] [(b5, c_weirref18_Queue.enc r4.1), (b1, c_weirlaw18_Side.enc z_weirlaw18_Side)] (weirlaw18_made.K1 r3 r4 s6) weirlaw18_made.F0 := by
  unfold weirlaw18_made.K1
  refine SJ.seq (by kernel_rfl) ?_
  refine SJ.seq (by kernel_rfl) ?_
  refine SJ.region (id := 11) (by kernel_rfl) [0, 1, 2, 3, 4, 5, 6, 7, 8, 9, 10, 11, 12, 13, 14] (by kernel_rfl) ?_
  refine OJ.run [0] [1, 2, 3, 4, 5, 6, 7, 8, 9, 10, 11, 12, 13, 14] [2, 5, 7, 8, 9, 46] (m2 := [(2, .pointer (some (pt b1 0))), (5, .pointer r3.1), (7, .pointer (some (pt b5 0))), (8, .int .i64 r4.2), (9, .bool s6), (46, .int .i64 r3.2)]) (by kernel_rfl) (by kernel_rfl) ?_
  refine OJ.call (d := 47) (g := 17) (ats := #[35]) (args := [.tmp 46]) (vals := [.int .i64 r3.2]) (owed := []) (by kernel_rfl) F17 (by kernel_rfl) (weirlaw18_num_ok r3.2) (by kernel_rfl) (by kernel_rfl) (by kernel_rfl) (fun r15 => ?_)
  refine OW.nil ?_
  refine OJ.run [2, 3, 4] [5, 6, 7, 8, 9, 10, 11, 12, 13, 14] [2, 5, 7, 8, 9, 50] (m2 := [(2, .pointer (some (pt b1 0))), (5, .pointer r3.1), (7, .pointer (some (pt b5 0))), (8, .int .i64 r4.2), (9, .bool s6), (50, .bool (r15 != r4.2))]) (by kernel_rfl) (by kernel_rfl) ?_
  refine OJ.join (b := (r15 != r4.2)) [5, 6, 7, 8, 9, 10] [11, 12, 13, 14] [2, 5, 7, 8, 9, 56] (fun y16 => [(2, .pointer (some (pt b1 0))), (5, .pointer r3.1), (7, .pointer (some (pt b5 0))), (8, .int .i64 r4.2), (9, .bool s6), (56, .bool y16)]) [] [] (by kernel_rfl) (t := 50) (by kernel_rfl) bne_iff_ne (fun hp_ => ?_) (fun hp_ => ?_) (by kernel_rfl) (fun _ _ _ _ _ _ h_ => h_) (fun y16 => ?_)
  · refine OJ.run [5, 6, 7, 8, 9, 10] [] [2, 5, 7, 8, 9, 56] (m2 := [(2, .pointer (some (pt b1 0))), (5, .pointer r3.1), (7, .pointer (some (pt b5 0))), (8, .int .i64 r4.2), (9, .bool s6), (56, .bool true)]) (by kernel_rfl) (by kernel_rfl) ?_
    exact OJ.nil ⟨(Cov.mem Cov.nil), rfl, _, rfl, by kernel_rfl⟩
  · refine OJ.run [5, 6, 7, 8, 9, 10] [] [2, 5, 7, 8, 9, 56] (m2 := [(2, .pointer (some (pt b1 0))), (5, .pointer r3.1), (7, .pointer (some (pt b5 0))), (8, .int .i64 r4.2), (9, .bool s6), (56, .bool (!((Option.isNone r3.1) == (r4.2 != 0))))]) (by kernel_rfl) (by kernel_rfl) ?_
    exact OJ.nil ⟨(Cov.mem Cov.nil), rfl, _, rfl, by kernel_rfl⟩
  · refine OJ.run [11] [12, 13, 14] [2, 5, 7, 8, 9, 57] (m2 := [(2, .pointer (some (pt b1 0))), (5, .pointer r3.1), (7, .pointer (some (pt b5 0))), (8, .int .i64 r4.2), (9, .bool s6), (57, .bool y16)]) (by kernel_rfl) (by kernel_rfl) ?_
    refine OJ.join (b := y16) [12, 13, 14] [] [2, 5, 7, 8, 60] (fun y17 => [(2, .pointer (some (pt b1 0))), (5, .pointer r3.1), (7, .pointer (some (pt b5 0))), (8, .int .i64 r4.2), (60, .bool y17)]) [] [] (by kernel_rfl) (t := 57) (by kernel_rfl) Iff.rfl (fun hp_ => ?_) (fun hp_ => ?_) (by kernel_rfl) (fun _ _ _ _ _ _ h_ => h_) (fun y17 => ?_)
    · refine OJ.run [12, 13, 14] [] [2, 5, 7, 8, 60] (m2 := [(2, .pointer (some (pt b1 0))), (5, .pointer r3.1), (7, .pointer (some (pt b5 0))), (8, .int .i64 r4.2), (60, .bool true)]) (by kernel_rfl) (by kernel_rfl) ?_
      exact OJ.nil ⟨(Cov.mem Cov.nil), rfl, _, rfl, by kernel_rfl⟩
    · refine OJ.run [12, 13, 14] [] [2, 5, 7, 8, 60] (m2 := [(2, .pointer (some (pt b1 0))), (5, .pointer r3.1), (7, .pointer (some (pt b5 0))), (8, .int .i64 r4.2), (60, .bool (!s6))]) (by kernel_rfl) (by kernel_rfl) ?_
      exact OJ.nil ⟨(Cov.mem Cov.nil), rfl, _, rfl, by kernel_rfl⟩
    · refine OJ.nil ?_
      refine SJ.cond (t := (.tmp 60)) (b := y17) (by kernel_rfl) (by kernel_rfl) Iff.rfl (fun hc25 => ?_) (fun hc25 => ?_)
      · refine SJ.seq (by kernel_rfl) ?_
        refine SJ.region (id := 12) (by kernel_rfl) [0, 1, 2] (by kernel_rfl) ?_
        refine OJ.build (d := 61) (T := 73) (parts := []) (ps := []) (cd := c_weirlaw18_Side) (z0 := z_weirlaw18_Side) z_weirlaw18_Side (by kernel_rfl) (by kernel_rfl) Ty73 rfl (by kernel_rfl) Filled.nil (by kernel_rfl) (by kernel_rfl) (by kernel_rfl) ?_
        refine OJ.kst (T := 73) (y := .tmp 2) (z := .tmp 61) (cd := c_weirlaw18_Side) (u := z_weirlaw18_Side) (j := 1) (b := b1) (o := 0) (c_weirlaw18_Side.enc z_weirlaw18_Side) (h2 := [(b5, c_weirref18_Queue.enc r4.1), (b1, c_weirlaw18_Side.enc z_weirlaw18_Side)]) (owed := []) (by kernel_rfl) (by kernel_rfl) (by kernel_rfl) Ty73 rfl (Upd.whole ((Cod.len _ _).trans (Cod.len _ _).symm)) (by kernel_rfl) (by kernel_rfl) rfl ?_
        refine OW.nil ?_
        refine OJ.run [2] [] [2, 3] (m2 := [(2, .pointer (some (pt b1 0))), (3, .bool false)]) (by kernel_rfl) (by kernel_rfl) ?_
        refine OJ.nil ?_
        exact SJ.ret (by kernel_rfl) rfl (Res.run (ys := [c_weirlaw18_Side.val z_weirlaw18_Side, .bool false]) (.cell (j := 1) (b := b1) (cd := c_weirlaw18_Side) (q := z_weirlaw18_Side) (by kernel_rfl) rfl Ty73 (At.whole _) (.tmp (by kernel_rfl) .nil)) rfl)
      · refine SJ.skip (by kernel_rfl) ?_
        refine SJ.seq (by kernel_rfl) ?_
        refine SJ.seq (by kernel_rfl) ?_
        refine SJ.region (id := 13) (by kernel_rfl) [0, 1] (by kernel_rfl) ?_
        refine OJ.run [0, 1] [] [2, 5, 7, 63] (m2 := [(2, .pointer (some (pt b1 0))), (5, .pointer r3.1), (7, .pointer (some (pt b5 0))), (63, .bool (r4.2 == 0))]) (by kernel_rfl) (by kernel_rfl) ?_
        refine OJ.nil ?_
        refine SJ.cond (t := (.tmp 63)) (b := (r4.2 == 0)) (by kernel_rfl) (by kernel_rfl) beq_iff_eq (fun hc24 => ?_) (fun hc24 => ?_)
        · refine SJ.seq (by kernel_rfl) ?_
          refine SJ.region (id := 14) (by kernel_rfl) [0, 1, 2, 3, 4] (by kernel_rfl) ?_
          refine OJ.run [0] [1, 2, 3, 4] [2, 7, 64] (m2 := [(2, .pointer (some (pt b1 0))), (7, .pointer (some (pt b5 0))), (64, .pointer r3.1)]) (by kernel_rfl) (by kernel_rfl) ?_
          refine OJ.kld (d := 65) (T := 71) (y := .tmp 7) (cd := c_weirref18_Queue) (j := 0) (b := b5) (o := 0) r4.1 (pend2 := []) (by kernel_rfl) (by kernel_rfl) Ty71 (by kernel_rfl) rfl (At.whole _) (by kernel_rfl) rfl ?_
          refine OJ.build (d := 66) (T := 73) (parts := [(0, .tmp 64), (1, .tmp 65)]) (ps := [(0, cP.val r3.1), (1, c_weirref18_Queue.val r4.1)]) (cd := c_weirlaw18_Side) (z0 := z_weirlaw18_Side) (⟨r3.1, r4.1⟩ : weirlaw18_Side) (by kernel_rfl) (by kernel_rfl) Ty73 rfl (by kernel_rfl) (Filled.cons (cd := cP) (q := r3.1) (o := 0) (by kernel_rfl) (Up_weirlaw18_Side_Q z_weirlaw18_Side r3.1) (Filled.cons (cd := c_weirref18_Queue) (q := r4.1) (o := 1) (by kernel_rfl) (Up_weirlaw18_Side_R (⟨r3.1, z_weirlaw18_Side.R⟩ : weirlaw18_Side) r4.1) Filled.nil)) (by kernel_rfl) (by kernel_rfl) (by kernel_rfl) ?_
          refine OJ.kst (T := 73) (y := .tmp 2) (z := .tmp 66) (cd := c_weirlaw18_Side) (u := (⟨r3.1, r4.1⟩ : weirlaw18_Side)) (j := 1) (b := b1) (o := 0) (c_weirlaw18_Side.enc (⟨r3.1, r4.1⟩ : weirlaw18_Side)) (h2 := [(b5, c_weirref18_Queue.enc r4.1), (b1, c_weirlaw18_Side.enc (⟨r3.1, r4.1⟩ : weirlaw18_Side))]) (owed := []) (by kernel_rfl) (by kernel_rfl) (by kernel_rfl) Ty73 rfl (Upd.whole ((Cod.len _ _).trans (Cod.len _ _).symm)) (by kernel_rfl) (by kernel_rfl) rfl ?_
          refine OW.nil ?_
          refine OJ.run [4] [] [2, 3] (m2 := [(2, .pointer (some (pt b1 0))), (3, .bool true)]) (by kernel_rfl) (by kernel_rfl) ?_
          refine OJ.nil ?_
          exact SJ.ret (by kernel_rfl) rfl (Res.run (ys := [c_weirlaw18_Side.val (⟨r3.1, r4.1⟩ : weirlaw18_Side), .bool true]) (.cell (j := 1) (b := b1) (cd := c_weirlaw18_Side) (q := (⟨r3.1, r4.1⟩ : weirlaw18_Side)) (by kernel_rfl) rfl Ty73 (At.whole _) (.tmp (by kernel_rfl) .nil)) rfl)
        · refine SJ.skip (by kernel_rfl) ?_
          refine SJ.seq (by kernel_rfl) ?_
          refine SJ.region (id := 15) (by kernel_rfl) [0, 1, 2, 3, 4, 5, 6] (by kernel_rfl) ?_
          refine OJ.call (d := 68) (g := 43) (ats := #[]) (args := []) (vals := []) (owed := []) (by kernel_rfl) F43 (by kernel_rfl) (weirlaw18_two_ok ) (by kernel_rfl) (by kernel_rfl) (by kernel_rfl) (fun r18 => ?_)
          refine OW.nil ?_
          refine OJ.call (d := 69) (g := 38) (ats := #[27]) (args := [.tmp 68]) (vals := [Sl.v r18]) (owed := []) (by kernel_rfl) F38 (by kernel_rfl) (queue_New_ok r18) (by kernel_rfl) (by kernel_rfl) (by kernel_rfl) (fun r19 => ?_)
          refine OW.nil ?_
          refine OJ.run [2, 3, 4, 5, 6] [] [2, 5, 7, 6] (m2 := [(2, .pointer (some (pt b1 0))), (5, .pointer r19.1), (7, .pointer (some (pt b5 0))), (6, .int .i64 r19.2)]) (by kernel_rfl) (by kernel_rfl) ?_
          refine OJ.nil ?_
          refine SJ.seq (by kernel_rfl) ?_
          refine SJ.region (id := 16) (by kernel_rfl) [0, 1, 2, 3, 4, 5] (by kernel_rfl) ?_
          refine OJ.call (d := 73) (g := 43) (ats := #[]) (args := []) (vals := []) (owed := []) (by kernel_rfl) F43 (by kernel_rfl) (weirlaw18_two_ok ) (by kernel_rfl) (by kernel_rfl) (by kernel_rfl) (fun r20 => ?_)
          refine OW.nil ?_
          refine OJ.call (d := 74) (g := 41) (ats := #[27]) (args := [.tmp 73]) (vals := [Sl.v r20]) (owed := []) (by kernel_rfl) F41 (by kernel_rfl) (weirref18_New_ok r20) (by kernel_rfl) (by kernel_rfl) (by kernel_rfl) (fun r21 => ?_)
          refine OW.nil ?_
          refine OJ.run [2, 3, 4] [5] [2, 5, 7, 6, 75] (m2 := [(2, .pointer (some (pt b1 0))), (5, .pointer r19.1), (7, .pointer (some (pt b5 0))), (6, .int .i64 r19.2), (75, c_weirref18_Queue.val r21.1)]) (by kernel_rfl) (by kernel_rfl) ?_
          refine OJ.kst (T := 71) (y := .tmp 7) (z := .tmp 75) (cd := c_weirref18_Queue) (u := r21.1) (j := 0) (b := b5) (o := 0) (c_weirref18_Queue.enc r21.1) (h2 := [(b5, c_weirref18_Queue.enc r21.1), (b1, c_weirlaw18_Side.enc z_weirlaw18_Side)]) (owed := []) (by kernel_rfl) (by kernel_rfl) (by kernel_rfl) Ty71 rfl (Upd.whole ((Cod.len _ _).trans (Cod.len _ _).symm)) (by kernel_rfl) (by kernel_rfl) rfl ?_
          refine OW.nil ?_
          refine OJ.nil ?_
          refine SJ.seq (by kernel_rfl) ?_
          refine SJ.draw (id := 17) (kd := [0, 1, 0, 0, 0, 0, 0, 2, 0, 0, 2, 0]) (bef := [0, 0, 3, 0, 8, 24, 56, 120, 248, 504, 255, 2047]) (ord := [0, 1, 2, 3, 4, 5, 6, 7, 8, 9, 10, 11]) (by kernel_rfl) mixed (by kernel_rfl) ?_
          refine OJ.run [0] [1, 2, 3, 4, 5, 6, 7, 8, 9, 10, 11] [2, 5, 7, 6, 77] (m2 := [(2, .pointer (some (pt b1 0))), (5, .pointer r19.1), (7, .pointer (some (pt b5 0))), (6, .int .i64 r19.2), (77, .pointer r19.1)]) (by kernel_rfl) (by kernel_rfl) ?_
          refine OJ.kld (d := 78) (T := 71) (y := .tmp 7) (cd := c_weirref18_Queue) (j := 0) (b := b5) (o := 0) r21.1 (pend2 := [⟨1, 71, (pt b5 0), c_weirref18_Queue.val r21.1⟩]) (by kernel_rfl) (by kernel_rfl) Ty71 (by kernel_rfl) rfl (At.whole _) (by kernel_rfl) rfl ?_
          refine OJ.build (d := 79) (T := 73) (parts := [(0, .tmp 77), (1, .tmp 78)]) (ps := [(0, cP.val r19.1), (1, c_weirref18_Queue.val r21.1)]) (cd := c_weirlaw18_Side) (z0 := z_weirlaw18_Side) (⟨r19.1, r21.1⟩ : weirlaw18_Side) (by kernel_rfl) (by kernel_rfl) Ty73 rfl (by kernel_rfl) (Filled.cons (cd := cP) (q := r19.1) (o := 0) (by kernel_rfl) (Up_weirlaw18_Side_Q z_weirlaw18_Side r19.1) (Filled.cons (cd := c_weirref18_Queue) (q := r21.1) (o := 1) (by kernel_rfl) (Up_weirlaw18_Side_R (⟨r19.1, z_weirlaw18_Side.R⟩ : weirlaw18_Side) r21.1) Filled.nil)) (by kernel_rfl) (by kernel_rfl) (by kernel_rfl) ?_
          refine OJ.run [3, 4, 5] [6, 7, 8, 9, 10, 11] [2, 6, 79, 82] (m2 := [(2, .pointer (some (pt b1 0))), (6, .int .i64 r19.2), (79, c_weirlaw18_Side.val (⟨r19.1, r21.1⟩ : weirlaw18_Side)), (82, .bool (!(Option.isNone r19.1)))]) (by kernel_rfl) (by kernel_rfl) ?_
          refine OJ.join (b := (!(Option.isNone r19.1))) [6, 7, 8, 9] [10, 11] [2, 79, 86] (fun y23 => [(2, .pointer (some (pt b1 0))), (79, c_weirlaw18_Side.val (⟨r19.1, r21.1⟩ : weirlaw18_Side)), (86, .bool y23)]) [⟨1, 71, (pt b5 0), c_weirref18_Queue.val r21.1⟩] [] (by kernel_rfl) (t := 82) (by kernel_rfl) (bnot_iff Option.isNone_iff_eq_none) (fun hp_ => ?_) (fun hp_ => ?_) (by kernel_rfl) (fun _ _ _ _ _ _ h_ => h_) (fun y23 => ?_)
          · refine OJ.run [6] [7, 8, 9] [2, 79, 82, 83] (m2 := [(2, .pointer (some (pt b1 0))), (79, c_weirlaw18_Side.val (⟨r19.1, r21.1⟩ : weirlaw18_Side)), (82, .bool true), (83, .int .i64 r19.2)]) (by kernel_rfl) (by kernel_rfl) ?_
            refine OJ.call (d := 84) (g := 17) (ats := #[35]) (args := [.tmp 83]) (vals := [.int .i64 r19.2]) (owed := [⟨1, 71, (pt b5 0), c_weirref18_Queue.val r21.1⟩]) (by kernel_rfl) F17 (by kernel_rfl) (weirlaw18_num_ok r19.2) (by kernel_rfl) (by kernel_rfl) (by kernel_rfl) (fun r22 => ?_)
            refine OW.known (j := 0) (q := r21.1) Ty71 rfl (At.whole _) ?_
            refine OW.nil ?_
            refine OJ.run [8, 9] [] [2, 79, 86] (m2 := [(2, .pointer (some (pt b1 0))), (79, c_weirlaw18_Side.val (⟨r19.1, r21.1⟩ : weirlaw18_Side)), (86, .bool (r22 == 0))]) (by kernel_rfl) (by kernel_rfl) ?_
            exact OJ.nil ⟨(Cov.mem (Cov.keep (List.mem_of_getElem? (i := 0) rfl) Cov.nil)), rfl, _, rfl, by kernel_rfl⟩
          · refine OJ.run [6, 7, 8, 9] [] [2, 79, 86] (m2 := [(2, .pointer (some (pt b1 0))), (79, c_weirlaw18_Side.val (⟨r19.1, r21.1⟩ : weirlaw18_Side)), (86, .bool false)]) (by kernel_rfl) (by kernel_rfl) ?_
            exact OJ.nil ⟨(Cov.mem (Cov.keep (List.mem_of_getElem? (i := 0) rfl) Cov.nil)), rfl, _, rfl, by kernel_rfl⟩
          · refine OJ.kst (T := 73) (y := .tmp 2) (z := .tmp 79) (cd := c_weirlaw18_Side) (u := (⟨r19.1, r21.1⟩ : weirlaw18_Side)) (j := 1) (b := b1) (o := 0) (c_weirlaw18_Side.enc (⟨r19.1, r21.1⟩ : weirlaw18_Side)) (h2 := [(b5, c_weirref18_Queue.enc r21.1), (b1, c_weirlaw18_Side.enc (⟨r19.1, r21.1⟩ : weirlaw18_Side))]) (owed := []) (by kernel_rfl) (by kernel_rfl) (by kernel_rfl) Ty73 rfl (Upd.whole ((Cod.len _ _).trans (Cod.len _ _).symm)) (by kernel_rfl) (by kernel_rfl) rfl ?_
            refine OW.nil ?_
            refine OJ.run [11] [] [2, 3] (m2 := [(2, .pointer (some (pt b1 0))), (3, .bool y23)]) (by kernel_rfl) (by kernel_rfl) ?_
            refine OJ.nil ?_
            exact SJ.ret (by kernel_rfl) rfl (Res.run (ys := [c_weirlaw18_Side.val (⟨r19.1, r21.1⟩ : weirlaw18_Side), .bool y23]) (.cell (j := 1) (b := b1) (cd := c_weirlaw18_Side) (q := (⟨r19.1, r21.1⟩ : weirlaw18_Side)) (by kernel_rfl) rfl Ty73 (At.whole _) (.tmp (by kernel_rfl) .nil)) rfl)
noncomputable def weirlaw18_made.F1 (a0 : Sl) (b1 : Nat) (r2 : Sl) (r3 : ((Option Addr) × Int)) (r4 : (weirref18_Queue × Int)) (b5 : Nat) : (LS (Bool × Int) (weirlaw18_Side × Bool)) → Reach := loopF [.inLoop (c1 (c1 (c2 (c1 (c2 (c2 (c2 (c2 (c2 (c2 weirlaw18_made.B)))))))))), .inBlock 0, .code (c2 (c2 (c2 (c2 (c2 (c2 (c2 weirlaw18_made.B)))))))] (fun s_ : (Bool × Int) => [(0, Sl.v a0), (2, .pointer (some (pt b1 0))), (4, Sl.v r2), (5, .pointer r3.1), (6, .int .i64 r3.2), (7, .pointer (some (pt b5 0))), (8, .int .i64 r4.2), (9, .bool s_.1), (10, .int .i64 s_.2)]) (fun s_ : (Bool × Int) => [(b5, c_weirref18_Queue.enc r4.1), (b1, c_weirlaw18_Side.enc z_weirlaw18_Side)]) weirlaw18_made.F0
noncomputable def weirlaw18_made.L1 (a0 : Sl) (r2 : Sl) (r3 : ((Option Addr) × Int)) (r4 : (weirref18_Queue × Int)) (s6 : Bool) (s7 : Int) : M (LS (Bool × Int) (weirlaw18_Side × Bool)) :=
  if s7 < (a0.len : Int) then
    draw >>= fun _ =>
    (if s6 = true then
        idx r2.a r2.len s7 5 >>= fun p26 =>
        ld c_api_Class p26 >>= fun x27 =>
        idx a0.a a0.len s7 5 >>= fun p28 =>
        ld c_api_Class p28 >>= fun x29 =>
        pure (eqv x27 x29)
      else
        pure false) >>= fun y30 =>
    idx r2.a r2.len s7 5 >>= fun p31 =>
    st c_api_Class p31 (⟨(-1), z_api_Class.Items, z_api_Class.Bytes, z_api_Class.Rate, z_api_Class.Burst⟩ : api_Class) >>= fun _ =>
    pure (LS.next (y30, IntKind.wrap .i64 (s7 + 1)))
  else
    (weirlaw18_made.K1 r3 r4 s6) >>= fun b => pure (LS.done b)
theorem weirlaw18_made.L1_ok (a0 : Sl) (b1 : Nat) (r2 : Sl) (r3 : ((Option Addr) × Int)) (r4 : (weirref18_Queue × Int)) (b5 : Nat) (s6 : Bool) (s7 : Int) :
    SJ weirlaw18_made.cx [.code (c1 (c1 (c2 (c1 (c2 (c2 (c2 (c2 (c2 (c2 weirlaw18_made.B)))))))))), .inLoop (c1 (c1 (c2 (c1 (c2 (c2 (c2 (c2 (c2 (c2 weirlaw18_made.B)))))))))), .inBlock 0, .code (c2 (c2 (c2 (c2 (c2 (c2 (c2 weirlaw18_made.B)))))))] [(0, Sl.v a0), (2, .pointer (some (pt b1 0))), (4, Sl.v r2), (5, .pointer r3.1), (6, .int .i64 r3.2), (7, .pointer (some (pt b5 0))), (8, .int .i64 r4.2), (9, .bool s6), (10, .int .i64 s7)] [(b5, c_weirref18_Queue.enc r4.1), (b1, c_weirlaw18_Side.enc z_weirlaw18_Side)] (weirlaw18_made.L1 a0 r2 r3 r4 s6 s7) (weirlaw18_made.F1 a0 b1 r2 r3 r4 b5) := by
  unfold weirlaw18_made.L1
  refine SJ.seq (by kernel_rfl) ?_
  refine SJ.seq (by kernel_rfl) ?_
  refine SJ.region (id := 7) (by kernel_rfl) [0, 1, 2, 3] (by kernel_rfl) ?_
  refine OJ.run [0, 1, 2, 3] [] [0, 2, 4, 5, 6, 7, 8, 9, 10, 27] (m2 := [(0, Sl.v a0), (2, .pointer (some (pt b1 0))), (4, Sl.v r2), (5, .pointer r3.1), (6, .int .i64 r3.2), (7, .pointer (some (pt b5 0))), (8, .int .i64 r4.2), (9, .bool s6), (10, .int .i64 s7), (27, .bool (decide (s7 < (a0.len : Int))))]) (by kernel_rfl) (by kernel_rfl) ?_
  refine OJ.nil ?_
  refine SJ.cond (t := (.tmp 27)) (b := decide (s7 < (a0.len : Int))) (by kernel_rfl) (by kernel_rfl) decide_eq_true_iff (fun hc32 => ?_) (fun hc32 => ?_)
  · refine SJ.skip (by kernel_rfl) ?_
    refine SJ.seq (by kernel_rfl) ?_
    refine SJ.block (id := 1) (by kernel_rfl) ?_
    refine SJ.seq (by kernel_rfl) ?_
    refine SJ.draw (id := 9) (kd := [0, 0, 0, 0, 0, 1, 0, 0, 0, 1, 0, 0, 0]) (bef := [0, 1, 3, 3, 15, 31, 3, 3, 195, 451, 1023, 2047, 4095]) (ord := [0, 1, 2, 3, 4, 5, 6, 7, 8, 9, 10, 11, 12]) (by kernel_rfl) mixed (by kernel_rfl) ?_
    refine OJ.run [0, 1] [2, 3, 4, 5, 6, 7, 8, 9, 10, 11, 12] [0, 2, 4, 5, 6, 7, 8, 9, 10, 31] (m2 := [(0, Sl.v a0), (2, .pointer (some (pt b1 0))), (4, Sl.v r2), (5, .pointer r3.1), (6, .int .i64 r3.2), (7, .pointer (some (pt b5 0))), (8, .int .i64 r4.2), (9, .bool s6), (10, .int .i64 s7), (31, .bool s6)]) (by kernel_rfl) (by kernel_rfl) ?_
    refine OJ.join (b := s6) [2, 3, 4, 5, 6, 7, 8, 9, 10, 11] [12] [0, 2, 4, 5, 6, 7, 8, 9, 10, 41] (fun y30 => [(0, Sl.v a0), (2, .pointer (some (pt b1 0))), (4, Sl.v r2), (5, .pointer r3.1), (6, .int .i64 r3.2), (7, .pointer (some (pt b5 0))), (8, .int .i64 r4.2), (9, .bool s6), (10, .int .i64 s7), (41, .bool y30)]) [] [5, 9] (by kernel_rfl) (t := 31) (by kernel_rfl) Iff.rfl (fun hp_ => ?_) (fun hp_ => ?_) (by kernel_rfl) (fun _ _ _ _ _ _ h_ => h_) (fun y30 => ?_)
    · refine OJ.run [2, 3] [4, 5, 6, 7, 8, 9, 10, 11] [0, 2, 4, 5, 6, 7, 8, 9, 10, 31, 32, 33] (m2 := [(0, Sl.v a0), (2, .pointer (some (pt b1 0))), (4, Sl.v r2), (5, .pointer r3.1), (6, .int .i64 r3.2), (7, .pointer (some (pt b5 0))), (8, .int .i64 r4.2), (9, .bool s6), (10, .int .i64 s7), (31, .bool true), (32, Sl.v r2), (33, .int .i64 s7)]) (by kernel_rfl) (by kernel_rfl) ?_
      refine OJ.idxS (d := 34) (T := 27) (y := .tmp 32) (j := .tmp 33) (E := 41) (cap := r2.cap) (k := .i64) (by kernel_rfl) (by kernel_rfl) (by kernel_rfl) (by kernel_rfl) (by kernel_rfl) (by kernel_rfl) (by kernel_rfl) (by kernel_rfl) (fun p26 => ?_)
      refine OJ.ld (d := 35) (T := 41) (y := .tmp 34) (pend2 := fun x27 => [⟨5, 41, p26, c_api_Class.val x27⟩]) (by kernel_rfl) (by kernel_rfl) Ty41 (by kernel_rfl) (by kernel_rfl) (fun _ => rfl) (fun x27 => ?_)
      refine OJ.run [6, 7] [8, 9, 10, 11] [0, 2, 4, 5, 6, 7, 8, 9, 10, 31, 35, 36, 37] (m2 := [(0, Sl.v a0), (2, .pointer (some (pt b1 0))), (4, Sl.v r2), (5, .pointer r3.1), (6, .int .i64 r3.2), (7, .pointer (some (pt b5 0))), (8, .int .i64 r4.2), (9, .bool s6), (10, .int .i64 s7), (31, .bool true), (35, c_api_Class.val x27), (36, Sl.v a0), (37, .int .i64 s7)]) (by kernel_rfl) (by kernel_rfl) ?_
      refine OJ.idxS (d := 38) (T := 27) (y := .tmp 36) (j := .tmp 37) (E := 41) (cap := a0.cap) (k := .i64) (by kernel_rfl) (by kernel_rfl) (by kernel_rfl) (by kernel_rfl) (by kernel_rfl) (by kernel_rfl) (by kernel_rfl) (by kernel_rfl) (fun p28 => ?_)
      refine OJ.ld (d := 39) (T := 41) (y := .tmp 38) (pend2 := fun x29 => [⟨9, 41, p28, c_api_Class.val x29⟩, ⟨5, 41, p26, c_api_Class.val x27⟩]) (by kernel_rfl) (by kernel_rfl) Ty41 (by kernel_rfl) (by kernel_rfl) (fun _ => rfl) (fun x29 => ?_)
      refine OJ.eql (d := 40) (T := 41) (yT := 41) (y := .tmp 35) (z := .tmp 39) (cd := c_api_Class) (p := x27) (q := x29) (by kernel_rfl) (by kernel_rfl) (by kernel_rfl) rfl Eq41 (by kernel_rfl) (by kernel_rfl) (by kernel_rfl) (by kernel_rfl) (by kernel_rfl) ?_
      refine OJ.run [11] [] [0, 2, 4, 5, 6, 7, 8, 9, 10, 41] (m2 := [(0, Sl.v a0), (2, .pointer (some (pt b1 0))), (4, Sl.v r2), (5, .pointer r3.1), (6, .int .i64 r3.2), (7, .pointer (some (pt b5 0))), (8, .int .i64 r4.2), (9, .bool s6), (10, .int .i64 s7), (41, .bool (eqv x27 x29))]) (by kernel_rfl) (by kernel_rfl) ?_
      exact OJ.nil ⟨(Cov.mem (Cov.drop (List.mem_of_getElem? (i := 1) rfl) (Cov.drop (List.mem_of_getElem? (i := 0) rfl) Cov.nil))), rfl, _, rfl, by kernel_rfl⟩
    · refine OJ.run [2, 3, 4, 5, 6, 7, 8, 9, 10, 11] [] [0, 2, 4, 5, 6, 7, 8, 9, 10, 41] (m2 := [(0, Sl.v a0), (2, .pointer (some (pt b1 0))), (4, Sl.v r2), (5, .pointer r3.1), (6, .int .i64 r3.2), (7, .pointer (some (pt b5 0))), (8, .int .i64 r4.2), (9, .bool s6), (10, .int .i64 s7), (41, .bool false)]) (by kernel_rfl) (by kernel_rfl) ?_
      exact OJ.nil ⟨(Cov.mem Cov.nil), rfl, _, rfl, by kernel_rfl⟩
    · refine OJ.run [12] [] [0, 2, 4, 5, 6, 7, 8, 9, 10] (m2 := [(0, Sl.v a0), (2, .pointer (some (pt b1 0))), (4, Sl.v r2), (5, .pointer r3.1), (6, .int .i64 r3.2), (7, .pointer (some (pt b5 0))), (8, .int .i64 r4.2), (9, .bool y30), (10, .int .i64 s7)]) (by kernel_rfl) (by kernel_rfl) ?_
      refine OJ.nil ?_
      refine SJ.region (id := 10) (by kernel_rfl) [0, 1, 2, 3, 4] (by kernel_rfl) ?_
      refine OJ.run [0, 1] [2, 3, 4] [0, 2, 4, 5, 6, 7, 8, 9, 10, 42, 43] (m2 := [(0, Sl.v a0), (2, .pointer (some (pt b1 0))), (4, Sl.v r2), (5, .pointer r3.1), (6, .int .i64 r3.2), (7, .pointer (some (pt b5 0))), (8, .int .i64 r4.2), (9, .bool y30), (10, .int .i64 s7), (42, Sl.v r2), (43, .int .i64 s7)]) (by kernel_rfl) (by kernel_rfl) ?_
      refine OJ.build (d := 44) (T := 41) (parts := [(0, .const (.int .i64 (-1)))]) (ps := [(0, (cI .i64).val (-1))]) (cd := c_api_Class) (z0 := z_api_Class) (⟨(-1), z_api_Class.Items, z_api_Class.Bytes, z_api_Class.Rate, z_api_Class.Burst⟩ : api_Class) (by kernel_rfl) (by kernel_rfl) Ty41 rfl (by kernel_rfl) (Filled.cons (cd := (cI .i64)) (q := (-1)) (o := 0) (by kernel_rfl) (Up_api_Class_Quantum z_api_Class (-1)) Filled.nil) (by kernel_rfl) (by kernel_rfl) (by kernel_rfl) ?_
      refine OJ.idxS (d := 45) (T := 27) (y := .tmp 42) (j := .tmp 43) (E := 41) (cap := r2.cap) (k := .i64) (by kernel_rfl) (by kernel_rfl) (by kernel_rfl) (by kernel_rfl) (by kernel_rfl) (by kernel_rfl) (by kernel_rfl) (by kernel_rfl) (fun p31 => ?_)
      refine OJ.st (T := 41) (y := .tmp 45) (z := .tmp 44) (owed := []) (by kernel_rfl) (by kernel_rfl) (by kernel_rfl) Ty41 (by kernel_rfl) (by kernel_rfl) ?_
      refine OW.nil ?_
      refine OJ.nil ?_
      refine SJ.inBlock ?_
      refine SJ.region (id := 8) (by kernel_rfl) [0, 1, 2] (by kernel_rfl) ?_
      refine OJ.run [0, 1, 2] [] [0, 2, 4, 5, 6, 7, 8, 9, 10] (m2 := [(0, Sl.v a0), (2, .pointer (some (pt b1 0))), (4, Sl.v r2), (5, .pointer r3.1), (6, .int .i64 r3.2), (7, .pointer (some (pt b5 0))), (8, .int .i64 r4.2), (9, .bool y30), (10, .int .i64 (IntKind.wrap .i64 (s7 + 1)))]) (by kernel_rfl) (by kernel_rfl) ?_
      refine OJ.nil ?_
      exact SJ.at_ [0, 2, 4, 5, 6, 7, 8, 9, 10] rfl (by kernel_rfl)
  · refine SJ.exit (id := 0) (by kernel_rfl) (by rfl) ?_
    refine SJ.less [2, 5, 6, 7, 8, 9] (m' := [(2, .pointer (some (pt b1 0))), (5, .pointer r3.1), (6, .int .i64 r3.2), (7, .pointer (some (pt b5 0))), (8, .int .i64 r4.2), (9, .bool s6)]) (by kernel_rfl) ?_
    refine SJ.done ?_
    exact weirlaw18_made.K1_ok b1 r3 r4 b5 s6
noncomputable def weirlaw18_made (a0 : Sl) : M (weirlaw18_Side × Bool) :=
  slot 73 >>= fun b1 =>
  appS c_api_Class 41 40 z_api_Class Sl.nil a0 >>= fun r2 =>
  queue_New r2 >>= fun r3 =>
  weirref18_New a0 >>= fun r4 =>
  slot 71 >>= fun b5 =>
  loopM (fun s_ : (Bool × Int) => weirlaw18_made.L1 a0 r2 r3 r4 s_.1 s_.2) (true, 0)
theorem weirlaw18_made_ok (a0 : Sl) : Ref Try.prog 34 [Sl.v a0] (weirlaw18_made a0) weirlaw18_made.out := by
  refine Ref.of (cd := weirlaw18_made.B) Try.func34 (by kernel_rfl) (by kernel_rfl) ?_
  show SJ weirlaw18_made.cx [.code weirlaw18_made.B] [(0, Sl.v a0)] [] (weirlaw18_made a0) weirlaw18_made.F0
  unfold weirlaw18_made
  refine SJ.seq (by kernel_rfl) ?_
  refine SJ.region (id := 0) (by kernel_rfl) [0, 1] (by kernel_rfl) ?_
  refine OJ.slotOf (d := 2) (op := (.alloc 73)) (cd := c_weirlaw18_Side) (u := z_weirlaw18_Side) (owed := []) (by kernel_rfl) (alloc_run Ty73) (by kernel_rfl) (by kernel_rfl) (by kernel_rfl) (fun b1 => ?_)
  refine OW.nil ?_
  refine OJ.run [1] [] [0, 2] (m2 := [(0, Sl.v a0), (2, .pointer (some (pt b1 0)))]) (by kernel_rfl) (by kernel_rfl) ?_
  refine OJ.nil ?_
  refine SJ.seq (by kernel_rfl) ?_
  refine SJ.region (id := 1) (by kernel_rfl) [0] (by kernel_rfl) ?_
  refine OJ.run [0] [] [0, 2, 4] (m2 := [(0, Sl.v a0), (2, .pointer (some (pt b1 0))), (4, Sl.v Sl.nil)]) (by kernel_rfl) (by kernel_rfl) ?_
  refine OJ.nil ?_
  refine SJ.seq (by kernel_rfl) ?_
  refine SJ.region (id := 2) (by kernel_rfl) [0, 1, 2, 3] (by kernel_rfl) ?_
  refine OJ.run [0, 1] [2, 3] [0, 2, 4, 11, 12] (m2 := [(0, Sl.v a0), (2, .pointer (some (pt b1 0))), (4, Sl.v Sl.nil), (11, Sl.v Sl.nil), (12, Sl.v a0)]) (by kernel_rfl) (by kernel_rfl) ?_
  refine OJ.appS (d := 13) (t := 27) (u := 27) (so := .tmp 11) (xo := .tmp 12) (owed := []) (by kernel_rfl) (by kernel_rfl) (by kernel_rfl) Ty41 (by kernel_rfl) (by kernel_rfl) (by kernel_rfl) (by kernel_rfl) (by kernel_rfl) (by kernel_rfl) (fun r2 => ?_)
  refine OW.nil ?_
  refine OJ.run [3] [] [0, 2, 4] (m2 := [(0, Sl.v a0), (2, .pointer (some (pt b1 0))), (4, Sl.v r2)]) (by kernel_rfl) (by kernel_rfl) ?_
  refine OJ.nil ?_
  refine SJ.seq (by kernel_rfl) ?_
  refine SJ.region (id := 3) (by kernel_rfl) [0, 1, 2, 3, 4, 5, 6] (by kernel_rfl) ?_
  refine OJ.run [0] [1, 2, 3, 4, 5, 6] [0, 2, 4, 15] (m2 := [(0, Sl.v a0), (2, .pointer (some (pt b1 0))), (4, Sl.v r2), (15, Sl.v r2)]) (by kernel_rfl) (by kernel_rfl) ?_
  refine OJ.call (d := 16) (g := 38) (ats := #[27]) (args := [.tmp 15]) (vals := [Sl.v r2]) (owed := []) (by kernel_rfl) F38 (by kernel_rfl) (queue_New_ok r2) (by kernel_rfl) (by kernel_rfl) (by kernel_rfl) (fun r3 => ?_)
  refine OW.nil ?_
  refine OJ.run [2, 3, 4, 5, 6] [] [0, 2, 4, 5, 6] (m2 := [(0, Sl.v a0), (2, .pointer (some (pt b1 0))), (4, Sl.v r2), (5, .pointer r3.1), (6, .int .i64 r3.2)]) (by kernel_rfl) (by kernel_rfl) ?_
  refine OJ.nil ?_
  refine SJ.seq (by kernel_rfl) ?_
  refine SJ.region (id := 4) (by kernel_rfl) [0, 1, 2, 3, 4, 5, 6, 7] (by kernel_rfl) ?_
  refine OJ.run [0] [1, 2, 3, 4, 5, 6, 7] [0, 2, 4, 5, 6, 20] (m2 := [(0, Sl.v a0), (2, .pointer (some (pt b1 0))), (4, Sl.v r2), (5, .pointer r3.1), (6, .int .i64 r3.2), (20, Sl.v a0)]) (by kernel_rfl) (by kernel_rfl) ?_
  refine OJ.call (d := 21) (g := 41) (ats := #[27]) (args := [.tmp 20]) (vals := [Sl.v a0]) (owed := []) (by kernel_rfl) F41 (by kernel_rfl) (weirref18_New_ok a0) (by kernel_rfl) (by kernel_rfl) (by kernel_rfl) (fun r4 => ?_)
  refine OW.nil ?_
  refine OJ.run [2, 3, 4] [5, 6, 7] [0, 2, 4, 5, 6, 22, 23] (m2 := [(0, Sl.v a0), (2, .pointer (some (pt b1 0))), (4, Sl.v r2), (5, .pointer r3.1), (6, .int .i64 r3.2), (22, c_weirref18_Queue.val r4.1), (23, .int .i64 r4.2)]) (by kernel_rfl) (by kernel_rfl) ?_
  refine OJ.slotOf (d := 7) (op := (.alloc 71)) (cd := c_weirref18_Queue) (u := z_weirref18_Queue) (owed := []) (by kernel_rfl) (alloc_run Ty71) (by kernel_rfl) (by kernel_rfl) (by kernel_rfl) (fun b5 => ?_)
  refine OW.nil ?_
  refine OJ.kst (T := 71) (y := .tmp 7) (z := .tmp 22) (cd := c_weirref18_Queue) (u := r4.1) (j := 0) (b := b5) (o := 0) (c_weirref18_Queue.enc r4.1) (h2 := [(b5, c_weirref18_Queue.enc r4.1), (b1, c_weirlaw18_Side.enc z_weirlaw18_Side)]) (owed := []) (by kernel_rfl) (by kernel_rfl) (by kernel_rfl) Ty71 rfl (Upd.whole ((Cod.len _ _).trans (Cod.len _ _).symm)) (by kernel_rfl) (by kernel_rfl) rfl ?_
  refine OW.nil ?_
  refine OJ.run [7] [] [0, 2, 4, 5, 6, 7, 8] (m2 := [(0, Sl.v a0), (2, .pointer (some (pt b1 0))), (4, Sl.v r2), (5, .pointer r3.1), (6, .int .i64 r3.2), (7, .pointer (some (pt b5 0))), (8, .int .i64 r4.2)]) (by kernel_rfl) (by kernel_rfl) ?_
  refine OJ.nil ?_
  refine SJ.seq (by kernel_rfl) ?_
  refine SJ.region (id := 5) (by kernel_rfl) [0] (by kernel_rfl) ?_
  refine OJ.run [0] [] [0, 2, 4, 5, 6, 7, 8, 9] (m2 := [(0, Sl.v a0), (2, .pointer (some (pt b1 0))), (4, Sl.v r2), (5, .pointer r3.1), (6, .int .i64 r3.2), (7, .pointer (some (pt b5 0))), (8, .int .i64 r4.2), (9, .bool true)]) (by kernel_rfl) (by kernel_rfl) ?_
  refine OJ.nil ?_
  refine SJ.seq (by kernel_rfl) ?_
  refine SJ.seq (by kernel_rfl) ?_
  refine SJ.region (id := 6) (by kernel_rfl) [0] (by kernel_rfl) ?_
  refine OJ.run [0] [] [0, 2, 4, 5, 6, 7, 8, 9, 10] (m2 := [(0, Sl.v a0), (2, .pointer (some (pt b1 0))), (4, Sl.v r2), (5, .pointer r3.1), (6, .int .i64 r3.2), (7, .pointer (some (pt b5 0))), (8, .int .i64 r4.2), (9, .bool true), (10, .int .i64 0)]) (by kernel_rfl) (by kernel_rfl) ?_
  refine OJ.nil ?_
  refine SJ.block (id := 0) (by kernel_rfl) ?_
  exact SJ.loop (fun s_ : (Bool × Int) => [(0, Sl.v a0), (2, .pointer (some (pt b1 0))), (4, Sl.v r2), (5, .pointer r3.1), (6, .int .i64 r3.2), (7, .pointer (some (pt b5 0))), (8, .int .i64 r4.2), (9, .bool s_.1), (10, .int .i64 s_.2)]) (fun s_ : (Bool × Int) => [(b5, c_weirref18_Queue.enc r4.1), (b1, c_weirlaw18_Side.enc z_weirlaw18_Side)]) [0, 2, 4, 5, 6, 7, 8, 9, 10] (by kernel_rfl) (by kernel_rfl) rfl (fun _ _ => rfl) (fun s_ => weirlaw18_made.L1_ok a0 b1 r2 r3 r4 b5 s_.1 s_.2)

/-! ### (*weir/queue.line[weir/queue.item]).join: function 45 -/
noncomputable def queue_line_queue_item_join.B : Code := (Try.f45.body).getD .skip
noncomputable def queue_line_queue_item_join.cx : Fx := ⟨Try.prog, 45, Try.f45⟩
noncomputable def queue_line_queue_item_join.out (r_ : Unit) : Value := .tuple #[]
noncomputable def queue_line_queue_item_join.F0 (r_ : Unit) : Reach := .ret (queue_line_queue_item_join.out r_)
noncomputable def queue_line_queue_item_join.K1 (a0 : (Option Addr)) (a1 : queue_item) : M Unit :=
  draw >>= fun _ =>
  nilck a0 >>= fun p36 =>
  ld cL p36 >>= fun x37 =>
  nilck a0 >>= fun p38 =>
  ld (cI .i64) (Addr.add p38 1) >>= fun x39 =>
  nilck a0 >>= fun p40 =>
  ld (cI .i64) (Addr.add p40 2) >>= fun x41 =>
  nilck a0 >>= fun p42 =>
  ld cL p42 >>= fun x43 =>
  chk ((x43.len : Int) ≠ 0) >>= fun _ =>
  idx x37.a x37.len (Int.tmod (IntKind.wrap .i64 (x39 + x41)) (x43.len : Int)) 2 >>= fun p44 =>
  st c_queue_item p44 a1 >>= fun _ =>
  nilck a0 >>= fun p45 =>
  ld (cI .i64) (Addr.add p45 2) >>= fun x46 =>
  nilck a0 >>= fun p47 =>
  st (cI .i64) (Addr.add p47 2) (IntKind.wrap .i64 (x46 + 1)) >>= fun _ =>
  pure ()
theorem queue_line_queue_item_join.K1_ok (a0 : (Option Addr)) (a1 : queue_item) (b1 : Nat) :
    SJ queue_line_queue_item_join.cx [.code (c2 (c2 queue_line_queue_item_join.B))] [(0, .pointer a0), (3, .pointer (some (pt b1 0)))] [(b1, c_queue_item.enc a1)] (queue_line_queue_item_join.K1 a0 a1) queue_line_queue_item_join.F0 := by
  unfold queue_line_queue_item_join.K1
  refine SJ.seq (by kernel_rfl) ?_
  refine SJ.draw (id := 9) (kd := [0, 0, 0, 1, 0, 0, 0, 1, 0, 0, 0, 1, 0, 0, 0, 0, 1, 0, 0, 1, 0, 2]) (bef := [0, 1, 3, 7, 0, 16, 48, 112, 0, 256, 768, 1792, 4080, 0, 8192, 24576, 57344, 122880, 262128, 0, 1048575, 2097151]) (ord := [0, 1, 2, 3, 4, 5, 6, 7, 8, 9, 10, 11, 12, 13, 14, 15, 16, 17, 18, 19, 20, 21]) (by kernel_rfl) mixed (by kernel_rfl) ?_
  refine OJ.run [0] [1, 2, 3, 4, 5, 6, 7, 8, 9, 10, 11, 12, 13, 14, 15, 16, 17, 18, 19, 20, 21] [0, 3, 59] (m2 := [(0, .pointer a0), (3, .pointer (some (pt b1 0))), (59, .pointer a0)]) (by kernel_rfl) (by kernel_rfl) ?_
  refine OJ.nilck (d := 60) (y := .tmp 59) (by kernel_rfl) (by kernel_rfl) (by kernel_rfl) (by kernel_rfl) (by kernel_rfl) (fun p36 => ?_)
  refine OJ.run [2] [3, 4, 5, 6, 7, 8, 9, 10, 11, 12, 13, 14, 15, 16, 17, 18, 19, 20, 21] [0, 3, 61] (m2 := [(0, .pointer a0), (3, .pointer (some (pt b1 0))), (61, .pointer (some p36))]) (by kernel_rfl) (by kernel_rfl) ?_
  refine OJ.ld (d := 62) (T := 100) (y := .tmp 61) (pend2 := fun x37 => [⟨3, 100, p36, cL.val x37⟩]) (by kernel_rfl) (by kernel_rfl) Ty100 (by kernel_rfl) (by kernel_rfl) (fun _ => rfl) (fun x37 => ?_)
  refine OJ.run [4] [5, 6, 7, 8, 9, 10, 11, 12, 13, 14, 15, 16, 17, 18, 19, 20, 21] [0, 3, 62, 63] (m2 := [(0, .pointer a0), (3, .pointer (some (pt b1 0))), (62, Sl.v x37), (63, .pointer a0)]) (by kernel_rfl) (by kernel_rfl) ?_
  refine OJ.nilck (d := 64) (y := .tmp 63) (by kernel_rfl) (by kernel_rfl) (by kernel_rfl) (by kernel_rfl) (by kernel_rfl) (fun p38 => ?_)
  refine OJ.run [6] [7, 8, 9, 10, 11, 12, 13, 14, 15, 16, 17, 18, 19, 20, 21] [0, 3, 62, 65] (m2 := [(0, .pointer a0), (3, .pointer (some (pt b1 0))), (62, Sl.v x37), (65, .pointer (some (Addr.add p38 1)))]) (by kernel_rfl) (by kernel_rfl) ?_
  refine OJ.ld (d := 66) (T := 3) (y := .tmp 65) (pend2 := fun x39 => [⟨7, 3, (Addr.add p38 1), (cI .i64).val x39⟩, ⟨3, 100, p36, cL.val x37⟩]) (by kernel_rfl) (by kernel_rfl) Ty3 (by kernel_rfl) (by kernel_rfl) (fun _ => rfl) (fun x39 => ?_)
  refine OJ.run [8] [9, 10, 11, 12, 13, 14, 15, 16, 17, 18, 19, 20, 21] [0, 3, 62, 66, 67] (m2 := [(0, .pointer a0), (3, .pointer (some (pt b1 0))), (62, Sl.v x37), (66, .int .i64 x39), (67, .pointer a0)]) (by kernel_rfl) (by kernel_rfl) ?_
  refine OJ.nilck (d := 68) (y := .tmp 67) (by kernel_rfl) (by kernel_rfl) (by kernel_rfl) (by kernel_rfl) (by kernel_rfl) (fun p40 => ?_)
  refine OJ.run [10] [11, 12, 13, 14, 15, 16, 17, 18, 19, 20, 21] [0, 3, 62, 66, 69] (m2 := [(0, .pointer a0), (3, .pointer (some (pt b1 0))), (62, Sl.v x37), (66, .int .i64 x39), (69, .pointer (some (Addr.add p40 2)))]) (by kernel_rfl) (by kernel_rfl) ?_
  refine OJ.ld (d := 70) (T := 3) (y := .tmp 69) (pend2 := fun x41 => [⟨11, 3, (Addr.add p40 2), (cI .i64).val x41⟩, ⟨7, 3, (Addr.add p38 1), (cI .i64).val x39⟩, ⟨3, 100, p36, cL.val x37⟩]) (by kernel_rfl) (by kernel_rfl) Ty3 (by kernel_rfl) (by kernel_rfl) (fun _ => rfl) (fun x41 => ?_)
  refine OJ.run [12, 13] [14, 15, 16, 17, 18, 19, 20, 21] [0, 3, 62, 71, 72] (m2 := [(0, .pointer a0), (3, .pointer (some (pt b1 0))), (62, Sl.v x37), (71, .int .i64 (IntKind.wrap .i64 (x39 + x41))), (72, .pointer a0)]) (by kernel_rfl) (by kernel_rfl) ?_
  refine OJ.nilck (d := 73) (y := .tmp 72) (by kernel_rfl) (by kernel_rfl) (by kernel_rfl) (by kernel_rfl) (by kernel_rfl) (fun p42 => ?_)
  refine OJ.run [15] [16, 17, 18, 19, 20, 21] [0, 3, 62, 71, 74] (m2 := [(0, .pointer a0), (3, .pointer (some (pt b1 0))), (62, Sl.v x37), (71, .int .i64 (IntKind.wrap .i64 (x39 + x41))), (74, .pointer (some p42))]) (by kernel_rfl) (by kernel_rfl) ?_
  refine OJ.ld (d := 75) (T := 100) (y := .tmp 74) (pend2 := fun x43 => [⟨16, 100, p42, cL.val x43⟩, ⟨11, 3, (Addr.add p40 2), (cI .i64).val x41⟩, ⟨7, 3, (Addr.add p38 1), (cI .i64).val x39⟩, ⟨3, 100, p36, cL.val x37⟩]) (by kernel_rfl) (by kernel_rfl) Ty100 (by kernel_rfl) (by kernel_rfl) (fun _ => rfl) (fun x43 => ?_)
  refine OJ.run [17] [18, 19, 20, 21] [0, 3, 62, 71, 76] (m2 := [(0, .pointer a0), (3, .pointer (some (pt b1 0))), (62, Sl.v x37), (71, .int .i64 (IntKind.wrap .i64 (x39 + x41))), (76, .int .i64 (x43.len : Int))]) (by kernel_rfl) (by kernel_rfl) ?_
  refine OJ.rem (d := 77) (T := 3) (yT := 3) (y := .tmp 71) (z := .tmp 76) (p := (IntKind.wrap .i64 (x39 + x41))) (q := (x43.len : Int)) (k := .i64) (by kernel_rfl) (by kernel_rfl) (by kernel_rfl) (by kernel_rfl) (by kernel_rfl) (by kernel_rfl) (fun hq48 => ?_)
  refine OJ.kld (d := 78) (T := 107) (y := .tmp 3) (cd := c_queue_item) (j := 0) (b := b1) (o := 0) a1 (pend2 := [⟨19, 107, (pt b1 0), c_queue_item.val a1⟩, ⟨16, 100, p42, cL.val x43⟩, ⟨11, 3, (Addr.add p40 2), (cI .i64).val x41⟩, ⟨7, 3, (Addr.add p38 1), (cI .i64).val x39⟩, ⟨3, 100, p36, cL.val x37⟩]) (by kernel_rfl) (by kernel_rfl) Ty107 (by kernel_rfl) rfl (At.whole _) (by kernel_rfl) rfl ?_
  refine OJ.idxS (d := 79) (T := 100) (y := .tmp 62) (j := .tmp 77) (E := 107) (cap := x37.cap) (k := .i64) (by kernel_rfl) (by kernel_rfl) (by kernel_rfl) (by kernel_rfl) (by kernel_rfl) (by kernel_rfl) (by kernel_rfl) (by kernel_rfl) (fun p44 => ?_)
  refine OJ.st (T := 107) (y := .tmp 79) (z := .tmp 78) (owed := []) (by kernel_rfl) (by kernel_rfl) (by kernel_rfl) Ty107 (by kernel_rfl) (by kernel_rfl) ?_
  refine OW.nil ?_
  refine OJ.nil ?_
  refine SJ.region (id := 10) (by kernel_rfl) [0, 1, 2, 3, 4, 5, 6, 7] (by kernel_rfl) ?_
  refine OJ.run [0] [1, 2, 3, 4, 5, 6, 7] [80] (m2 := [(80, .pointer a0)]) (by kernel_rfl) (by kernel_rfl) ?_
  refine OJ.nilck (d := 81) (y := .tmp 80) (by kernel_rfl) (by kernel_rfl) (by kernel_rfl) (by kernel_rfl) (by kernel_rfl) (fun p45 => ?_)
  refine OJ.run [2] [3, 4, 5, 6, 7] [80, 82] (m2 := [(80, .pointer a0), (82, .pointer (some (Addr.add p45 2)))]) (by kernel_rfl) (by kernel_rfl) ?_
  refine OJ.ld (d := 83) (T := 3) (y := .tmp 82) (pend2 := fun x46 => []) (by kernel_rfl) (by kernel_rfl) Ty3 (by kernel_rfl) (by kernel_rfl) (fun _ => rfl) (fun x46 => ?_)
  refine OJ.run [4] [5, 6, 7] [80, 84] (m2 := [(80, .pointer a0), (84, .int .i64 (IntKind.wrap .i64 (x46 + 1)))]) (by kernel_rfl) (by kernel_rfl) ?_
  refine OJ.nilck (d := 85) (y := .tmp 80) (by kernel_rfl) (by kernel_rfl) (by kernel_rfl) (by kernel_rfl) (by kernel_rfl) (fun p47 => ?_)
  refine OJ.run [6] [7] [84, 86] (m2 := [(84, .int .i64 (IntKind.wrap .i64 (x46 + 1))), (86, .pointer (some (Addr.add p47 2)))]) (by kernel_rfl) (by kernel_rfl) ?_
  refine OJ.st (T := 3) (y := .tmp 86) (z := .tmp 84) (owed := []) (by kernel_rfl) (by kernel_rfl) (by kernel_rfl) Ty3 (by kernel_rfl) (by kernel_rfl) ?_
  refine OW.nil ?_
  refine OJ.nil ?_
  exact SJ.end_ rfl (Res.run (ys := []) .nil rfl)
noncomputable def queue_line_queue_item_join.K2 (a0 : (Option Addr)) (a1 : queue_item) (r51 : Sl) : M Unit :=
  nilck a0 >>= fun p66 =>
  st cL p66 r51 >>= fun _ =>
  nilck a0 >>= fun p67 =>
  st (cI .i64) (Addr.add p67 1) 0 >>= fun _ =>
  queue_line_queue_item_join.K1 a0 a1
theorem queue_line_queue_item_join.K2_ok (a0 : (Option Addr)) (a1 : queue_item) (b1 : Nat) (r51 : Sl) :
    SJ queue_line_queue_item_join.cx [.code (c2 (c2 (c1 (c2 (c1 (c2 queue_line_queue_item_join.B)))))), .code (c2 (c2 queue_line_queue_item_join.B))] [(0, .pointer a0), (3, .pointer (some (pt b1 0))), (4, Sl.v r51)] [(b1, c_queue_item.enc a1)] (queue_line_queue_item_join.K2 a0 a1 r51) queue_line_queue_item_join.F0 := by
  unfold queue_line_queue_item_join.K2
  refine SJ.region (id := 8) (by kernel_rfl) [0, 1, 2, 3, 4, 5, 6, 7, 8] (by kernel_rfl) ?_
  refine OJ.run [0, 1, 2] [3, 4, 5, 6, 7, 8] [0, 3, 52, 53, 54] (m2 := [(0, .pointer a0), (3, .pointer (some (pt b1 0))), (52, .pointer a0), (53, .pointer a0), (54, Sl.v r51)]) (by kernel_rfl) (by kernel_rfl) ?_
  refine OJ.nilck (d := 55) (y := .tmp 52) (by kernel_rfl) (by kernel_rfl) (by kernel_rfl) (by kernel_rfl) (by kernel_rfl) (fun p66 => ?_)
  refine OJ.run [4] [5, 6, 7, 8] [0, 3, 53, 54, 56] (m2 := [(0, .pointer a0), (3, .pointer (some (pt b1 0))), (53, .pointer a0), (54, Sl.v r51), (56, .pointer (some p66))]) (by kernel_rfl) (by kernel_rfl) ?_
  refine OJ.st (T := 100) (y := .tmp 56) (z := .tmp 54) (owed := []) (by kernel_rfl) (by kernel_rfl) (by kernel_rfl) Ty100 (by kernel_rfl) (by kernel_rfl) ?_
  refine OW.nil ?_
  refine OJ.nilck (d := 57) (y := .tmp 53) (by kernel_rfl) (by kernel_rfl) (by kernel_rfl) (by kernel_rfl) (by kernel_rfl) (fun p67 => ?_)
  refine OJ.run [7] [8] [0, 3, 58] (m2 := [(0, .pointer a0), (3, .pointer (some (pt b1 0))), (58, .pointer (some (Addr.add p67 1)))]) (by kernel_rfl) (by kernel_rfl) ?_
  refine OJ.st (T := 3) (y := .tmp 58) (z := .const (.int .i64 0)) (owed := []) (by kernel_rfl) (by kernel_rfl) (by kernel_rfl) Ty3 (by kernel_rfl) (by kernel_rfl) ?_
  refine OW.nil ?_
  refine OJ.nil ?_
  refine SJ.less [0, 3] (m' := [(0, .pointer a0), (3, .pointer (some (pt b1 0)))]) (by kernel_rfl) ?_
  exact queue_line_queue_item_join.K1_ok a0 a1 b1
noncomputable def queue_line_queue_item_join.F1 (a0 : (Option Addr)) (a1 : queue_item) (b1 : Nat) (r51 : Sl) (x53 : Int) : (LS Int Unit) → Reach := loopF [.inLoop (c1 (c1 (c2 (c1 (c2 (c1 (c2 (c1 (c2 queue_line_queue_item_join.B))))))))), .inBlock 0, .code (c2 (c2 (c1 (c2 (c1 (c2 queue_line_queue_item_join.B)))))), .code (c2 (c2 queue_line_queue_item_join.B))] (fun s_ : Int => [(0, .pointer a0), (3, .pointer (some (pt b1 0))), (4, Sl.v r51), (26, .int .i64 x53), (27, .int .i64 s_)]) (fun s_ : Int => [(b1, c_queue_item.enc a1)]) queue_line_queue_item_join.F0
noncomputable def queue_line_queue_item_join.L1 (a0 : (Option Addr)) (a1 : queue_item) (r51 : Sl) (x53 : Int) (s54 : Int) : M (LS Int Unit) :=
  if s54 < x53 then
    draw >>= fun _ =>
    nilck a0 >>= fun p68 =>
    ld cL p68 >>= fun x69 =>
    nilck a0 >>= fun p70 =>
    ld (cI .i64) (Addr.add p70 1) >>= fun x71 =>
    nilck a0 >>= fun p72 =>
    ld cL p72 >>= fun x73 =>
    chk ((x73.len : Int) ≠ 0) >>= fun _ =>
    idx x69.a x69.len (Int.tmod (IntKind.wrap .i64 (x71 + s54)) (x73.len : Int)) 2 >>= fun p74 =>
    ld c_queue_item p74 >>= fun x75 =>
    idx r51.a r51.len s54 2 >>= fun p76 =>
    st c_queue_item p76 x75 >>= fun _ =>
    pure (LS.next (IntKind.wrap .i64 (s54 + 1)))
  else
    (queue_line_queue_item_join.K2 a0 a1 r51) >>= fun b => pure (LS.done b)
theorem queue_line_queue_item_join.L1_ok (a0 : (Option Addr)) (a1 : queue_item) (b1 : Nat) (r51 : Sl) (x53 : Int) (s54 : Int) :
    SJ queue_line_queue_item_join.cx [.code (c1 (c1 (c2 (c1 (c2 (c1 (c2 (c1 (c2 queue_line_queue_item_join.B))))))))), .inLoop (c1 (c1 (c2 (c1 (c2 (c1 (c2 (c1 (c2 queue_line_queue_item_join.B))))))))), .inBlock 0, .code (c2 (c2 (c1 (c2 (c1 (c2 queue_line_queue_item_join.B)))))), .code (c2 (c2 queue_line_queue_item_join.B))] [(0, .pointer a0), (3, .pointer (some (pt b1 0))), (4, Sl.v r51), (26, .int .i64 x53), (27, .int .i64 s54)] [(b1, c_queue_item.enc a1)] (queue_line_queue_item_join.L1 a0 a1 r51 x53 s54) (queue_line_queue_item_join.F1 a0 a1 b1 r51 x53) := by
  unfold queue_line_queue_item_join.L1
  refine SJ.seq (by kernel_rfl) ?_
  refine SJ.region (id := 4) (by kernel_rfl) [0] (by kernel_rfl) ?_
  refine OJ.run [0] [] [0, 3, 4, 26, 27, 28] (m2 := [(0, .pointer a0), (3, .pointer (some (pt b1 0))), (4, Sl.v r51), (26, .int .i64 x53), (27, .int .i64 s54), (28, .bool (decide (s54 < x53)))]) (by kernel_rfl) (by kernel_rfl) ?_
  refine OJ.nil ?_
  refine SJ.seq (by kernel_rfl) ?_
  refine SJ.cond (t := (.tmp 28)) (b := decide (s54 < x53)) (by kernel_rfl) (by kernel_rfl) decide_eq_true_iff (fun hc78 => ?_) (fun hc78 => ?_)
  · refine SJ.skip (by kernel_rfl) ?_
    refine SJ.seq (by kernel_rfl) ?_
    refine SJ.block (id := 1) (by kernel_rfl) ?_
    refine SJ.seq (by kernel_rfl) ?_
    refine SJ.region (id := 5) (by kernel_rfl) [0, 1] (by kernel_rfl) ?_
    refine OJ.run [0, 1] [] [0, 3, 4, 26, 27, 5] (m2 := [(0, .pointer a0), (3, .pointer (some (pt b1 0))), (4, Sl.v r51), (26, .int .i64 x53), (27, .int .i64 s54), (5, .int .i64 s54)]) (by kernel_rfl) (by kernel_rfl) ?_
    refine OJ.nil ?_
    refine SJ.draw (id := 6) (kd := [0, 0, 0, 0, 0, 1, 0, 0, 0, 1, 0, 0, 0, 0, 0, 1, 0, 0, 0, 1, 0, 2]) (bef := [0, 0, 0, 4, 12, 28, 0, 64, 192, 448, 0, 1984, 0, 4096, 12288, 28672, 61440, 131008, 262140, 524284, 1048575, 2097151]) (ord := [0, 1, 2, 3, 4, 5, 6, 7, 8, 9, 10, 11, 12, 13, 14, 15, 16, 17, 18, 19, 20, 21]) (by kernel_rfl) mixed (by kernel_rfl) ?_
    refine OJ.run [0, 1, 2] [3, 4, 5, 6, 7, 8, 9, 10, 11, 12, 13, 14, 15, 16, 17, 18, 19, 20, 21] [0, 3, 4, 26, 27, 5, 30, 31, 32] (m2 := [(0, .pointer a0), (3, .pointer (some (pt b1 0))), (4, Sl.v r51), (26, .int .i64 x53), (27, .int .i64 s54), (5, .int .i64 s54), (30, Sl.v r51), (31, .int .i64 s54), (32, .pointer a0)]) (by kernel_rfl) (by kernel_rfl) ?_
    refine OJ.nilck (d := 33) (y := .tmp 32) (by kernel_rfl) (by kernel_rfl) (by kernel_rfl) (by kernel_rfl) (by kernel_rfl) (fun p68 => ?_)
    refine OJ.run [4] [5, 6, 7, 8, 9, 10, 11, 12, 13, 14, 15, 16, 17, 18, 19, 20, 21] [0, 3, 4, 26, 27, 5, 30, 31, 34] (m2 := [(0, .pointer a0), (3, .pointer (some (pt b1 0))), (4, Sl.v r51), (26, .int .i64 x53), (27, .int .i64 s54), (5, .int .i64 s54), (30, Sl.v r51), (31, .int .i64 s54), (34, .pointer (some p68))]) (by kernel_rfl) (by kernel_rfl) ?_
    refine OJ.ld (d := 35) (T := 100) (y := .tmp 34) (pend2 := fun x69 => [⟨5, 100, p68, cL.val x69⟩]) (by kernel_rfl) (by kernel_rfl) Ty100 (by kernel_rfl) (by kernel_rfl) (fun _ => rfl) (fun x69 => ?_)
    refine OJ.run [6] [7, 8, 9, 10, 11, 12, 13, 14, 15, 16, 17, 18, 19, 20, 21] [0, 3, 4, 26, 27, 5, 30, 31, 35, 36] (m2 := [(0, .pointer a0), (3, .pointer (some (pt b1 0))), (4, Sl.v r51), (26, .int .i64 x53), (27, .int .i64 s54), (5, .int .i64 s54), (30, Sl.v r51), (31, .int .i64 s54), (35, Sl.v x69), (36, .pointer a0)]) (by kernel_rfl) (by kernel_rfl) ?_
    refine OJ.nilck (d := 37) (y := .tmp 36) (by kernel_rfl) (by kernel_rfl) (by kernel_rfl) (by kernel_rfl) (by kernel_rfl) (fun p70 => ?_)
    refine OJ.run [8] [9, 10, 11, 12, 13, 14, 15, 16, 17, 18, 19, 20, 21] [0, 3, 4, 26, 27, 5, 30, 31, 35, 38] (m2 := [(0, .pointer a0), (3, .pointer (some (pt b1 0))), (4, Sl.v r51), (26, .int .i64 x53), (27, .int .i64 s54), (5, .int .i64 s54), (30, Sl.v r51), (31, .int .i64 s54), (35, Sl.v x69), (38, .pointer (some (Addr.add p70 1)))]) (by kernel_rfl) (by kernel_rfl) ?_
    refine OJ.ld (d := 39) (T := 3) (y := .tmp 38) (pend2 := fun x71 => [⟨9, 3, (Addr.add p70 1), (cI .i64).val x71⟩, ⟨5, 100, p68, cL.val x69⟩]) (by kernel_rfl) (by kernel_rfl) Ty3 (by kernel_rfl) (by kernel_rfl) (fun _ => rfl) (fun x71 => ?_)
    refine OJ.run [10, 11, 12] [13, 14, 15, 16, 17, 18, 19, 20, 21] [0, 3, 4, 26, 27, 30, 31, 35, 41, 42] (m2 := [(0, .pointer a0), (3, .pointer (some (pt b1 0))), (4, Sl.v r51), (26, .int .i64 x53), (27, .int .i64 s54), (30, Sl.v r51), (31, .int .i64 s54), (35, Sl.v x69), (41, .int .i64 (IntKind.wrap .i64 (x71 + s54))), (42, .pointer a0)]) (by kernel_rfl) (by kernel_rfl) ?_
    refine OJ.nilck (d := 43) (y := .tmp 42) (by kernel_rfl) (by kernel_rfl) (by kernel_rfl) (by kernel_rfl) (by kernel_rfl) (fun p72 => ?_)
    refine OJ.run [14] [15, 16, 17, 18, 19, 20, 21] [0, 3, 4, 26, 27, 30, 31, 35, 41, 44] (m2 := [(0, .pointer a0), (3, .pointer (some (pt b1 0))), (4, Sl.v r51), (26, .int .i64 x53), (27, .int .i64 s54), (30, Sl.v r51), (31, .int .i64 s54), (35, Sl.v x69), (41, .int .i64 (IntKind.wrap .i64 (x71 + s54))), (44, .pointer (some p72))]) (by kernel_rfl) (by kernel_rfl) ?_
    refine OJ.ld (d := 45) (T := 100) (y := .tmp 44) (pend2 := fun x73 => [⟨15, 100, p72, cL.val x73⟩, ⟨9, 3, (Addr.add p70 1), (cI .i64).val x71⟩, ⟨5, 100, p68, cL.val x69⟩]) (by kernel_rfl) (by kernel_rfl) Ty100 (by kernel_rfl) (by kernel_rfl) (fun _ => rfl) (fun x73 => ?_)
    refine OJ.run [16] [17, 18, 19, 20, 21] [0, 3, 4, 26, 27, 30, 31, 35, 41, 46] (m2 := [(0, .pointer a0), (3, .pointer (some (pt b1 0))), (4, Sl.v r51), (26, .int .i64 x53), (27, .int .i64 s54), (30, Sl.v r51), (31, .int .i64 s54), (35, Sl.v x69), (41, .int .i64 (IntKind.wrap .i64 (x71 + s54))), (46, .int .i64 (x73.len : Int))]) (by kernel_rfl) (by kernel_rfl) ?_
    refine OJ.rem (d := 47) (T := 3) (yT := 3) (y := .tmp 41) (z := .tmp 46) (p := (IntKind.wrap .i64 (x71 + s54))) (q := (x73.len : Int)) (k := .i64) (by kernel_rfl) (by kernel_rfl) (by kernel_rfl) (by kernel_rfl) (by kernel_rfl) (by kernel_rfl) (fun hq77 => ?_)
    refine OJ.idxS (d := 48) (T := 100) (y := .tmp 35) (j := .tmp 47) (E := 107) (cap := x69.cap) (k := .i64) (by kernel_rfl) (by kernel_rfl) (by kernel_rfl) (by kernel_rfl) (by kernel_rfl) (by kernel_rfl) (by kernel_rfl) (by kernel_rfl) (fun p74 => ?_)
    refine OJ.ld (d := 49) (T := 107) (y := .tmp 48) (pend2 := fun x75 => [⟨19, 107, p74, c_queue_item.val x75⟩, ⟨15, 100, p72, cL.val x73⟩, ⟨9, 3, (Addr.add p70 1), (cI .i64).val x71⟩, ⟨5, 100, p68, cL.val x69⟩]) (by kernel_rfl) (by kernel_rfl) Ty107 (by kernel_rfl) (by kernel_rfl) (fun _ => rfl) (fun x75 => ?_)
    refine OJ.idxS (d := 50) (T := 100) (y := .tmp 30) (j := .tmp 31) (E := 107) (cap := r51.cap) (k := .i64) (by kernel_rfl) (by kernel_rfl) (by kernel_rfl) (by kernel_rfl) (by kernel_rfl) (by kernel_rfl) (by kernel_rfl) (by kernel_rfl) (fun p76 => ?_)
    refine OJ.st (T := 107) (y := .tmp 50) (z := .tmp 49) (owed := []) (by kernel_rfl) (by kernel_rfl) (by kernel_rfl) Ty107 (by kernel_rfl) (by kernel_rfl) ?_
    refine OW.nil ?_
    refine OJ.nil ?_
    refine SJ.inBlock ?_
    refine SJ.region (id := 7) (by kernel_rfl) [0, 1] (by kernel_rfl) ?_
    refine OJ.run [0, 1] [] [0, 3, 4, 26, 27] (m2 := [(0, .pointer a0), (3, .pointer (some (pt b1 0))), (4, Sl.v r51), (26, .int .i64 x53), (27, .int .i64 (IntKind.wrap .i64 (s54 + 1)))]) (by kernel_rfl) (by kernel_rfl) ?_
    refine OJ.nil ?_
    exact SJ.at_ [0, 3, 4, 26, 27] rfl (by kernel_rfl)
  · refine SJ.exit (id := 0) (by kernel_rfl) (by rfl) ?_
    refine SJ.less [0, 3, 4] (m' := [(0, .pointer a0), (3, .pointer (some (pt b1 0))), (4, Sl.v r51)]) (by kernel_rfl) ?_
    refine SJ.done ?_
    exact queue_line_queue_item_join.K2_ok a0 a1 b1 r51
noncomputable def queue_line_queue_item_join (a0 : (Option Addr)) (a1 : queue_item) : M Unit :=
  slot 107 >>= fun b1 =>
  draw >>= fun _ =>
  nilck a0 >>= fun p2 =>
  ld (cI .i64) (Addr.add p2 2) >>= fun x3 =>
  nilck a0 >>= fun p4 =>
  ld cL p4 >>= fun x5 =>
  if x3 = (x5.len : Int) then
    nilck a0 >>= fun p49 =>
    ld (cI .i64) (Addr.add p49 2) >>= fun x50 =>
    mkS c_queue_item 107 16 z_queue_item (IntKind.wrap .i64 ((IntKind.wrap .i64 (2 * x50)) + 4)) (IntKind.wrap .i64 ((IntKind.wrap .i64 (2 * x50)) + 4)) >>= fun r51 =>
    nilck a0 >>= fun p52 =>
    ld (cI .i64) (Addr.add p52 2) >>= fun x53 =>
    loopM (fun s_ : Int => queue_line_queue_item_join.L1 a0 a1 r51 x53 s_) 0
  else
    queue_line_queue_item_join.K1 a0 a1
theorem queue_line_queue_item_join_ok (a0 : (Option Addr)) (a1 : queue_item) : Ref Try.prog 45 [.pointer a0, c_queue_item.val a1] (queue_line_queue_item_join a0 a1) queue_line_queue_item_join.out := by
  refine Ref.of (cd := queue_line_queue_item_join.B) Try.func45 (by kernel_rfl) (by kernel_rfl) ?_
  show SJ queue_line_queue_item_join.cx [.code queue_line_queue_item_join.B] [(0, .pointer a0), (1, c_queue_item.val a1)] [] (queue_line_queue_item_join a0 a1) queue_line_queue_item_join.F0
  unfold queue_line_queue_item_join
  refine SJ.seq (by kernel_rfl) ?_
  refine SJ.region (id := 0) (by kernel_rfl) [0] (by kernel_rfl) ?_
  refine OJ.slotOf (d := 3) (op := (.box 107 (.tmp 1))) (cd := c_queue_item) (u := a1) (owed := []) (by kernel_rfl) (box_run (by kernel_rfl)) (by kernel_rfl) (by kernel_rfl) (by kernel_rfl) (fun b1 => ?_)
  refine OW.nil ?_
  refine OJ.nil ?_
  refine SJ.seq (by kernel_rfl) ?_
  refine SJ.seq (by kernel_rfl) ?_
  refine SJ.draw (id := 1) (kd := [0, 0, 0, 1, 0, 0, 0, 1, 0, 0]) (bef := [0, 1, 3, 7, 0, 16, 48, 112, 240, 511]) (ord := [0, 1, 2, 3, 4, 5, 6, 7, 8, 9]) (by kernel_rfl) mixed (by kernel_rfl) ?_
  refine OJ.run [0] [1, 2, 3, 4, 5, 6, 7, 8, 9] [0, 3, 6] (m2 := [(0, .pointer a0), (3, .pointer (some (pt b1 0))), (6, .pointer a0)]) (by kernel_rfl) (by kernel_rfl) ?_
  refine OJ.nilck (d := 7) (y := .tmp 6) (by kernel_rfl) (by kernel_rfl) (by kernel_rfl) (by kernel_rfl) (by kernel_rfl) (fun p2 => ?_)
  refine OJ.run [2] [3, 4, 5, 6, 7, 8, 9] [0, 3, 8] (m2 := [(0, .pointer a0), (3, .pointer (some (pt b1 0))), (8, .pointer (some (Addr.add p2 2)))]) (by kernel_rfl) (by kernel_rfl) ?_
  refine OJ.ld (d := 9) (T := 3) (y := .tmp 8) (pend2 := fun x3 => [⟨3, 3, (Addr.add p2 2), (cI .i64).val x3⟩]) (by kernel_rfl) (by kernel_rfl) Ty3 (by kernel_rfl) (by kernel_rfl) (fun _ => rfl) (fun x3 => ?_)
  refine OJ.run [4] [5, 6, 7, 8, 9] [0, 3, 9, 10] (m2 := [(0, .pointer a0), (3, .pointer (some (pt b1 0))), (9, .int .i64 x3), (10, .pointer a0)]) (by kernel_rfl) (by kernel_rfl) ?_
  refine OJ.nilck (d := 11) (y := .tmp 10) (by kernel_rfl) (by kernel_rfl) (by kernel_rfl) (by kernel_rfl) (by kernel_rfl) (fun p4 => ?_)
  refine OJ.run [6] [7, 8, 9] [0, 3, 9, 12] (m2 := [(0, .pointer a0), (3, .pointer (some (pt b1 0))), (9, .int .i64 x3), (12, .pointer (some p4))]) (by kernel_rfl) (by kernel_rfl) ?_
  refine OJ.ld (d := 13) (T := 100) (y := .tmp 12) (pend2 := fun x5 => [⟨7, 100, p4, cL.val x5⟩, ⟨3, 3, (Addr.add p2 2), (cI .i64).val x3⟩]) (by kernel_rfl) (by kernel_rfl) Ty100 (by kernel_rfl) (by kernel_rfl) (fun _ => rfl) (fun x5 => ?_)
  refine OJ.run [8, 9] [] [0, 3, 15] (m2 := [(0, .pointer a0), (3, .pointer (some (pt b1 0))), (15, .bool (x3 == (x5.len : Int)))]) (by kernel_rfl) (by kernel_rfl) ?_
  refine OJ.nil ?_
  refine SJ.cond (t := (.tmp 15)) (b := (x3 == (x5.len : Int))) (by kernel_rfl) (by kernel_rfl) beq_iff_eq (fun hc79 => ?_) (fun hc79 => ?_)
  · refine SJ.seq (by kernel_rfl) ?_
    refine SJ.region (id := 2) (by kernel_rfl) [0, 1, 2, 3, 4, 5, 6, 7] (by kernel_rfl) ?_
    refine OJ.run [0] [1, 2, 3, 4, 5, 6, 7] [0, 3, 16] (m2 := [(0, .pointer a0), (3, .pointer (some (pt b1 0))), (16, .pointer a0)]) (by kernel_rfl) (by kernel_rfl) ?_
    refine OJ.nilck (d := 17) (y := .tmp 16) (by kernel_rfl) (by kernel_rfl) (by kernel_rfl) (by kernel_rfl) (by kernel_rfl) (fun p49 => ?_)
    refine OJ.run [2] [3, 4, 5, 6, 7] [0, 3, 18] (m2 := [(0, .pointer a0), (3, .pointer (some (pt b1 0))), (18, .pointer (some (Addr.add p49 2)))]) (by kernel_rfl) (by kernel_rfl) ?_
    refine OJ.ld (d := 19) (T := 3) (y := .tmp 18) (pend2 := fun x50 => []) (by kernel_rfl) (by kernel_rfl) Ty3 (by kernel_rfl) (by kernel_rfl) (fun _ => rfl) (fun x50 => ?_)
    refine OJ.run [4, 5] [6, 7] [0, 3, 21] (m2 := [(0, .pointer a0), (3, .pointer (some (pt b1 0))), (21, .int .i64 (IntKind.wrap .i64 ((IntKind.wrap .i64 (2 * x50)) + 4)))]) (by kernel_rfl) (by kernel_rfl) ?_
    refine OJ.mk (d := 22) (t := 100) (lo := .tmp 21) (ko := .tmp 21) (k1 := .i64) (k2 := .i64) (owed := []) (by kernel_rfl) (by kernel_rfl) Ty107 (by kernel_rfl) (by kernel_rfl) (by kernel_rfl) (by kernel_rfl) (by kernel_rfl) (by kernel_rfl) (fun r51 => ?_)
    refine OW.nil ?_
    refine OJ.run [7] [] [0, 3, 4] (m2 := [(0, .pointer a0), (3, .pointer (some (pt b1 0))), (4, Sl.v r51)]) (by kernel_rfl) (by kernel_rfl) ?_
    refine OJ.nil ?_
    refine SJ.seq (by kernel_rfl) ?_
    refine SJ.seq (by kernel_rfl) ?_
    refine SJ.region (id := 3) (by kernel_rfl) [0, 1, 2, 3, 4] (by kernel_rfl) ?_
    refine OJ.run [0] [1, 2, 3, 4] [0, 3, 4, 23] (m2 := [(0, .pointer a0), (3, .pointer (some (pt b1 0))), (4, Sl.v r51), (23, .pointer a0)]) (by kernel_rfl) (by kernel_rfl) ?_
    refine OJ.nilck (d := 24) (y := .tmp 23) (by kernel_rfl) (by kernel_rfl) (by kernel_rfl) (by kernel_rfl) (by kernel_rfl) (fun p52 => ?_)
    refine OJ.run [2] [3, 4] [0, 3, 4, 25] (m2 := [(0, .pointer a0), (3, .pointer (some (pt b1 0))), (4, Sl.v r51), (25, .pointer (some (Addr.add p52 2)))]) (by kernel_rfl) (by kernel_rfl) ?_
    refine OJ.ld (d := 26) (T := 3) (y := .tmp 25) (pend2 := fun x53 => []) (by kernel_rfl) (by kernel_rfl) Ty3 (by kernel_rfl) (by kernel_rfl) (fun _ => rfl) (fun x53 => ?_)
    refine OJ.run [4] [] [0, 3, 4, 26, 27] (m2 := [(0, .pointer a0), (3, .pointer (some (pt b1 0))), (4, Sl.v r51), (26, .int .i64 x53), (27, .int .i64 0)]) (by kernel_rfl) (by kernel_rfl) ?_
    refine OJ.nil ?_
    refine SJ.block (id := 0) (by kernel_rfl) ?_
    exact SJ.loop (fun s_ : Int => [(0, .pointer a0), (3, .pointer (some (pt b1 0))), (4, Sl.v r51), (26, .int .i64 x53), (27, .int .i64 s_)]) (fun s_ : Int => [(b1, c_queue_item.enc a1)]) [0, 3, 4, 26, 27] (by kernel_rfl) (by kernel_rfl) rfl (fun _ _ => rfl) (fun s_ => queue_line_queue_item_join.L1_ok a0 a1 b1 r51 x53 s_)
  · refine SJ.skip (by kernel_rfl) ?_
    refine SJ.less [0, 3] (m' := [(0, .pointer a0), (3, .pointer (some (pt b1 0)))]) (by kernel_rfl) ?_
    exact queue_line_queue_item_join.K1_ok a0 a1 b1

/-! ### (*weir/queue.Queue).Push: function 18 -/
noncomputable def queue_Queue_Push.B : Code := (Try.f18.body).getD .skip
noncomputable def queue_Queue_Push.cx : Fx := ⟨Try.prog, 18, Try.f18⟩
noncomputable def queue_Queue_Push.out (r_ : Int) : Value := .int .i64 r_
noncomputable def queue_Queue_Push.F0 (r_ : Int) : Reach := .ret (queue_Queue_Push.out r_)
noncomputable def queue_Queue_Push (a0 : (Option Addr)) (a1 : Int) (a2 : Int) (a3 : Int) : M Int :=
  (if a1 < 0 then
      pure true
    else
      nilck a0 >>= fun p1 =>
      ld cL p1 >>= fun x2 =>
      pure (decide (a1 ≥ (x2.len : Int)))) >>= fun y3 =>
  if y3 = true then
    pure 181
  else
    queue_outside a2 1 65535 >>= fun r4 =>
    if r4 = true then
      pure 182
    else
      nilck a0 >>= fun p5 =>
      ld cL p5 >>= fun x6 =>
      idx x6.a x6.len a1 10 >>= fun p7 =>
      draw >>= fun _ =>
      ld (cI .i64) (Addr.add (Addr.add p7 5) 2) >>= fun x8 =>
      ld (cI .i64) (Addr.add p7 1) >>= fun x9 =>
      (if x8 = x9 then
          pure true
        else
          ld (cI .i64) (Addr.add p7 8) >>= fun x10 =>
          ld (cI .i64) (Addr.add p7 2) >>= fun x11 =>
          pure (decide ((IntKind.wrap .i64 (x10 + a2)) > x11))) >>= fun y12 =>
      if y12 = true then
        pure 183
      else
        queue_line_queue_item_join (some (Addr.add p7 5)) (⟨a2, a3⟩ : queue_item) >>= fun r13 =>
        ld (cI .i64) (Addr.add p7 8) >>= fun x14 =>
        st (cI .i64) (Addr.add p7 8) (IntKind.wrap .i64 (x14 + a2)) >>= fun _ =>
        pure 0
theorem queue_Queue_Push_ok (a0 : (Option Addr)) (a1 : Int) (a2 : Int) (a3 : Int) : Ref Try.prog 18 [.pointer a0, .int .i64 a1, .int .i64 a2, .int .i64 a3] (queue_Queue_Push a0 a1 a2 a3) queue_Queue_Push.out := by
  refine Ref.of (cd := queue_Queue_Push.B) Try.func18 (by kernel_rfl) (by kernel_rfl) ?_
  show SJ queue_Queue_Push.cx [.code queue_Queue_Push.B] [(0, .pointer a0), (1, .int .i64 a1), (2, .int .i64 a2), (3, .int .i64 a3)] [] (queue_Queue_Push a0 a1 a2 a3) queue_Queue_Push.F0
  unfold queue_Queue_Push
  refine SJ.seq (by kernel_rfl) ?_
  refine SJ.region (id := 0) (by kernel_rfl) [0] (by kernel_rfl) ?_
  refine OJ.run [0] [] [0, 1, 2, 3] (m2 := [(0, .pointer a0), (1, .int .i64 a1), (2, .int .i64 a2), (3, .int .i64 a3)]) (by kernel_rfl) (by kernel_rfl) ?_
  refine OJ.nil ?_
  refine SJ.seq (by kernel_rfl) ?_
  refine SJ.seq (by kernel_rfl) ?_
  refine SJ.region (id := 1) (by kernel_rfl) [0, 1, 2, 3, 4, 5, 6, 7, 8, 9, 10] (by kernel_rfl) ?_
  refine OJ.run [0, 1, 2] [3, 4, 5, 6, 7, 8, 9, 10] [0, 1, 2, 3, 12] (m2 := [(0, .pointer a0), (1, .int .i64 a1), (2, .int .i64 a2), (3, .int .i64 a3), (12, .bool (decide (a1 < 0)))]) (by kernel_rfl) (by kernel_rfl) ?_
  refine OJ.join (b := decide (a1 < 0)) [3, 4, 5, 6, 7, 8, 9, 10] [] [0, 1, 2, 3, 20] (fun y3 => [(0, .pointer a0), (1, .int .i64 a1), (2, .int .i64 a2), (3, .int .i64 a3), (20, .bool y3)]) [] [] (by kernel_rfl) (t := 12) (by kernel_rfl) decide_eq_true_iff (fun hp_ => ?_) (fun hp_ => ?_) (by kernel_rfl) (fun _ _ _ _ _ _ h_ => h_) (fun y3 => ?_)
  · refine OJ.run [3, 4, 5, 6, 7, 8, 9, 10] [] [0, 1, 2, 3, 20] (m2 := [(0, .pointer a0), (1, .int .i64 a1), (2, .int .i64 a2), (3, .int .i64 a3), (20, .bool true)]) (by kernel_rfl) (by kernel_rfl) ?_
    exact OJ.nil ⟨(Cov.mem Cov.nil), rfl, _, rfl, by kernel_rfl⟩
  · refine OJ.run [3, 4] [5, 6, 7, 8, 9, 10] [0, 1, 2, 3, 12, 13, 14] (m2 := [(0, .pointer a0), (1, .int .i64 a1), (2, .int .i64 a2), (3, .int .i64 a3), (12, .bool false), (13, .int .i64 a1), (14, .pointer a0)]) (by kernel_rfl) (by kernel_rfl) ?_
    refine OJ.nilck (d := 15) (y := .tmp 14) (by kernel_rfl) (by kernel_rfl) (by kernel_rfl) (by kernel_rfl) (by kernel_rfl) (fun p1 => ?_)
    refine OJ.run [6] [7, 8, 9, 10] [0, 1, 2, 3, 12, 13, 16] (m2 := [(0, .pointer a0), (1, .int .i64 a1), (2, .int .i64 a2), (3, .int .i64 a3), (12, .bool false), (13, .int .i64 a1), (16, .pointer (some p1))]) (by kernel_rfl) (by kernel_rfl) ?_
    refine OJ.ld (d := 17) (T := 92) (y := .tmp 16) (pend2 := fun x2 => []) (by kernel_rfl) (by kernel_rfl) Ty92 (by kernel_rfl) (by kernel_rfl) (fun _ => rfl) (fun x2 => ?_)
    refine OJ.run [8, 9, 10] [] [0, 1, 2, 3, 20] (m2 := [(0, .pointer a0), (1, .int .i64 a1), (2, .int .i64 a2), (3, .int .i64 a3), (20, .bool (decide (a1 ≥ (x2.len : Int))))]) (by kernel_rfl) (by kernel_rfl) ?_
    exact OJ.nil ⟨(Cov.mem Cov.nil), rfl, _, rfl, by kernel_rfl⟩
  · refine OJ.nil ?_
    refine SJ.cond (t := (.tmp 20)) (b := y3) (by kernel_rfl) (by kernel_rfl) Iff.rfl (fun hc17 => ?_) (fun hc17 => ?_)
    · refine SJ.seq (by kernel_rfl) ?_
      refine SJ.region (id := 2) (by kernel_rfl) [0] (by kernel_rfl) ?_
      refine OJ.run [0] [] [8] (m2 := [(8, .int .i64 181)]) (by kernel_rfl) (by kernel_rfl) ?_
      refine OJ.nil ?_
      exact SJ.ret (by kernel_rfl) rfl (Res.run (ys := [.int .i64 181]) (.tmp (by kernel_rfl) .nil) rfl)
    · refine SJ.skip (by kernel_rfl) ?_
      refine SJ.seq (by kernel_rfl) ?_
      refine SJ.seq (by kernel_rfl) ?_
      refine SJ.region (id := 3) (by kernel_rfl) [0, 1] (by kernel_rfl) ?_
      refine OJ.run [0] [1] [0, 1, 2, 3, 21] (m2 := [(0, .pointer a0), (1, .int .i64 a1), (2, .int .i64 a2), (3, .int .i64 a3), (21, .int .i64 a2)]) (by kernel_rfl) (by kernel_rfl) ?_
      refine OJ.call (d := 22) (g := 44) (ats := #[3, 3, 3]) (args := [.tmp 21, .const (.int .i64 1), .const (.int .i64 65535)]) (vals := [.int .i64 a2, .int .i64 1, .int .i64 65535]) (owed := []) (by kernel_rfl) F44 (by kernel_rfl) (queue_outside_ok a2 1 65535) (by kernel_rfl) (by kernel_rfl) (by kernel_rfl) (fun r4 => ?_)
      refine OW.nil ?_
      refine OJ.nil ?_
      refine SJ.cond (t := (.tmp 22)) (b := r4) (by kernel_rfl) (by kernel_rfl) Iff.rfl (fun hc16 => ?_) (fun hc16 => ?_)
      · refine SJ.seq (by kernel_rfl) ?_
        refine SJ.region (id := 4) (by kernel_rfl) [0] (by kernel_rfl) ?_
        refine OJ.run [0] [] [8] (m2 := [(8, .int .i64 182)]) (by kernel_rfl) (by kernel_rfl) ?_
        refine OJ.nil ?_
        exact SJ.ret (by kernel_rfl) rfl (Res.run (ys := [.int .i64 182]) (.tmp (by kernel_rfl) .nil) rfl)
      · refine SJ.skip (by kernel_rfl) ?_
        refine SJ.seq (by kernel_rfl) ?_
        refine SJ.region (id := 5) (by kernel_rfl) [0, 1, 2, 3, 4, 5, 6] (by kernel_rfl) ?_
        refine OJ.run [0] [1, 2, 3, 4, 5, 6] [1, 2, 3, 23] (m2 := [(1, .int .i64 a1), (2, .int .i64 a2), (3, .int .i64 a3), (23, .pointer a0)]) (by kernel_rfl) (by kernel_rfl) ?_
        refine OJ.nilck (d := 24) (y := .tmp 23) (by kernel_rfl) (by kernel_rfl) (by kernel_rfl) (by kernel_rfl) (by kernel_rfl) (fun p5 => ?_)
        refine OJ.run [2] [3, 4, 5, 6] [1, 2, 3, 25] (m2 := [(1, .int .i64 a1), (2, .int .i64 a2), (3, .int .i64 a3), (25, .pointer (some p5))]) (by kernel_rfl) (by kernel_rfl) ?_
        refine OJ.ld (d := 26) (T := 92) (y := .tmp 25) (pend2 := fun x6 => []) (by kernel_rfl) (by kernel_rfl) Ty92 (by kernel_rfl) (by kernel_rfl) (fun _ => rfl) (fun x6 => ?_)
        refine OJ.run [4] [5, 6] [2, 3, 26, 27] (m2 := [(2, .int .i64 a2), (3, .int .i64 a3), (26, Sl.v x6), (27, .int .i64 a1)]) (by kernel_rfl) (by kernel_rfl) ?_
        refine OJ.idxS (d := 28) (T := 92) (y := .tmp 26) (j := .tmp 27) (E := 104) (cap := x6.cap) (k := .i64) (by kernel_rfl) (by kernel_rfl) (by kernel_rfl) (by kernel_rfl) (by kernel_rfl) (by kernel_rfl) (by kernel_rfl) (by kernel_rfl) (fun p7 => ?_)
        refine OJ.run [6] [] [2, 3, 9] (m2 := [(2, .int .i64 a2), (3, .int .i64 a3), (9, .pointer (some p7))]) (by kernel_rfl) (by kernel_rfl) ?_
        refine OJ.nil ?_
        refine SJ.seq (by kernel_rfl) ?_
        refine SJ.seq (by kernel_rfl) ?_
        refine SJ.draw (id := 6) (kd := [0, 0, 0, 0, 1, 0, 0, 0, 0, 1, 0, 0, 0, 0, 0, 1, 0, 0, 0, 0, 0, 0, 1, 0, 0]) (bef := [0, 1, 3, 7, 15, 0, 32, 96, 224, 480, 1023, 2047, 4095, 8191, 16383, 32767, 4095, 131071, 4095, 266239, 790527, 1839103, 3936255, 8388607, 16777215]) (ord := [0, 1, 2, 3, 4, 5, 6, 7, 8, 9, 10, 11, 12, 13, 14, 15, 16, 17, 18, 19, 20, 21, 22, 23, 24]) (by kernel_rfl) mixed (by kernel_rfl) ?_
        refine OJ.run [0, 1, 2, 3] [4, 5, 6, 7, 8, 9, 10, 11, 12, 13, 14, 15, 16, 17, 18, 19, 20, 21, 22, 23, 24] [2, 3, 9, 32] (m2 := [(2, .int .i64 a2), (3, .int .i64 a3), (9, .pointer (some p7)), (32, .pointer (some (Addr.add (Addr.add p7 5) 2)))]) (by kernel_rfl) (by kernel_rfl) ?_
        refine OJ.ld (d := 33) (T := 3) (y := .tmp 32) (pend2 := fun x8 => [⟨4, 3, (Addr.add (Addr.add p7 5) 2), (cI .i64).val x8⟩]) (by kernel_rfl) (by kernel_rfl) Ty3 (by kernel_rfl) (by kernel_rfl) (fun _ => rfl) (fun x8 => ?_)
        refine OJ.run [5, 6, 7, 8] [9, 10, 11, 12, 13, 14, 15, 16, 17, 18, 19, 20, 21, 22, 23, 24] [2, 3, 9, 33, 37] (m2 := [(2, .int .i64 a2), (3, .int .i64 a3), (9, .pointer (some p7)), (33, .int .i64 x8), (37, .pointer (some (Addr.add p7 1)))]) (by kernel_rfl) (by kernel_rfl) ?_
        refine OJ.ld (d := 38) (T := 3) (y := .tmp 37) (pend2 := fun x9 => [⟨9, 3, (Addr.add p7 1), (cI .i64).val x9⟩, ⟨4, 3, (Addr.add (Addr.add p7 5) 2), (cI .i64).val x8⟩]) (by kernel_rfl) (by kernel_rfl) Ty3 (by kernel_rfl) (by kernel_rfl) (fun _ => rfl) (fun x9 => ?_)
        refine OJ.run [10, 11] [12, 13, 14, 15, 16, 17, 18, 19, 20, 21, 22, 23, 24] [2, 3, 9, 40] (m2 := [(2, .int .i64 a2), (3, .int .i64 a3), (9, .pointer (some p7)), (40, .bool (x8 == x9))]) (by kernel_rfl) (by kernel_rfl) ?_
        refine OJ.join (b := (x8 == x9)) [12, 13, 14, 15, 16, 17, 18, 19, 20, 21, 22, 23, 24] [] [2, 3, 9, 53] (fun y12 => [(2, .int .i64 a2), (3, .int .i64 a3), (9, .pointer (some p7)), (53, .bool y12)]) [⟨9, 3, (Addr.add p7 1), (cI .i64).val x9⟩, ⟨4, 3, (Addr.add (Addr.add p7 5) 2), (cI .i64).val x8⟩] [15, 22] (by kernel_rfl) (t := 40) (by kernel_rfl) beq_iff_eq (fun hp_ => ?_) (fun hp_ => ?_) (by kernel_rfl) (fun _ _ _ _ _ _ h_ => h_) (fun y12 => ?_)
        · refine OJ.run [12, 13, 14, 15, 16, 17, 18, 19, 20, 21, 22, 23, 24] [] [2, 3, 9, 53] (m2 := [(2, .int .i64 a2), (3, .int .i64 a3), (9, .pointer (some p7)), (53, .bool true)]) (by kernel_rfl) (by kernel_rfl) ?_
          exact OJ.nil ⟨(Cov.mem (Cov.keep (List.mem_of_getElem? (i := 0) rfl) (Cov.keep (List.mem_of_getElem? (i := 1) rfl) Cov.nil))), rfl, _, rfl, by kernel_rfl⟩
        · refine OJ.run [12, 13, 14] [15, 16, 17, 18, 19, 20, 21, 22, 23, 24] [2, 3, 9, 40, 43] (m2 := [(2, .int .i64 a2), (3, .int .i64 a3), (9, .pointer (some p7)), (40, .bool false), (43, .pointer (some (Addr.add p7 8)))]) (by kernel_rfl) (by kernel_rfl) ?_
          refine OJ.ld (d := 44) (T := 3) (y := .tmp 43) (pend2 := fun x10 => [⟨15, 3, (Addr.add p7 8), (cI .i64).val x10⟩, ⟨9, 3, (Addr.add p7 1), (cI .i64).val x9⟩, ⟨4, 3, (Addr.add (Addr.add p7 5) 2), (cI .i64).val x8⟩]) (by kernel_rfl) (by kernel_rfl) Ty3 (by kernel_rfl) (by kernel_rfl) (fun _ => rfl) (fun x10 => ?_)
          refine OJ.run [16, 17, 18, 19, 20, 21] [22, 23, 24] [2, 3, 9, 40, 46, 50] (m2 := [(2, .int .i64 a2), (3, .int .i64 a3), (9, .pointer (some p7)), (40, .bool false), (46, .int .i64 (IntKind.wrap .i64 (x10 + a2))), (50, .pointer (some (Addr.add p7 2)))]) (by kernel_rfl) (by kernel_rfl) ?_
          refine OJ.ld (d := 51) (T := 3) (y := .tmp 50) (pend2 := fun x11 => [⟨22, 3, (Addr.add p7 2), (cI .i64).val x11⟩, ⟨15, 3, (Addr.add p7 8), (cI .i64).val x10⟩, ⟨9, 3, (Addr.add p7 1), (cI .i64).val x9⟩, ⟨4, 3, (Addr.add (Addr.add p7 5) 2), (cI .i64).val x8⟩]) (by kernel_rfl) (by kernel_rfl) Ty3 (by kernel_rfl) (by kernel_rfl) (fun _ => rfl) (fun x11 => ?_)
          refine OJ.run [23, 24] [] [2, 3, 9, 53] (m2 := [(2, .int .i64 a2), (3, .int .i64 a3), (9, .pointer (some p7)), (53, .bool (decide ((IntKind.wrap .i64 (x10 + a2)) > x11)))]) (by kernel_rfl) (by kernel_rfl) ?_
          exact OJ.nil ⟨(Cov.mem (Cov.drop (List.mem_of_getElem? (i := 1) rfl) (Cov.drop (List.mem_of_getElem? (i := 0) rfl) (Cov.keep (List.mem_of_getElem? (i := 0) rfl) (Cov.keep (List.mem_of_getElem? (i := 1) rfl) Cov.nil))))), rfl, _, rfl, by kernel_rfl⟩
        · refine OJ.nil ?_
          refine SJ.cond (t := (.tmp 53)) (b := y12) (by kernel_rfl) (by kernel_rfl) Iff.rfl (fun hc15 => ?_) (fun hc15 => ?_)
          · refine SJ.seq (by kernel_rfl) ?_
            refine SJ.region (id := 7) (by kernel_rfl) [0] (by kernel_rfl) ?_
            refine OJ.run [0] [] [8] (m2 := [(8, .int .i64 183)]) (by kernel_rfl) (by kernel_rfl) ?_
            refine OJ.nil ?_
            exact SJ.ret (by kernel_rfl) rfl (Res.run (ys := [.int .i64 183]) (.tmp (by kernel_rfl) .nil) rfl)
          · refine SJ.skip (by kernel_rfl) ?_
            refine SJ.seq (by kernel_rfl) ?_
            refine SJ.region (id := 8) (by kernel_rfl) [0, 1, 2, 3, 4, 5, 6] (by kernel_rfl) ?_
            refine OJ.run [0, 1, 2, 3, 4] [5, 6] [2, 9, 56, 57, 58] (m2 := [(2, .int .i64 a2), (9, .pointer (some p7)), (56, .pointer (some (Addr.add p7 5))), (57, .int .i64 a2), (58, .int .i64 a3)]) (by kernel_rfl) (by kernel_rfl) ?_
            refine OJ.build (d := 59) (T := 107) (parts := [(0, .tmp 57), (1, .tmp 58)]) (ps := [(0, (cI .i64).val a2), (1, (cI .i64).val a3)]) (cd := c_queue_item) (z0 := z_queue_item) (⟨a2, a3⟩ : queue_item) (by kernel_rfl) (by kernel_rfl) Ty107 rfl (by kernel_rfl) (Filled.cons (cd := (cI .i64)) (q := a2) (o := 0) (by kernel_rfl) (Up_queue_item_size z_queue_item a2) (Filled.cons (cd := (cI .i64)) (q := a3) (o := 1) (by kernel_rfl) (Up_queue_item_id (⟨a2, z_queue_item.id⟩ : queue_item) a3) Filled.nil)) (by kernel_rfl) (by kernel_rfl) (by kernel_rfl) ?_
            refine OJ.call (d := 60) (g := 45) (ats := #[102, 107]) (args := [.tmp 56, .tmp 59]) (vals := [.pointer (some (Addr.add p7 5)), c_queue_item.val (⟨a2, a3⟩ : queue_item)]) (owed := []) (by kernel_rfl) F45 (by kernel_rfl) (queue_line_queue_item_join_ok (some (Addr.add p7 5)) (⟨a2, a3⟩ : queue_item)) (by kernel_rfl) (by kernel_rfl) (by kernel_rfl) (fun r13 => ?_)
            refine OW.nil ?_
            refine OJ.nil ?_
            refine SJ.seq (by kernel_rfl) ?_
            refine SJ.region (id := 9) (by kernel_rfl) [0, 1, 2, 3, 4, 5, 6, 7, 8] (by kernel_rfl) ?_
            refine OJ.run [0, 1, 2] [3, 4, 5, 6, 7, 8] [2, 61, 63] (m2 := [(2, .int .i64 a2), (61, .pointer (some p7)), (63, .pointer (some (Addr.add p7 8)))]) (by kernel_rfl) (by kernel_rfl) ?_
            refine OJ.ld (d := 64) (T := 3) (y := .tmp 63) (pend2 := fun x14 => []) (by kernel_rfl) (by kernel_rfl) Ty3 (by kernel_rfl) (by kernel_rfl) (fun _ => rfl) (fun x14 => ?_)
            refine OJ.run [4, 5, 6, 7] [8] [66, 68] (m2 := [(66, .int .i64 (IntKind.wrap .i64 (x14 + a2))), (68, .pointer (some (Addr.add p7 8)))]) (by kernel_rfl) (by kernel_rfl) ?_
            refine OJ.st (T := 3) (y := .tmp 68) (z := .tmp 66) (owed := []) (by kernel_rfl) (by kernel_rfl) (by kernel_rfl) Ty3 (by kernel_rfl) (by kernel_rfl) ?_
            refine OW.nil ?_
            refine OJ.nil ?_
            refine SJ.seq (by kernel_rfl) ?_
            refine SJ.region (id := 10) (by kernel_rfl) [0] (by kernel_rfl) ?_
            refine OJ.run [0] [] [8] (m2 := [(8, .int .i64 0)]) (by kernel_rfl) (by kernel_rfl) ?_
            refine OJ.nil ?_
            exact SJ.ret (by kernel_rfl) rfl (Res.run (ys := [.int .i64 0]) (.tmp (by kernel_rfl) .nil) rfl)

/-! ### weir/weirref18.Bytes: function 57 -/
noncomputable def weirref18_Bytes.B : Code := (Try.f57.body).getD .skip
noncomputable def weirref18_Bytes.cx : Fx := ⟨Try.prog, 57, Try.f57⟩
noncomputable def weirref18_Bytes.out (r_ : Int) : Value := .int .i64 r_
noncomputable def weirref18_Bytes.F0 (r_ : Int) : Reach := .ret (weirref18_Bytes.out r_)
noncomputable def weirref18_Bytes.F1 (a0 : weirref18_Queue) (a1 : Int) (b1 : Nat) : (LS (Int × Int) Int) → Reach := loopF [.inLoop (c1 (c1 (c2 (c1 (c2 (c2 (c2 weirref18_Bytes.B))))))), .inBlock 0, .code (c2 (c2 (c2 (c2 weirref18_Bytes.B))))] (fun s_ : (Int × Int) => [(1, .int .i64 a1), (2, .pointer (some (pt b1 0))), (5, .int .i64 s_.1), (6, .int .i64 s_.2)]) (fun s_ : (Int × Int) => [(b1, c_weirref18_Queue.enc a0)]) weirref18_Bytes.F0
noncomputable def weirref18_Bytes.L1 (a0 : weirref18_Queue) (a1 : Int) (s3 : Int) (s4 : Int) : M (LS (Int × Int) Int) :=
  idx a0.L.a a0.L.len a1 8 >>= fun p12 =>
  ld cL (Addr.add p12 5) >>= fun x13 =>
  if s4 < (x13.len : Int) then
    idx a0.L.a a0.L.len a1 8 >>= fun p14 =>
    ld cL (Addr.add p14 5) >>= fun x15 =>
    idx x15.a x15.len s4 2 >>= fun p16 =>
    ld (cI .i64) p16 >>= fun x17 =>
    pure (LS.next (IntKind.wrap .i64 (s3 + x17), IntKind.wrap .i64 (s4 + 1)))
  else
    pure (LS.done s3)
theorem weirref18_Bytes.L1_ok (a0 : weirref18_Queue) (a1 : Int) (b1 : Nat) (s3 : Int) (s4 : Int) :
    SJ weirref18_Bytes.cx [.code (c1 (c1 (c2 (c1 (c2 (c2 (c2 weirref18_Bytes.B))))))), .inLoop (c1 (c1 (c2 (c1 (c2 (c2 (c2 weirref18_Bytes.B))))))), .inBlock 0, .code (c2 (c2 (c2 (c2 weirref18_Bytes.B))))] [(1, .int .i64 a1), (2, .pointer (some (pt b1 0))), (5, .int .i64 s3), (6, .int .i64 s4)] [(b1, c_weirref18_Queue.enc a0)] (weirref18_Bytes.L1 a0 a1 s3 s4) (weirref18_Bytes.F1 a0 a1 b1) := by
  unfold weirref18_Bytes.L1
  refine SJ.seq (by kernel_rfl) ?_
  refine SJ.seq (by kernel_rfl) ?_
  refine SJ.region (id := 5) (by kernel_rfl) [0, 1, 2, 3, 4, 5, 6, 7, 8] (by kernel_rfl) ?_
  refine OJ.run [0, 1] [2, 3, 4, 5, 6, 7, 8] [1, 2, 5, 6, 13, 14] (m2 := [(1, .int .i64 a1), (2, .pointer (some (pt b1 0))), (5, .int .i64 s3), (6, .int .i64 s4), (13, .int .i64 s4), (14, .pointer (some (pt b1 0)))]) (by kernel_rfl) (by kernel_rfl) ?_
  refine OJ.kld (d := 15) (T := 69) (y := .tmp 14) (cd := cL) (j := 0) (b := b1) (o := 0) a0.L (pend2 := []) (by kernel_rfl) (by kernel_rfl) Ty69 (by kernel_rfl) rfl (At_weirref18_Queue_L a0) (by kernel_rfl) rfl ?_
  refine OJ.run [3] [4, 5, 6, 7, 8] [1, 2, 5, 6, 13, 15, 16] (m2 := [(1, .int .i64 a1), (2, .pointer (some (pt b1 0))), (5, .int .i64 s3), (6, .int .i64 s4), (13, .int .i64 s4), (15, Sl.v a0.L), (16, .int .i64 a1)]) (by kernel_rfl) (by kernel_rfl) ?_
  refine OJ.idxS (d := 17) (T := 69) (y := .tmp 15) (j := .tmp 16) (E := 116) (cap := a0.L.cap) (k := .i64) (by kernel_rfl) (by kernel_rfl) (by kernel_rfl) (by kernel_rfl) (by kernel_rfl) (by kernel_rfl) (by kernel_rfl) (by kernel_rfl) (fun p12 => ?_)
  refine OJ.run [5] [6, 7, 8] [1, 2, 5, 6, 13, 18] (m2 := [(1, .int .i64 a1), (2, .pointer (some (pt b1 0))), (5, .int .i64 s3), (6, .int .i64 s4), (13, .int .i64 s4), (18, .pointer (some (Addr.add p12 5)))]) (by kernel_rfl) (by kernel_rfl) ?_
  refine OJ.ld (d := 19) (T := 114) (y := .tmp 18) (pend2 := fun x13 => []) (by kernel_rfl) (by kernel_rfl) Ty114 (by kernel_rfl) (by kernel_rfl) (fun _ => rfl) (fun x13 => ?_)
  refine OJ.run [7, 8] [] [1, 2, 5, 6, 21] (m2 := [(1, .int .i64 a1), (2, .pointer (some (pt b1 0))), (5, .int .i64 s3), (6, .int .i64 s4), (21, .bool (decide (s4 < (x13.len : Int))))]) (by kernel_rfl) (by kernel_rfl) ?_
  refine OJ.nil ?_
  refine SJ.cond (t := (.tmp 21)) (b := decide (s4 < (x13.len : Int))) (by kernel_rfl) (by kernel_rfl) decide_eq_true_iff (fun hc18 => ?_) (fun hc18 => ?_)
  · refine SJ.skip (by kernel_rfl) ?_
    refine SJ.seq (by kernel_rfl) ?_
    refine SJ.block (id := 1) (by kernel_rfl) ?_
    refine SJ.region (id := 7) (by kernel_rfl) [0, 1, 2, 3, 4, 5, 6, 7, 8, 9, 10, 11, 12] (by kernel_rfl) ?_
    refine OJ.run [0, 1] [2, 3, 4, 5, 6, 7, 8, 9, 10, 11, 12] [1, 2, 5, 6, 24, 25] (m2 := [(1, .int .i64 a1), (2, .pointer (some (pt b1 0))), (5, .int .i64 s3), (6, .int .i64 s4), (24, .int .i64 s3), (25, .pointer (some (pt b1 0)))]) (by kernel_rfl) (by kernel_rfl) ?_
    refine OJ.kld (d := 26) (T := 69) (y := .tmp 25) (cd := cL) (j := 0) (b := b1) (o := 0) a0.L (pend2 := []) (by kernel_rfl) (by kernel_rfl) Ty69 (by kernel_rfl) rfl (At_weirref18_Queue_L a0) (by kernel_rfl) rfl ?_
    refine OJ.run [3] [4, 5, 6, 7, 8, 9, 10, 11, 12] [1, 2, 5, 6, 24, 26, 27] (m2 := [(1, .int .i64 a1), (2, .pointer (some (pt b1 0))), (5, .int .i64 s3), (6, .int .i64 s4), (24, .int .i64 s3), (26, Sl.v a0.L), (27, .int .i64 a1)]) (by kernel_rfl) (by kernel_rfl) ?_
    refine OJ.idxS (d := 28) (T := 69) (y := .tmp 26) (j := .tmp 27) (E := 116) (cap := a0.L.cap) (k := .i64) (by kernel_rfl) (by kernel_rfl) (by kernel_rfl) (by kernel_rfl) (by kernel_rfl) (by kernel_rfl) (by kernel_rfl) (by kernel_rfl) (fun p14 => ?_)
    refine OJ.run [5] [6, 7, 8, 9, 10, 11, 12] [1, 2, 5, 6, 24, 29] (m2 := [(1, .int .i64 a1), (2, .pointer (some (pt b1 0))), (5, .int .i64 s3), (6, .int .i64 s4), (24, .int .i64 s3), (29, .pointer (some (Addr.add p14 5)))]) (by kernel_rfl) (by kernel_rfl) ?_
    refine OJ.ld (d := 30) (T := 114) (y := .tmp 29) (pend2 := fun x15 => []) (by kernel_rfl) (by kernel_rfl) Ty114 (by kernel_rfl) (by kernel_rfl) (fun _ => rfl) (fun x15 => ?_)
    refine OJ.run [7] [8, 9, 10, 11, 12] [1, 2, 5, 6, 24, 30, 31] (m2 := [(1, .int .i64 a1), (2, .pointer (some (pt b1 0))), (5, .int .i64 s3), (6, .int .i64 s4), (24, .int .i64 s3), (30, Sl.v x15), (31, .int .i64 s4)]) (by kernel_rfl) (by kernel_rfl) ?_
    refine OJ.idxS (d := 32) (T := 114) (y := .tmp 30) (j := .tmp 31) (E := 125) (cap := x15.cap) (k := .i64) (by kernel_rfl) (by kernel_rfl) (by kernel_rfl) (by kernel_rfl) (by kernel_rfl) (by kernel_rfl) (by kernel_rfl) (by kernel_rfl) (fun p16 => ?_)
    refine OJ.run [9] [10, 11, 12] [1, 2, 5, 6, 24, 33] (m2 := [(1, .int .i64 a1), (2, .pointer (some (pt b1 0))), (5, .int .i64 s3), (6, .int .i64 s4), (24, .int .i64 s3), (33, .pointer (some p16))]) (by kernel_rfl) (by kernel_rfl) ?_
    refine OJ.ld (d := 34) (T := 3) (y := .tmp 33) (pend2 := fun x17 => []) (by kernel_rfl) (by kernel_rfl) Ty3 (by kernel_rfl) (by kernel_rfl) (fun _ => rfl) (fun x17 => ?_)
    refine OJ.run [11, 12] [] [1, 2, 5, 6] (m2 := [(1, .int .i64 a1), (2, .pointer (some (pt b1 0))), (5, .int .i64 (IntKind.wrap .i64 (s3 + x17))), (6, .int .i64 s4)]) (by kernel_rfl) (by kernel_rfl) ?_
    refine OJ.nil ?_
    refine SJ.inBlock ?_
    refine SJ.region (id := 6) (by kernel_rfl) [0, 1, 2] (by kernel_rfl) ?_
    refine OJ.run [0, 1, 2] [] [1, 2, 5, 6] (m2 := [(1, .int .i64 a1), (2, .pointer (some (pt b1 0))), (5, .int .i64 (IntKind.wrap .i64 (s3 + x17))), (6, .int .i64 (IntKind.wrap .i64 (s4 + 1)))]) (by kernel_rfl) (by kernel_rfl) ?_
    refine OJ.nil ?_
    exact SJ.at_ [1, 2, 5, 6] rfl (by kernel_rfl)
  · refine SJ.exit (id := 0) (by kernel_rfl) (by rfl) ?_
    refine SJ.seq (by kernel_rfl) ?_
    refine SJ.region (id := 8) (by kernel_rfl) [0, 1] (by kernel_rfl) ?_
    refine OJ.run [0, 1] [] [4] (m2 := [(4, .int .i64 s3)]) (by kernel_rfl) (by kernel_rfl) ?_
    refine OJ.nil ?_
    exact SJ.ret (by kernel_rfl) rfl (Res.run (ys := [.int .i64 s3]) (.tmp (by kernel_rfl) .nil) rfl)
noncomputable def weirref18_Bytes (a0 : weirref18_Queue) (a1 : Int) : M Int :=
  slot 71 >>= fun b1 =>
  weirref18_out a1 0 (IntKind.wrap .i64 ((a0.L.len : Int) - 1)) >>= fun r2 =>
  if r2 = true then
    pure 0
  else
    loopM (fun s_ : (Int × Int) => weirref18_Bytes.L1 a0 a1 s_.1 s_.2) (0, 0)
theorem weirref18_Bytes_ok (a0 : weirref18_Queue) (a1 : Int) : Ref Try.prog 57 [c_weirref18_Queue.val a0, .int .i64 a1] (weirref18_Bytes a0 a1) weirref18_Bytes.out := by
  refine Ref.of (cd := weirref18_Bytes.B) Try.func57 (by kernel_rfl) (by kernel_rfl) ?_
  show SJ weirref18_Bytes.cx [.code weirref18_Bytes.B] [(0, c_weirref18_Queue.val a0), (1, .int .i64 a1)] [] (weirref18_Bytes a0 a1) weirref18_Bytes.F0
  unfold weirref18_Bytes
  refine SJ.seq (by kernel_rfl) ?_
  refine SJ.region (id := 0) (by kernel_rfl) [0, 1] (by kernel_rfl) ?_
  refine OJ.slotOf (d := 2) (op := (.box 71 (.tmp 0))) (cd := c_weirref18_Queue) (u := a0) (owed := []) (by kernel_rfl) (box_run (by kernel_rfl)) (by kernel_rfl) (by kernel_rfl) (by kernel_rfl) (fun b1 => ?_)
  refine OW.nil ?_
  refine OJ.run [1] [] [1, 2] (m2 := [(1, .int .i64 a1), (2, .pointer (some (pt b1 0)))]) (by kernel_rfl) (by kernel_rfl) ?_
  refine OJ.nil ?_
  refine SJ.seq (by kernel_rfl) ?_
  refine SJ.seq (by kernel_rfl) ?_
  refine SJ.region (id := 1) (by kernel_rfl) [0, 1, 2, 3, 4, 5] (by kernel_rfl) ?_
  refine OJ.run [0, 1] [2, 3, 4, 5] [1, 2, 7, 8] (m2 := [(1, .int .i64 a1), (2, .pointer (some (pt b1 0))), (7, .int .i64 a1), (8, .pointer (some (pt b1 0)))]) (by kernel_rfl) (by kernel_rfl) ?_
  refine OJ.kld (d := 9) (T := 69) (y := .tmp 8) (cd := cL) (j := 0) (b := b1) (o := 0) a0.L (pend2 := []) (by kernel_rfl) (by kernel_rfl) Ty69 (by kernel_rfl) rfl (At_weirref18_Queue_L a0) (by kernel_rfl) rfl ?_
  refine OJ.run [3, 4] [5] [1, 2, 7, 11] (m2 := [(1, .int .i64 a1), (2, .pointer (some (pt b1 0))), (7, .int .i64 a1), (11, .int .i64 (IntKind.wrap .i64 ((a0.L.len : Int) - 1)))]) (by kernel_rfl) (by kernel_rfl) ?_
  refine OJ.call (d := 12) (g := 51) (ats := #[3, 3, 3]) (args := [.tmp 7, .const (.int .i64 0), .tmp 11]) (vals := [.int .i64 a1, .int .i64 0, .int .i64 (IntKind.wrap .i64 ((a0.L.len : Int) - 1))]) (owed := []) (by kernel_rfl) F51 (by kernel_rfl) (weirref18_out_ok a1 0 (IntKind.wrap .i64 ((a0.L.len : Int) - 1))) (by kernel_rfl) (by kernel_rfl) (by kernel_rfl) (fun r2 => ?_)
  refine OW.nil ?_
  refine OJ.nil ?_
  refine SJ.cond (t := (.tmp 12)) (b := r2) (by kernel_rfl) (by kernel_rfl) Iff.rfl (fun hc19 => ?_) (fun hc19 => ?_)
  · refine SJ.seq (by kernel_rfl) ?_
    refine SJ.region (id := 2) (by kernel_rfl) [0] (by kernel_rfl) ?_
    refine OJ.run [0] [] [4] (m2 := [(4, .int .i64 0)]) (by kernel_rfl) (by kernel_rfl) ?_
    refine OJ.nil ?_
    exact SJ.ret (by kernel_rfl) rfl (Res.run (ys := [.int .i64 0]) (.tmp (by kernel_rfl) .nil) rfl)
  · refine SJ.skip (by kernel_rfl) ?_
    refine SJ.seq (by kernel_rfl) ?_
    refine SJ.region (id := 3) (by kernel_rfl) [0] (by kernel_rfl) ?_
    refine OJ.run [0] [] [1, 2, 5] (m2 := [(1, .int .i64 a1), (2, .pointer (some (pt b1 0))), (5, .int .i64 0)]) (by kernel_rfl) (by kernel_rfl) ?_
    refine OJ.nil ?_
    refine SJ.seq (by kernel_rfl) ?_
    refine SJ.seq (by kernel_rfl) ?_
    refine SJ.region (id := 4) (by kernel_rfl) [0] (by kernel_rfl) ?_
    refine OJ.run [0] [] [1, 2, 5, 6] (m2 := [(1, .int .i64 a1), (2, .pointer (some (pt b1 0))), (5, .int .i64 0), (6, .int .i64 0)]) (by kernel_rfl) (by kernel_rfl) ?_
    refine OJ.nil ?_
    refine SJ.block (id := 0) (by kernel_rfl) ?_
    exact SJ.loop (fun s_ : (Int × Int) => [(1, .int .i64 a1), (2, .pointer (some (pt b1 0))), (5, .int .i64 s_.1), (6, .int .i64 s_.2)]) (fun s_ : (Int × Int) => [(b1, c_weirref18_Queue.enc a0)]) [1, 2, 5, 6] (by kernel_rfl) (by kernel_rfl) rfl (fun _ _ => rfl) (fun s_ => weirref18_Bytes.L1_ok a0 a1 b1 s_.1 s_.2)
end Go.Proofs.Ytgddbpmfendaeaa.Lx
