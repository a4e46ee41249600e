/- Programs of the M-world for Go functions, each with the proof that the Go text does what it says. Printed by lxgen.py. -/
import Derived.Test.YtgddbpmfendaeaaLxTA
set_option linter.unusedVariables false
set_option linter.unusedSimpArgs false
namespace Go.Proofs.Ytgddbpmfendaeaa.Lx
open Go Go.Proofs
/-! ### weir/addr.Less: function 14 -/
noncomputable def addr_Less.B : Code := (Try.f14.body).getD .skip
noncomputable def addr_Less.cx : Fx := ⟨Try.prog, 14, Try.f14⟩
noncomputable def addr_Less.out (r_ : Bool) : Value := .bool r_
noncomputable def addr_Less.F0 (r_ : Bool) : Reach := .ret (addr_Less.out r_)
noncomputable def addr_Less.F1 (a0 : api_IP) (a1 : api_IP) (b1 : Nat) (b2 : Nat) : (LS Int Bool) → Reach := loopF [.inLoop (c1 (c1 (c2 (c1 (c2 (c2 addr_Less.B)))))), .inBlock 0, .code (c2 (c2 (c2 addr_Less.B)))] (fun s_ : Int => [(2, .pointer (some (pt b1 0))), (3, .pointer (some (pt b2 0))), (16, .int .i64 s_)]) (fun s_ : Int => [(b2, c_api_IP.enc a1), (b1, c_api_IP.enc a0)]) addr_Less.F0
noncomputable def addr_Less.L1 (a0 : api_IP) (a1 : api_IP) (s3 : Int) : M (LS Int Bool) :=
  if s3 < 16 then
    draw >>= fun _ =>
    chk (0 ≤ s3 ∧ s3 < (16 : Nat)) >>= fun _ =>
    chk (0 ≤ s3 ∧ s3 < (16 : Nat)) >>= fun _ =>
    if (Vec.g a0.A s3 0) ≠ (Vec.g a1.A s3 0) then
      draw >>= fun _ =>
      chk (0 ≤ s3 ∧ s3 < (16 : Nat)) >>= fun _ =>
      chk (0 ≤ s3 ∧ s3 < (16 : Nat)) >>= fun _ =>
      pure (LS.done (decide ((Vec.g a0.A s3 0) < (Vec.g a1.A s3 0))))
    else
      pure (LS.next (IntKind.wrap .i64 (s3 + 1)))
  else
    pure (LS.done false)
theorem addr_Less.L1_ok (a0 : api_IP) (a1 : api_IP) (b1 : Nat) (b2 : Nat) (s3 : Int) :
    SJ addr_Less.cx [.code (c1 (c1 (c2 (c1 (c2 (c2 addr_Less.B)))))), .inLoop (c1 (c1 (c2 (c1 (c2 (c2 addr_Less.B)))))), .inBlock 0, .code (c2 (c2 (c2 addr_Less.B)))] [(2, .pointer (some (pt b1 0))), (3, .pointer (some (pt b2 0))), (16, .int .i64 s3)] [(b2, c_api_IP.enc a1), (b1, c_api_IP.enc a0)] (addr_Less.L1 a0 a1 s3) (addr_Less.F1 a0 a1 b1 b2) := by
  unfold addr_Less.L1
  refine SJ.seq (by kernel_rfl) ?_
  refine SJ.region (id := 4) (by kernel_rfl) [0] (by kernel_rfl) ?_
  refine OJ.run [0] [] [2, 3, 16, 17] (m2 := [(2, .pointer (some (pt b1 0))), (3, .pointer (some (pt b2 0))), (16, .int .i64 s3), (17, .bool (decide (s3 < 16)))]) (by kernel_rfl) (by kernel_rfl) ?_
  refine OJ.nil ?_
  refine SJ.seq (by kernel_rfl) ?_
  refine SJ.cond (t := (.tmp 17)) (b := decide (s3 < 16)) (by kernel_rfl) (by kernel_rfl) decide_eq_true_iff (fun hc31 => ?_) (fun hc31 => ?_)
  · refine SJ.skip (by kernel_rfl) ?_
    refine SJ.seq (by kernel_rfl) ?_
    refine SJ.block (id := 1) (by kernel_rfl) ?_
    refine SJ.seq (by kernel_rfl) ?_
    refine SJ.region (id := 5) (by kernel_rfl) [0, 1] (by kernel_rfl) ?_
    refine OJ.run [0, 1] [] [2, 3, 16, 5] (m2 := [(2, .pointer (some (pt b1 0))), (3, .pointer (some (pt b2 0))), (16, .int .i64 s3), (5, .int .i64 s3)]) (by kernel_rfl) (by kernel_rfl) ?_
    refine OJ.nil ?_
    refine SJ.seq (by kernel_rfl) ?_
    refine SJ.draw (id := 6) (kd := [0, 0, 0, 1, 0, 0, 0, 1, 0]) (bef := [0, 0, 3, 7, 0, 0, 48, 112, 255]) (ord := [0, 1, 2, 3, 4, 5, 6, 7, 8]) (by kernel_rfl) mixed (by kernel_rfl) ?_
    refine OJ.run [0, 1] [2, 3, 4, 5, 6, 7, 8] [2, 3, 16, 5, 19, 20] (m2 := [(2, .pointer (some (pt b1 0))), (3, .pointer (some (pt b2 0))), (16, .int .i64 s3), (5, .int .i64 s3), (19, .int .i64 s3), (20, .pointer (some (pt b1 1)))]) (by kernel_rfl) (by kernel_rfl) ?_
    refine OJ.idxK (d := 21) (T := 22) (y := .tmp 20) (j := .tmp 19) (E := 5) (sz := 1) (b := b1) (o := 1) (k := .i64) (by kernel_rfl) (by kernel_rfl) (by kernel_rfl) (by kernel_rfl) (by kernel_rfl) (by kernel_rfl) (by kernel_rfl) (by kernel_rfl) (fun hb18 hb19 => ?_)
    refine OJ.kld (d := 22) (T := 5) (y := .tmp 21) (cd := (cI .u8)) (j := 1) (b := b1) (o := (1 + s3.toNat * 1)) (Vec.g a0.A s3 0) (pend2 := [⟨3, 5, (pt b1 (1 + s3.toNat * 1)), (cI .u8).val (Vec.g a0.A s3 0)⟩]) (by kernel_rfl) (by kernel_rfl) Ty5 (by kernel_rfl) rfl (At.trans (At_api_IP_A a0) (At.arr (z := 0) hb18 hb19)) (by kernel_rfl) rfl ?_
    refine OJ.run [4, 5] [6, 7, 8] [2, 3, 16, 5, 22, 23, 24] (m2 := [(2, .pointer (some (pt b1 0))), (3, .pointer (some (pt b2 0))), (16, .int .i64 s3), (5, .int .i64 s3), (22, .int .u8 (Vec.g a0.A s3 0)), (23, .int .i64 s3), (24, .pointer (some (pt b2 1)))]) (by kernel_rfl) (by kernel_rfl) ?_
    refine OJ.idxK (d := 25) (T := 22) (y := .tmp 24) (j := .tmp 23) (E := 5) (sz := 1) (b := b2) (o := 1) (k := .i64) (by kernel_rfl) (by kernel_rfl) (by kernel_rfl) (by kernel_rfl) (by kernel_rfl) (by kernel_rfl) (by kernel_rfl) (by kernel_rfl) (fun hb20 hb21 => ?_)
    refine OJ.kld (d := 26) (T := 5) (y := .tmp 25) (cd := (cI .u8)) (j := 0) (b := b2) (o := (1 + s3.toNat * 1)) (Vec.g a1.A s3 0) (pend2 := [⟨7, 5, (pt b2 (1 + s3.toNat * 1)), (cI .u8).val (Vec.g a1.A s3 0)⟩, ⟨3, 5, (pt b1 (1 + s3.toNat * 1)), (cI .u8).val (Vec.g a0.A s3 0)⟩]) (by kernel_rfl) (by kernel_rfl) Ty5 (by kernel_rfl) rfl (At.trans (At_api_IP_A a1) (At.arr (z := 0) hb20 hb21)) (by kernel_rfl) rfl ?_
    refine OJ.run [8] [] [2, 3, 16, 5, 27] (m2 := [(2, .pointer (some (pt b1 0))), (3, .pointer (some (pt b2 0))), (16, .int .i64 s3), (5, .int .i64 s3), (27, .bool ((Vec.g a0.A s3 0) != (Vec.g a1.A s3 0)))]) (by kernel_rfl) (by kernel_rfl) ?_
    refine OJ.nil ?_
    refine SJ.cond (t := (.tmp 27)) (b := ((Vec.g a0.A s3 0) != (Vec.g a1.A s3 0))) (by kernel_rfl) (by kernel_rfl) bne_iff_ne (fun hc30 => ?_) (fun hc30 => ?_)
    · refine SJ.seq (by kernel_rfl) ?_
      refine SJ.draw (id := 7) (kd := [0, 0, 0, 1, 0, 0, 0, 1, 0, 0]) (bef := [0, 0, 3, 7, 0, 0, 48, 112, 255, 511]) (ord := [0, 1, 2, 3, 4, 5, 6, 7, 8, 9]) (by kernel_rfl) mixed (by kernel_rfl) ?_
      refine OJ.run [0, 1] [2, 3, 4, 5, 6, 7, 8, 9] [3, 5, 28, 29] (m2 := [(3, .pointer (some (pt b2 0))), (5, .int .i64 s3), (28, .int .i64 s3), (29, .pointer (some (pt b1 1)))]) (by kernel_rfl) (by kernel_rfl) ?_
      refine OJ.idxK (d := 30) (T := 22) (y := .tmp 29) (j := .tmp 28) (E := 5) (sz := 1) (b := b1) (o := 1) (k := .i64) (by kernel_rfl) (by kernel_rfl) (by kernel_rfl) (by kernel_rfl) (by kernel_rfl) (by kernel_rfl) (by kernel_rfl) (by kernel_rfl) (fun hb26 hb27 => ?_)
      refine OJ.kld (d := 31) (T := 5) (y := .tmp 30) (cd := (cI .u8)) (j := 1) (b := b1) (o := (1 + s3.toNat * 1)) (Vec.g a0.A s3 0) (pend2 := [⟨3, 5, (pt b1 (1 + s3.toNat * 1)), (cI .u8).val (Vec.g a0.A s3 0)⟩]) (by kernel_rfl) (by kernel_rfl) Ty5 (by kernel_rfl) rfl (At.trans (At_api_IP_A a0) (At.arr (z := 0) hb26 hb27)) (by kernel_rfl) rfl ?_
      refine OJ.run [4, 5] [6, 7, 8, 9] [31, 32, 33] (m2 := [(31, .int .u8 (Vec.g a0.A s3 0)), (32, .int .i64 s3), (33, .pointer (some (pt b2 1)))]) (by kernel_rfl) (by kernel_rfl) ?_
      refine OJ.idxK (d := 34) (T := 22) (y := .tmp 33) (j := .tmp 32) (E := 5) (sz := 1) (b := b2) (o := 1) (k := .i64) (by kernel_rfl) (by kernel_rfl) (by kernel_rfl) (by kernel_rfl) (by kernel_rfl) (by kernel_rfl) (by kernel_rfl) (by kernel_rfl) (fun hb28 hb29 => ?_)
      refine OJ.kld (d := 35) (T := 5) (y := .tmp 34) (cd := (cI .u8)) (j := 0) (b := b2) (o := (1 + s3.toNat * 1)) (Vec.g a1.A s3 0) (pend2 := [⟨7, 5, (pt b2 (1 + s3.toNat * 1)), (cI .u8).val (Vec.g a1.A s3 0)⟩, ⟨3, 5, (pt b1 (1 + s3.toNat * 1)), (cI .u8).val (Vec.g a0.A s3 0)⟩]) (by kernel_rfl) (by kernel_rfl) Ty5 (by kernel_rfl) rfl (At.trans (At_api_IP_A a1) (At.arr (z := 0) hb28 hb29)) (by kernel_rfl) rfl ?_
      refine OJ.run [8, 9] [] [4] (m2 := [(4, .bool (decide ((Vec.g a0.A s3 0) < (Vec.g a1.A s3 0))))]) (by kernel_rfl) (by kernel_rfl) ?_
      refine OJ.nil ?_
      exact SJ.ret (by kernel_rfl) rfl (Res.run (ys := [.bool (decide ((Vec.g a0.A s3 0) < (Vec.g a1.A s3 0)))]) (.tmp (by kernel_rfl) .nil) rfl)
    · refine SJ.skip (by kernel_rfl) ?_
      refine SJ.inBlock ?_
      refine SJ.region (id := 8) (by kernel_rfl) [0, 1] (by kernel_rfl) ?_
      refine OJ.run [0, 1] [] [2, 3, 16] (m2 := [(2, .pointer (some (pt b1 0))), (3, .pointer (some (pt b2 0))), (16, .int .i64 (IntKind.wrap .i64 (s3 + 1)))]) (by kernel_rfl) (by kernel_rfl) ?_
      refine OJ.nil ?_
      exact SJ.at_ [2, 3, 16] rfl (by kernel_rfl)
  · refine SJ.exit (id := 0) (by kernel_rfl) (by rfl) ?_
    refine SJ.seq (by kernel_rfl) ?_
    refine SJ.region (id := 9) (by kernel_rfl) [0] (by kernel_rfl) ?_
    refine OJ.run [0] [] [4] (m2 := [(4, .bool false)]) (by kernel_rfl) (by kernel_rfl) ?_
    refine OJ.nil ?_
    exact SJ.ret (by kernel_rfl) rfl (Res.run (ys := [.bool false]) (.tmp (by kernel_rfl) .nil) rfl)
noncomputable def addr_Less (a0 : api_IP) (a1 : api_IP) : M Bool :=
  slot 24 >>= fun b1 =>
  slot 24 >>= fun b2 =>
  if a0.V ≠ a1.V then
    pure (decide (a0.V < a1.V))
  else
    loopM (fun s_ : Int => addr_Less.L1 a0 a1 s_) 0
theorem addr_Less_ok (a0 : api_IP) (a1 : api_IP) : Ref Try.prog 14 [c_api_IP.val a0, c_api_IP.val a1] (addr_Less a0 a1) addr_Less.out := by
  refine Ref.of (cd := addr_Less.B) Try.func14 (by kernel_rfl) (by kernel_rfl) ?_
  show SJ addr_Less.cx [.code addr_Less.B] [(0, c_api_IP.val a0), (1, c_api_IP.val a1)] [] (addr_Less a0 a1) addr_Less.F0
  unfold addr_Less
  refine SJ.seq (by kernel_rfl) ?_
  refine SJ.region (id := 0) (by kernel_rfl) [0, 1, 2] (by kernel_rfl) ?_
  refine OJ.slotOf (d := 2) (op := (.box 24 (.tmp 0))) (cd := c_api_IP) (u := a0) (owed := []) (by kernel_rfl) (box_run (by kernel_rfl)) (by kernel_rfl) (by kernel_rfl) (by kernel_rfl) (fun b1 => ?_)
  refine OW.nil ?_
  refine OJ.slotOf (d := 3) (op := (.box 24 (.tmp 1))) (cd := c_api_IP) (u := a1) (owed := []) (by kernel_rfl) (box_run (by kernel_rfl)) (by kernel_rfl) (by kernel_rfl) (by kernel_rfl) (fun b2 => ?_)
  refine OW.nil ?_
  refine OJ.run [2] [] [2, 3] (m2 := [(2, .pointer (some (pt b1 0))), (3, .pointer (some (pt b2 0)))]) (by kernel_rfl) (by kernel_rfl) ?_
  refine OJ.nil ?_
  refine SJ.seq (by kernel_rfl) ?_
  refine SJ.seq (by kernel_rfl) ?_
  refine SJ.region (id := 1) (by kernel_rfl) [0, 1, 2, 3, 4] (by kernel_rfl) ?_
  refine OJ.run [0] [1, 2, 3, 4] [2, 3, 6] (m2 := [(2, .pointer (some (pt b1 0))), (3, .pointer (some (pt b2 0))), (6, .pointer (some (pt b1 0)))]) (by kernel_rfl) (by kernel_rfl) ?_
  refine OJ.kld (d := 7) (T := 3) (y := .tmp 6) (cd := (cI .i64)) (j := 1) (b := b1) (o := 0) a0.V (pend2 := []) (by kernel_rfl) (by kernel_rfl) Ty3 (by kernel_rfl) rfl (At_api_IP_V a0) (by kernel_rfl) rfl ?_
  refine OJ.run [2] [3, 4] [2, 3, 7, 8] (m2 := [(2, .pointer (some (pt b1 0))), (3, .pointer (some (pt b2 0))), (7, .int .i64 a0.V), (8, .pointer (some (pt b2 0)))]) (by kernel_rfl) (by kernel_rfl) ?_
  refine OJ.kld (d := 9) (T := 3) (y := .tmp 8) (cd := (cI .i64)) (j := 0) (b := b2) (o := 0) a1.V (pend2 := []) (by kernel_rfl) (by kernel_rfl) Ty3 (by kernel_rfl) rfl (At_api_IP_V a1) (by kernel_rfl) rfl ?_
  refine OJ.run [4] [] [2, 3, 10] (m2 := [(2, .pointer (some (pt b1 0))), (3, .pointer (some (pt b2 0))), (10, .bool (a0.V != a1.V))]) (by kernel_rfl) (by kernel_rfl) ?_
  refine OJ.nil ?_
  refine SJ.cond (t := (.tmp 10)) (b := (a0.V != a1.V)) (by kernel_rfl) (by kernel_rfl) bne_iff_ne (fun hc32 => ?_) (fun hc32 => ?_)
  · refine SJ.seq (by kernel_rfl) ?_
    refine SJ.region (id := 2) (by kernel_rfl) [0, 1, 2, 3, 4, 5] (by kernel_rfl) ?_
    refine OJ.run [0] [1, 2, 3, 4, 5] [3, 11] (m2 := [(3, .pointer (some (pt b2 0))), (11, .pointer (some (pt b1 0)))]) (by kernel_rfl) (by kernel_rfl) ?_
    refine OJ.kld (d := 12) (T := 3) (y := .tmp 11) (cd := (cI .i64)) (j := 1) (b := b1) (o := 0) a0.V (pend2 := []) (by kernel_rfl) (by kernel_rfl) Ty3 (by kernel_rfl) rfl (At_api_IP_V a0) (by kernel_rfl) rfl ?_
    refine OJ.run [2] [3, 4, 5] [12, 13] (m2 := [(12, .int .i64 a0.V), (13, .pointer (some (pt b2 0)))]) (by kernel_rfl) (by kernel_rfl) ?_
    refine OJ.kld (d := 14) (T := 3) (y := .tmp 13) (cd := (cI .i64)) (j := 0) (b := b2) (o := 0) a1.V (pend2 := []) (by kernel_rfl) (by kernel_rfl) Ty3 (by kernel_rfl) rfl (At_api_IP_V a1) (by kernel_rfl) rfl ?_
    refine OJ.run [4, 5] [] [4] (m2 := [(4, .bool (decide (a0.V < a1.V)))]) (by kernel_rfl) (by kernel_rfl) ?_
    refine OJ.nil ?_
    exact SJ.ret (by kernel_rfl) rfl (Res.run (ys := [.bool (decide (a0.V < a1.V))]) (.tmp (by kernel_rfl) .nil) rfl)
  · refine SJ.skip (by kernel_rfl) ?_
    refine SJ.seq (by kernel_rfl) ?_
    refine SJ.seq (by kernel_rfl) ?_
    refine SJ.region (id := 3) (by kernel_rfl) [0] (by kernel_rfl) ?_
    refine OJ.run [0] [] [2, 3, 16] (m2 := [(2, .pointer (some (pt b1 0))), (3, .pointer (some (pt b2 0))), (16, .int .i64 0)]) (by kernel_rfl) (by kernel_rfl) ?_
    refine OJ.nil ?_
    refine SJ.block (id := 0) (by kernel_rfl) ?_
    exact SJ.loop (fun s_ : Int => [(2, .pointer (some (pt b1 0))), (3, .pointer (some (pt b2 0))), (16, .int .i64 s_)]) (fun s_ : Int => [(b2, c_api_IP.enc a1), (b1, c_api_IP.enc a0)]) [2, 3, 16] (by kernel_rfl) (by kernel_rfl) rfl (fun _ _ => rfl) (fun s_ => addr_Less.L1_ok a0 a1 b1 b2 s_)

/-! ### weir/weirlaw4.AddrOrder: function 3 -/
noncomputable def weirlaw4_AddrOrder.B : Code := (Try.f3.body).getD .skip
noncomputable def weirlaw4_AddrOrder.cx : Fx := ⟨Try.prog, 3, Try.f3⟩
noncomputable def weirlaw4_AddrOrder.out (r_ : Bool) : Value := .bool r_
noncomputable def weirlaw4_AddrOrder.F0 (r_ : Bool) : Reach := .ret (weirlaw4_AddrOrder.out r_)
noncomputable def weirlaw4_AddrOrder (a0 : api_IP) (a1 : api_IP) (a2 : api_IP) : M Bool :=
  slot 24 >>= fun b1 =>
  slot 24 >>= fun b2 =>
  slot 24 >>= fun b3 =>
  addr_Less a0 a1 >>= fun r4 =>
  addr_Less a1 a0 >>= fun r5 =>
  addr_Less a1 a2 >>= fun r6 =>
  addr_Less a0 a2 >>= fun r7 =>
  addr_Less (⟨4, z_api_IP.A⟩ : api_IP) (⟨6, z_api_IP.A⟩ : api_IP) >>= fun r8 =>
  (if r8 = true then
      addr_Less a0 a0 >>= fun r9 =>
      pure (!r9)
    else
      pure false) >>= fun y10 =>
  (if y10 = true then
      pure ((!(r4 == r5)) == (!eqv a0 a1))
    else
      pure false) >>= fun y11 =>
  (if y11 = true then
      (if r4 = true then
          pure r5
        else
          pure false) >>= fun y12 =>
      pure (!y12)
    else
      pure false) >>= fun y13 =>
  (if y13 = true then
      (if ¬ (r4 = true) then
          pure true
        else
          pure (!r6)) >>= fun y14 =>
      (if y14 = true then
          pure true
        else
          pure r7) >>= fun y15 =>
      pure y15
    else
      pure false) >>= fun y16 =>
  pure y16
theorem weirlaw4_AddrOrder_ok (a0 : api_IP) (a1 : api_IP) (a2 : api_IP) : Ref Try.prog 3 [c_api_IP.val a0, c_api_IP.val a1, c_api_IP.val a2] (weirlaw4_AddrOrder a0 a1 a2) weirlaw4_AddrOrder.out := by
  refine Ref.of (cd := weirlaw4_AddrOrder.B) Try.func3 (by kernel_rfl) (by kernel_rfl) ?_
  show SJ weirlaw4_AddrOrder.cx [.code weirlaw4_AddrOrder.B] [(0, c_api_IP.val a0), (1, c_api_IP.val a1), (2, c_api_IP.val a2)] [] (weirlaw4_AddrOrder a0 a1 a2) weirlaw4_AddrOrder.F0
  unfold weirlaw4_AddrOrder
  refine SJ.seq (by kernel_rfl) ?_
  refine SJ.region (id := 0) (by kernel_rfl) [0, 1, 2, 3] (by kernel_rfl) ?_
  refine OJ.slotOf (d := 3) (op := (.box 24 (.tmp 0))) (cd := c_api_IP) (u := a0) (owed := []) (by kernel_rfl) (box_run (by kernel_rfl)) (by kernel_rfl) (by kernel_rfl) (by kernel_rfl) (fun b1 => ?_)
  refine OW.nil ?_
  refine OJ.slotOf (d := 4) (op := (.box 24 (.tmp 1))) (cd := c_api_IP) (u := a1) (owed := []) (by kernel_rfl) (box_run (by kernel_rfl)) (by kernel_rfl) (by kernel_rfl) (by kernel_rfl) (fun b2 => ?_)
  refine OW.nil ?_
  refine OJ.slotOf (d := 5) (op := (.box 24 (.tmp 2))) (cd := c_api_IP) (u := a2) (owed := []) (by kernel_rfl) (box_run (by kernel_rfl)) (by kernel_rfl) (by kernel_rfl) (by kernel_rfl) (fun b3 => ?_)
  refine OW.nil ?_
  refine OJ.run [3] [] [3, 4, 5] (m2 := [(3, .pointer (some (pt b1 0))), (4, .pointer (some (pt b2 0))), (5, .pointer (some (pt b3 0)))]) (by kernel_rfl) (by kernel_rfl) ?_
  refine OJ.nil ?_
  refine SJ.seq (by kernel_rfl) ?_
  refine SJ.region (id := 1) (by kernel_rfl) [0, 1, 2, 3] (by kernel_rfl) ?_
  refine OJ.kld (d := 12) (T := 24) (y := .tmp 3) (cd := c_api_IP) (j := 2) (b := b1) (o := 0) a0 (pend2 := []) (by kernel_rfl) (by kernel_rfl) Ty24 (by kernel_rfl) rfl (At.whole _) (by kernel_rfl) rfl ?_
  refine OJ.kld (d := 13) (T := 24) (y := .tmp 4) (cd := c_api_IP) (j := 1) (b := b2) (o := 0) a1 (pend2 := []) (by kernel_rfl) (by kernel_rfl) Ty24 (by kernel_rfl) rfl (At.whole _) (by kernel_rfl) rfl ?_
  refine OJ.call (d := 14) (g := 14) (ats := #[24, 24]) (args := [.tmp 12, .tmp 13]) (vals := [c_api_IP.val a0, c_api_IP.val a1]) (owed := []) (by kernel_rfl) F14 (by kernel_rfl) (addr_Less_ok a0 a1) (by kernel_rfl) (by kernel_rfl) (by kernel_rfl) (fun r4 => ?_)
  refine OW.nil ?_
  refine OJ.run [3] [] [3, 4, 5, 7] (m2 := [(3, .pointer (some (pt b1 0))), (4, .pointer (some (pt b2 0))), (5, .pointer (some (pt b3 0))), (7, .bool r4)]) (by kernel_rfl) (by kernel_rfl) ?_
  refine OJ.nil ?_
  refine SJ.seq (by kernel_rfl) ?_
  refine SJ.region (id := 2) (by kernel_rfl) [0, 1, 2, 3] (by kernel_rfl) ?_
  refine OJ.kld (d := 15) (T := 24) (y := .tmp 4) (cd := c_api_IP) (j := 1) (b := b2) (o := 0) a1 (pend2 := []) (by kernel_rfl) (by kernel_rfl) Ty24 (by kernel_rfl) rfl (At.whole _) (by kernel_rfl) rfl ?_
  refine OJ.kld (d := 16) (T := 24) (y := .tmp 3) (cd := c_api_IP) (j := 2) (b := b1) (o := 0) a0 (pend2 := []) (by kernel_rfl) (by kernel_rfl) Ty24 (by kernel_rfl) rfl (At.whole _) (by kernel_rfl) rfl ?_
  refine OJ.call (d := 17) (g := 14) (ats := #[24, 24]) (args := [.tmp 15, .tmp 16]) (vals := [c_api_IP.val a1, c_api_IP.val a0]) (owed := []) (by kernel_rfl) F14 (by kernel_rfl) (addr_Less_ok a1 a0) (by kernel_rfl) (by kernel_rfl) (by kernel_rfl) (fun r5 => ?_)
  refine OW.nil ?_
  refine OJ.run [3] [] [3, 4, 5, 7, 8] (m2 := [(3, .pointer (some (pt b1 0))), (4, .pointer (some (pt b2 0))), (5, .pointer (some (pt b3 0))), (7, .bool r4), (8, .bool r5)]) (by kernel_rfl) (by kernel_rfl) ?_
  refine OJ.nil ?_
  refine SJ.seq (by kernel_rfl) ?_
  refine SJ.region (id := 3) (by kernel_rfl) [0, 1, 2, 3] (by kernel_rfl) ?_
  refine OJ.kld (d := 18) (T := 24) (y := .tmp 4) (cd := c_api_IP) (j := 1) (b := b2) (o := 0) a1 (pend2 := []) (by kernel_rfl) (by kernel_rfl) Ty24 (by kernel_rfl) rfl (At.whole _) (by kernel_rfl) rfl ?_
  refine OJ.kld (d := 19) (T := 24) (y := .tmp 5) (cd := c_api_IP) (j := 0) (b := b3) (o := 0) a2 (pend2 := []) (by kernel_rfl) (by kernel_rfl) Ty24 (by kernel_rfl) rfl (At.whole _) (by kernel_rfl) rfl ?_
  refine OJ.call (d := 20) (g := 14) (ats := #[24, 24]) (args := [.tmp 18, .tmp 19]) (vals := [c_api_IP.val a1, c_api_IP.val a2]) (owed := []) (by kernel_rfl) F14 (by kernel_rfl) (addr_Less_ok a1 a2) (by kernel_rfl) (by kernel_rfl) (by kernel_rfl) (fun r6 => ?_)
  refine OW.nil ?_
  refine OJ.run [3] [] [3, 4, 5, 7, 8, 9] (m2 := [(3, .pointer (some (pt b1 0))), (4, .pointer (some (pt b2 0))), (5, .pointer (some (pt b3 0))), (7, .bool r4), (8, .bool r5), (9, .bool r6)]) (by kernel_rfl) (by kernel_rfl) ?_
  refine OJ.nil ?_
  refine SJ.seq (by kernel_rfl) ?_
  refine SJ.region (id := 4) (by kernel_rfl) [0, 1, 2, 3] (by kernel_rfl) ?_
  refine OJ.kld (d := 21) (T := 24) (y := .tmp 3) (cd := c_api_IP) (j := 2) (b := b1) (o := 0) a0 (pend2 := []) (by kernel_rfl) (by kernel_rfl) Ty24 (by kernel_rfl) rfl (At.whole _) (by kernel_rfl) rfl ?_
  refine OJ.kld (d := 22) (T := 24) (y := .tmp 5) (cd := c_api_IP) (j := 0) (b := b3) (o := 0) a2 (pend2 := []) (by kernel_rfl) (by kernel_rfl) Ty24 (by kernel_rfl) rfl (At.whole _) (by kernel_rfl) rfl ?_
  refine OJ.call (d := 23) (g := 14) (ats := #[24, 24]) (args := [.tmp 21, .tmp 22]) (vals := [c_api_IP.val a0, c_api_IP.val a2]) (owed := []) (by kernel_rfl) F14 (by kernel_rfl) (addr_Less_ok a0 a2) (by kernel_rfl) (by kernel_rfl) (by kernel_rfl) (fun r7 => ?_)
  refine OW.nil ?_
  refine OJ.run [3] [] [3, 4, 7, 8, 9, 10] (m2 := [(3, .pointer (some (pt b1 0))), (4, .pointer (some (pt b2 0))), (7, .bool r4), (8, .bool r5), (9, .bool r6), (10, .bool r7)]) (by kernel_rfl) (by kernel_rfl) ?_
  refine OJ.nil ?_
  refine SJ.seq (by kernel_rfl) ?_
  refine SJ.region (id := 5) (by kernel_rfl) [0, 1, 2, 3] (by kernel_rfl) ?_
  refine OJ.build (d := 24) (T := 24) (parts := [(0, .const (.int .i64 4))]) (ps := [(0, (cI .i64).val 4)]) (cd := c_api_IP) (z0 := z_api_IP) (⟨4, z_api_IP.A⟩ : api_IP) (by kernel_rfl) (by kernel_rfl) Ty24 rfl (by kernel_rfl) (Filled.cons (cd := (cI .i64)) (q := 4) (o := 0) (by kernel_rfl) (Up_api_IP_V z_api_IP 4) Filled.nil) (by kernel_rfl) (by kernel_rfl) (by kernel_rfl) ?_
  refine OJ.build (d := 25) (T := 24) (parts := [(0, .const (.int .i64 6))]) (ps := [(0, (cI .i64).val 6)]) (cd := c_api_IP) (z0 := z_api_IP) (⟨6, z_api_IP.A⟩ : api_IP) (by kernel_rfl) (by kernel_rfl) Ty24 rfl (by kernel_rfl) (Filled.cons (cd := (cI .i64)) (q := 6) (o := 0) (by kernel_rfl) (Up_api_IP_V z_api_IP 6) Filled.nil) (by kernel_rfl) (by kernel_rfl) (by kernel_rfl) ?_
  refine OJ.call (d := 26) (g := 14) (ats := #[24, 24]) (args := [.tmp 24, .tmp 25]) (vals := [c_api_IP.val (⟨4, z_api_IP.A⟩ : api_IP), c_api_IP.val (⟨6, z_api_IP.A⟩ : api_IP)]) (owed := []) (by kernel_rfl) F14 (by kernel_rfl) (addr_Less_ok (⟨4, z_api_IP.A⟩ : api_IP) (⟨6, z_api_IP.A⟩ : api_IP)) (by kernel_rfl) (by kernel_rfl) (by kernel_rfl) (fun r8 => ?_)
  refine OW.nil ?_
  refine OJ.run [3] [] [3, 4, 7, 8, 9, 10, 11] (m2 := [(3, .pointer (some (pt b1 0))), (4, .pointer (some (pt b2 0))), (7, .bool r4), (8, .bool r5), (9, .bool r6), (10, .bool r7), (11, .bool r8)]) (by kernel_rfl) (by kernel_rfl) ?_
  refine OJ.nil ?_
  refine SJ.seq (by kernel_rfl) ?_
  refine SJ.region (id := 6) (by kernel_rfl) [0, 1, 2, 3, 4, 5, 6, 7, 8, 9, 10, 11, 12, 13, 14, 15, 16, 17, 18, 19, 20, 21, 22, 23, 24, 25, 26, 27, 28, 29, 30, 31, 32, 33, 34] (by kernel_rfl) ?_
  refine OJ.run [0, 1] [2, 3, 4, 5, 6, 7, 8, 9, 10, 11, 12, 13, 14, 15, 16, 17, 18, 19, 20, 21, 22, 23, 24, 25, 26, 27, 28, 29, 30, 31, 32, 33, 34] [3, 4, 7, 8, 9, 10, 28] (m2 := [(3, .pointer (some (pt b1 0))), (4, .pointer (some (pt b2 0))), (7, .bool r4), (8, .bool r5), (9, .bool r6), (10, .bool r7), (28, .bool r8)]) (by kernel_rfl) (by kernel_rfl) ?_
  refine OJ.join (b := r8) [2, 3, 4, 5, 6] [7, 8, 9, 10, 11, 12, 13, 14, 15, 16, 17, 18, 19, 20, 21, 22, 23, 24, 25, 26, 27, 28, 29, 30, 31, 32, 33, 34] [3, 4, 7, 8, 9, 10, 33] (fun y10 => [(3, .pointer (some (pt b1 0))), (4, .pointer (some (pt b2 0))), (7, .bool r4), (8, .bool r5), (9, .bool r6), (10, .bool r7), (33, .bool y10)]) [] [] (by kernel_rfl) (t := 28) (by kernel_rfl) Iff.rfl (fun hp_ => ?_) (fun hp_ => ?_) (by kernel_rfl) (fun _ _ _ _ _ _ h_ => h_) (fun y10 => ?_)
  · refine OJ.kld (d := 29) (T := 24) (y := .tmp 3) (cd := c_api_IP) (j := 2) (b := b1) (o := 0) a0 (pend2 := []) (by kernel_rfl) (by kernel_rfl) Ty24 (by kernel_rfl) rfl (At.whole _) (by kernel_rfl) rfl ?_
    refine OJ.kld (d := 30) (T := 24) (y := .tmp 3) (cd := c_api_IP) (j := 2) (b := b1) (o := 0) a0 (pend2 := []) (by kernel_rfl) (by kernel_rfl) Ty24 (by kernel_rfl) rfl (At.whole _) (by kernel_rfl) rfl ?_
    refine OJ.call (d := 31) (g := 14) (ats := #[24, 24]) (args := [.tmp 29, .tmp 30]) (vals := [c_api_IP.val a0, c_api_IP.val a0]) (owed := []) (by kernel_rfl) F14 (by kernel_rfl) (addr_Less_ok a0 a0) (by kernel_rfl) (by kernel_rfl) (by kernel_rfl) (fun r9 => ?_)
    refine OW.nil ?_
    refine OJ.run [5, 6] [] [3, 4, 7, 8, 9, 10, 33] (m2 := [(3, .pointer (some (pt b1 0))), (4, .pointer (some (pt b2 0))), (7, .bool r4), (8, .bool r5), (9, .bool r6), (10, .bool r7), (33, .bool (!r9))]) (by kernel_rfl) (by kernel_rfl) ?_
    exact OJ.nil ⟨(Cov.mem Cov.nil), rfl, _, rfl, by kernel_rfl⟩
  · refine OJ.run [2, 3, 4, 5, 6] [] [3, 4, 7, 8, 9, 10, 33] (m2 := [(3, .pointer (some (pt b1 0))), (4, .pointer (some (pt b2 0))), (7, .bool r4), (8, .bool r5), (9, .bool r6), (10, .bool r7), (33, .bool false)]) (by kernel_rfl) (by kernel_rfl) ?_
    exact OJ.nil ⟨(Cov.mem Cov.nil), rfl, _, rfl, by kernel_rfl⟩
  · refine OJ.run [7] [8, 9, 10, 11, 12, 13, 14, 15, 16, 17, 18, 19, 20, 21, 22, 23, 24, 25, 26, 27, 28, 29, 30, 31, 32, 33, 34] [3, 4, 7, 8, 9, 10, 34] (m2 := [(3, .pointer (some (pt b1 0))), (4, .pointer (some (pt b2 0))), (7, .bool r4), (8, .bool r5), (9, .bool r6), (10, .bool r7), (34, .bool y10)]) (by kernel_rfl) (by kernel_rfl) ?_
    refine OJ.join (b := y10) [8, 9, 10, 11, 12, 13, 14, 15] [16, 17, 18, 19, 20, 21, 22, 23, 24, 25, 26, 27, 28, 29, 30, 31, 32, 33, 34] [7, 8, 9, 10, 42] (fun y11 => [(7, .bool r4), (8, .bool r5), (9, .bool r6), (10, .bool r7), (42, .bool y11)]) [] [] (by kernel_rfl) (t := 34) (by kernel_rfl) Iff.rfl (fun hp_ => ?_) (fun hp_ => ?_) (by kernel_rfl) (fun _ _ _ _ _ _ h_ => h_) (fun y11 => ?_)
    · refine OJ.run [8, 9, 10] [11, 12, 13, 14, 15] [3, 4, 7, 8, 9, 10, 34, 37] (m2 := [(3, .pointer (some (pt b1 0))), (4, .pointer (some (pt b2 0))), (7, .bool r4), (8, .bool r5), (9, .bool r6), (10, .bool r7), (34, .bool true), (37, .bool (!(r4 == r5)))]) (by kernel_rfl) (by kernel_rfl) ?_
      refine OJ.kld (d := 38) (T := 24) (y := .tmp 3) (cd := c_api_IP) (j := 2) (b := b1) (o := 0) a0 (pend2 := []) (by kernel_rfl) (by kernel_rfl) Ty24 (by kernel_rfl) rfl (At.whole _) (by kernel_rfl) rfl ?_
      refine OJ.kld (d := 39) (T := 24) (y := .tmp 4) (cd := c_api_IP) (j := 1) (b := b2) (o := 0) a1 (pend2 := []) (by kernel_rfl) (by kernel_rfl) Ty24 (by kernel_rfl) rfl (At.whole _) (by kernel_rfl) rfl ?_
      refine OJ.neq (d := 40) (T := 24) (yT := 24) (y := .tmp 38) (z := .tmp 39) (cd := c_api_IP) (p := a0) (q := a1) (by kernel_rfl) (by kernel_rfl) (by kernel_rfl) rfl Eq24 (by kernel_rfl) (by kernel_rfl) (by kernel_rfl) (by kernel_rfl) (by kernel_rfl) ?_
      refine OJ.run [14, 15] [] [7, 8, 9, 10, 42] (m2 := [(7, .bool r4), (8, .bool r5), (9, .bool r6), (10, .bool r7), (42, .bool ((!(r4 == r5)) == (!eqv a0 a1)))]) (by kernel_rfl) (by kernel_rfl) ?_
      exact OJ.nil ⟨(Cov.mem Cov.nil), rfl, _, rfl, by kernel_rfl⟩
    · refine OJ.run [8, 9, 10, 11, 12, 13, 14, 15] [] [7, 8, 9, 10, 42] (m2 := [(7, .bool r4), (8, .bool r5), (9, .bool r6), (10, .bool r7), (42, .bool false)]) (by kernel_rfl) (by kernel_rfl) ?_
      exact OJ.nil ⟨(Cov.mem Cov.nil), rfl, _, rfl, by kernel_rfl⟩
    · refine OJ.run [16] [17, 18, 19, 20, 21, 22, 23, 24, 25, 26, 27, 28, 29, 30, 31, 32, 33, 34] [7, 8, 9, 10, 43] (m2 := [(7, .bool r4), (8, .bool r5), (9, .bool r6), (10, .bool r7), (43, .bool y11)]) (by kernel_rfl) (by kernel_rfl) ?_
      refine OJ.join (b := y11) [17, 18, 19, 20, 21, 22] [23, 24, 25, 26, 27, 28, 29, 30, 31, 32, 33, 34] [7, 9, 10, 49] (fun y13 => [(7, .bool r4), (9, .bool r6), (10, .bool r7), (49, .bool y13)]) [] [] (by kernel_rfl) (t := 43) (by kernel_rfl) Iff.rfl (fun hp_ => ?_) (fun hp_ => ?_) (by kernel_rfl) (fun _ _ _ _ _ _ h_ => h_) (fun y13 => ?_)
      · refine OJ.run [17, 18] [19, 20, 21, 22] [7, 8, 9, 10, 43, 45] (m2 := [(7, .bool r4), (8, .bool r5), (9, .bool r6), (10, .bool r7), (43, .bool true), (45, .bool r4)]) (by kernel_rfl) (by kernel_rfl) ?_
        refine OJ.join (b := r4) [19, 20] [21, 22] [7, 9, 10, 43, 47] (fun y12 => [(7, .bool r4), (9, .bool r6), (10, .bool r7), (43, .bool true), (47, .bool y12)]) [] [] (by kernel_rfl) (t := 45) (by kernel_rfl) Iff.rfl (fun hp_ => ?_) (fun hp_ => ?_) (by kernel_rfl) (fun _ _ _ _ _ hq_ h_ => ⟨fun e_ he_ => (hq_ e_ he_).elim (fun h => h_.1 e_ h) (fun h => nomatch h), h_.2⟩) (fun y12 => ?_)
        · refine OJ.run [19, 20] [] [7, 9, 10, 43, 47] (m2 := [(7, .bool r4), (9, .bool r6), (10, .bool r7), (43, .bool true), (47, .bool r5)]) (by kernel_rfl) (by kernel_rfl) ?_
          exact OJ.nil ⟨(Cov.mem Cov.nil), rfl, _, rfl, by kernel_rfl⟩
        · refine OJ.run [19, 20] [] [7, 9, 10, 43, 47] (m2 := [(7, .bool r4), (9, .bool r6), (10, .bool r7), (43, .bool true), (47, .bool false)]) (by kernel_rfl) (by kernel_rfl) ?_
          exact OJ.nil ⟨(Cov.mem Cov.nil), rfl, _, rfl, by kernel_rfl⟩
        · refine OJ.run [21, 22] [] [7, 9, 10, 49] (m2 := [(7, .bool r4), (9, .bool r6), (10, .bool r7), (49, .bool (!y12))]) (by kernel_rfl) (by kernel_rfl) ?_
          exact OJ.nil ⟨(Cov.mem Cov.nil), rfl, _, rfl, by kernel_rfl⟩
      · refine OJ.run [17, 18, 19, 20, 21, 22] [] [7, 9, 10, 49] (m2 := [(7, .bool r4), (9, .bool r6), (10, .bool r7), (49, .bool false)]) (by kernel_rfl) (by kernel_rfl) ?_
        exact OJ.nil ⟨(Cov.mem Cov.nil), rfl, _, rfl, by kernel_rfl⟩
      · refine OJ.run [23] [24, 25, 26, 27, 28, 29, 30, 31, 32, 33, 34] [7, 9, 10, 50] (m2 := [(7, .bool r4), (9, .bool r6), (10, .bool r7), (50, .bool y13)]) (by kernel_rfl) (by kernel_rfl) ?_
        refine OJ.join (b := y13) [24, 25, 26, 27, 28, 29, 30, 31, 32, 33] [34] [60] (fun y16 => [(60, .bool y16)]) [] [] (by kernel_rfl) (t := 50) (by kernel_rfl) Iff.rfl (fun hp_ => ?_) (fun hp_ => ?_) (by kernel_rfl) (fun _ _ _ _ _ _ h_ => h_) (fun y16 => ?_)
        · refine OJ.run [24, 25, 26] [27, 28, 29, 30, 31, 32, 33] [9, 10, 50, 53] (m2 := [(9, .bool r6), (10, .bool r7), (50, .bool true), (53, .bool (!r4))]) (by kernel_rfl) (by kernel_rfl) ?_
          refine OJ.join (b := (!r4)) [27, 28, 29] [30, 31, 32, 33] [10, 50, 56] (fun y14 => [(10, .bool r7), (50, .bool true), (56, .bool y14)]) [] [] (by kernel_rfl) (t := 53) (by kernel_rfl) (bnot_iff Iff.rfl) (fun hp_ => ?_) (fun hp_ => ?_) (by kernel_rfl) (fun _ _ _ _ _ hq_ h_ => ⟨fun e_ he_ => (hq_ e_ he_).elim (fun h => h_.1 e_ h) (fun h => nomatch h), h_.2⟩) (fun y14 => ?_)
          · refine OJ.run [27, 28, 29] [] [10, 50, 56] (m2 := [(10, .bool r7), (50, .bool true), (56, .bool true)]) (by kernel_rfl) (by kernel_rfl) ?_
            exact OJ.nil ⟨(Cov.mem Cov.nil), rfl, _, rfl, by kernel_rfl⟩
          · refine OJ.run [27, 28, 29] [] [10, 50, 56] (m2 := [(10, .bool r7), (50, .bool true), (56, .bool (!r6))]) (by kernel_rfl) (by kernel_rfl) ?_
            exact OJ.nil ⟨(Cov.mem Cov.nil), rfl, _, rfl, by kernel_rfl⟩
          · refine OJ.run [30] [31, 32, 33] [10, 50, 57] (m2 := [(10, .bool r7), (50, .bool true), (57, .bool y14)]) (by kernel_rfl) (by kernel_rfl) ?_
            refine OJ.join (b := y14) [31, 32] [33] [50, 59] (fun y15 => [(50, .bool true), (59, .bool y15)]) [] [] (by kernel_rfl) (t := 57) (by kernel_rfl) Iff.rfl (fun hp_ => ?_) (fun hp_ => ?_) (by kernel_rfl) (fun _ _ _ _ _ hq_ h_ => ⟨fun e_ he_ => (hq_ e_ he_).elim (fun h => h_.1 e_ h) (fun h => nomatch h), h_.2⟩) (fun y15 => ?_)
            · refine OJ.run [31, 32] [] [50, 59] (m2 := [(50, .bool true), (59, .bool true)]) (by kernel_rfl) (by kernel_rfl) ?_
              exact OJ.nil ⟨(Cov.mem Cov.nil), rfl, _, rfl, by kernel_rfl⟩
            · refine OJ.run [31, 32] [] [50, 59] (m2 := [(50, .bool true), (59, .bool r7)]) (by kernel_rfl) (by kernel_rfl) ?_
              exact OJ.nil ⟨(Cov.mem Cov.nil), rfl, _, rfl, by kernel_rfl⟩
            · refine OJ.run [33] [] [60] (m2 := [(60, .bool y15)]) (by kernel_rfl) (by kernel_rfl) ?_
              exact OJ.nil ⟨(Cov.mem Cov.nil), rfl, _, rfl, by kernel_rfl⟩
        · refine OJ.run [24, 25, 26, 27, 28, 29, 30, 31, 32, 33] [] [60] (m2 := [(60, .bool false)]) (by kernel_rfl) (by kernel_rfl) ?_
          exact OJ.nil ⟨(Cov.mem Cov.nil), rfl, _, rfl, by kernel_rfl⟩
        · refine OJ.run [34] [] [6] (m2 := [(6, .bool y16)]) (by kernel_rfl) (by kernel_rfl) ?_
          refine OJ.nil ?_
          exact SJ.ret (by kernel_rfl) rfl (Res.run (ys := [.bool y16]) (.tmp (by kernel_rfl) .nil) rfl)
end Go.Proofs.Ytgddbpmfendaeaa.Lx
