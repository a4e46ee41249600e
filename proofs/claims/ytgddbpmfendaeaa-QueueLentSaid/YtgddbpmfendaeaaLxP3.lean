/- Programs of the M-world for Go functions, each with the proof that the Go text does what it says. Printed by lxgen.py. -/
import Derived.Test.YtgddbpmfendaeaaLxT
import Derived.Test.YtgddbpmfendaeaaLxP0
import Derived.Test.YtgddbpmfendaeaaLxP1
import Derived.Test.YtgddbpmfendaeaaLxP2
set_option linter.unusedVariables false
set_option linter.unusedSimpArgs false
namespace Go.Proofs.Ytgddbpmfendaeaa.Lx
open Go Go.Proofs
/-! ### weir/weirlaw18.step: function 42 -/
noncomputable def weirlaw18_step.B : Code := (Try.f42.body).getD .skip
noncomputable def weirlaw18_step.cx : Fx := ⟨Try.prog, 42, Try.f42⟩
noncomputable def weirlaw18_step.out (r_ : (weirlaw18_Side × Bool)) : Value := .tuple #[c_weirlaw18_Side.val r_.1, .bool r_.2]
noncomputable def weirlaw18_step.F0 (r_ : (weirlaw18_Side × Bool)) : Reach := .ret (weirlaw18_step.out r_)
noncomputable def weirlaw18_step (a0 : weirlaw18_Side) (a1 : weirlaw18_Op) : M (weirlaw18_Side × Bool) :=
  slot 73 >>= fun b1 =>
  slot 48 >>= fun b2 =>
  slot 73 >>= fun b3 =>
  if a1.Kind = 1 then
    queue_Queue_Push a0.Q a1.Class a1.Size a1.Item >>= fun r145 =>
    weirref18_Push a0.R a1.Class a1.Size a1.Item >>= fun r146 =>
    slot 71 >>= fun b147 =>
    draw >>= fun _ =>
    weirlaw18_num r145 >>= fun r148 =>
    pure ((⟨a0.Q, r146.1⟩ : weirlaw18_Side), (r148 == r146.2))
  else
    if a1.Kind = 2 then
      queue_Queue_Pop a0.Q >>= fun r217 =>
      weirref18_Pop a0.R >>= fun r218 =>
      slot 71 >>= fun b219 =>
      (if r217.1 = r218.2.1 then
          pure (r217.2.1 == r218.2.2.1)
        else
          pure false) >>= fun y220 =>
      (if y220 = true then
          pure (r217.2.2 == r218.2.2.2)
        else
          pure false) >>= fun y221 =>
      pure ((⟨a0.Q, r218.1⟩ : weirlaw18_Side), y221)
    else
      if a1.Kind = 3 then
        queue_Queue_Peek a0.Q >>= fun r253 =>
        weirref18_Peek a0.R >>= fun r254 =>
        (if r253.1 = r254.1 then
            pure (r253.2.1 == r254.2.1)
          else
            pure false) >>= fun y255 =>
        (if y255 = true then
            pure (r253.2.2 == r254.2.2)
          else
            pure false) >>= fun y256 =>
        pure (a0, y256)
      else
        if a1.Kind = 4 then
          queue_Queue_Tick a0.Q >>= fun r270 =>
          weirref18_Tick a0.R >>= fun r271 =>
          pure ((⟨a0.Q, r271⟩ : weirlaw18_Side), true)
        else
          if a1.Kind = 5 then
            draw >>= fun _ =>
            queue_Queue_Len a0.Q a1.Class >>= fun r277 =>
            weirref18_Len a0.R a1.Class >>= fun r278 =>
            (if r277 = r278 then
                queue_Queue_Bytes a0.Q a1.Class >>= fun r279 =>
                weirref18_Bytes a0.R a1.Class >>= fun r280 =>
                pure (r279 == r280)
              else
                pure false) >>= fun y281 =>
            pure (a0, y281)
          else
            pure (a0, true)
theorem weirlaw18_step_ok (a0 : weirlaw18_Side) (a1 : weirlaw18_Op) : Ref Try.prog 42 [c_weirlaw18_Side.val a0, c_weirlaw18_Op.val a1] (weirlaw18_step a0 a1) weirlaw18_step.out := by
  refine Ref.of (cd := weirlaw18_step.B) Try.func42 (by kernel_rfl) (by kernel_rfl) ?_
  show SJ weirlaw18_step.cx [.code weirlaw18_step.B] [(0, c_weirlaw18_Side.val a0), (1, c_weirlaw18_Op.val a1)] [] (weirlaw18_step a0 a1) weirlaw18_step.F0
  unfold weirlaw18_step
  refine SJ.seq (by kernel_rfl) ?_
  refine SJ.region (id := 0) (by kernel_rfl) [0, 1, 2, 3] (by kernel_rfl) ?_
  refine OJ.slotOf (d := 2) (op := (.box 73 (.tmp 0))) (cd := c_weirlaw18_Side) (u := a0) (owed := []) (by kernel_rfl) (box_run (by kernel_rfl)) (by kernel_rfl) (by kernel_rfl) (by kernel_rfl) (fun b1 => ?_)
  refine OW.nil ?_
  refine OJ.slotOf (d := 3) (op := (.box 48 (.tmp 1))) (cd := c_weirlaw18_Op) (u := a1) (owed := []) (by kernel_rfl) (box_run (by kernel_rfl)) (by kernel_rfl) (by kernel_rfl) (by kernel_rfl) (fun b2 => ?_)
  refine OW.nil ?_
  refine OJ.slotOf (d := 4) (op := (.alloc 73)) (cd := c_weirlaw18_Side) (u := z_weirlaw18_Side) (owed := []) (by kernel_rfl) (alloc_run Ty73) (by kernel_rfl) (by kernel_rfl) (by kernel_rfl) (fun b3 => ?_)
  refine OW.nil ?_
  refine OJ.run [3] [] [2, 3, 4] (m2 := [(2, .pointer (some (pt b1 0))), (3, .pointer (some (pt b2 0))), (4, .pointer (some (pt b3 0)))]) (by kernel_rfl) (by kernel_rfl) ?_
  refine OJ.nil ?_
  refine SJ.seq (by kernel_rfl) ?_
  refine SJ.seq (by kernel_rfl) ?_
  refine SJ.region (id := 1) (by kernel_rfl) [0, 1] (by kernel_rfl) ?_
  refine OJ.run [0] [1] [2, 3, 4, 22] (m2 := [(2, .pointer (some (pt b1 0))), (3, .pointer (some (pt b2 0))), (4, .pointer (some (pt b3 0))), (22, .pointer (some (pt b2 0)))]) (by kernel_rfl) (by kernel_rfl) ?_
  refine OJ.kld (d := 23) (T := 3) (y := .tmp 22) (cd := (cI .i64)) (j := 1) (b := b2) (o := 0) a1.Kind (pend2 := []) (by kernel_rfl) (by kernel_rfl) Ty3 (by kernel_rfl) rfl (At_weirlaw18_Op_Kind a1) (by kernel_rfl) rfl ?_
  refine OJ.nil ?_
  refine SJ.block (id := 0) (by kernel_rfl) ?_
  refine SJ.seq (by kernel_rfl) ?_
  refine SJ.region (id := 2) (by kernel_rfl) [0, 1] (by kernel_rfl) ?_
  refine OJ.run [0, 1] [] [2, 3, 4, 23, 24] (m2 := [(2, .pointer (some (pt b1 0))), (3, .pointer (some (pt b2 0))), (4, .pointer (some (pt b3 0))), (23, .int .i64 a1.Kind), (24, .bool (a1.Kind == 1))]) (by kernel_rfl) (by kernel_rfl) ?_
  refine OJ.nil ?_
  refine SJ.cond (t := (.tmp 24)) (b := (a1.Kind == 1)) (by kernel_rfl) (by kernel_rfl) beq_iff_eq (fun hc286 => ?_) (fun hc286 => ?_)
  · refine SJ.seq (by kernel_rfl) ?_
    refine SJ.region (id := 3) (by kernel_rfl) [0, 1, 2, 3, 4, 5, 6, 7, 8, 9] (by kernel_rfl) ?_
    refine OJ.run [0] [1, 2, 3, 4, 5, 6, 7, 8, 9] [2, 3, 4, 26] (m2 := [(2, .pointer (some (pt b1 0))), (3, .pointer (some (pt b2 0))), (4, .pointer (some (pt b3 0))), (26, .pointer (some (pt b1 0)))]) (by kernel_rfl) (by kernel_rfl) ?_
    refine OJ.kld (d := 27) (T := 29) (y := .tmp 26) (cd := cP) (j := 2) (b := b1) (o := 0) a0.Q (pend2 := []) (by kernel_rfl) (by kernel_rfl) Ty29 (by kernel_rfl) rfl (At_weirlaw18_Side_Q a0) (by kernel_rfl) rfl ?_
    refine OJ.run [2] [3, 4, 5, 6, 7, 8, 9] [2, 3, 4, 27, 28] (m2 := [(2, .pointer (some (pt b1 0))), (3, .pointer (some (pt b2 0))), (4, .pointer (some (pt b3 0))), (27, .pointer a0.Q), (28, .pointer (some (pt b2 2)))]) (by kernel_rfl) (by kernel_rfl) ?_
    refine OJ.kld (d := 29) (T := 3) (y := .tmp 28) (cd := (cI .i64)) (j := 1) (b := b2) (o := 2) a1.Class (pend2 := []) (by kernel_rfl) (by kernel_rfl) Ty3 (by kernel_rfl) rfl (At_weirlaw18_Op_Class a1) (by kernel_rfl) rfl ?_
    refine OJ.run [4] [5, 6, 7, 8, 9] [2, 3, 4, 27, 29, 30] (m2 := [(2, .pointer (some (pt b1 0))), (3, .pointer (some (pt b2 0))), (4, .pointer (some (pt b3 0))), (27, .pointer a0.Q), (29, .int .i64 a1.Class), (30, .pointer (some (pt b2 3)))]) (by kernel_rfl) (by kernel_rfl) ?_
    refine OJ.kld (d := 31) (T := 3) (y := .tmp 30) (cd := (cI .i64)) (j := 1) (b := b2) (o := 3) a1.Size (pend2 := []) (by kernel_rfl) (by kernel_rfl) Ty3 (by kernel_rfl) rfl (At_weirlaw18_Op_Size a1) (by kernel_rfl) rfl ?_
    refine OJ.run [6] [7, 8, 9] [2, 3, 4, 27, 29, 31, 32] (m2 := [(2, .pointer (some (pt b1 0))), (3, .pointer (some (pt b2 0))), (4, .pointer (some (pt b3 0))), (27, .pointer a0.Q), (29, .int .i64 a1.Class), (31, .int .i64 a1.Size), (32, .pointer (some (pt b2 4)))]) (by kernel_rfl) (by kernel_rfl) ?_
    refine OJ.kld (d := 33) (T := 3) (y := .tmp 32) (cd := (cI .i64)) (j := 1) (b := b2) (o := 4) a1.Item (pend2 := []) (by kernel_rfl) (by kernel_rfl) Ty3 (by kernel_rfl) rfl (At_weirlaw18_Op_Item a1) (by kernel_rfl) rfl ?_
    refine OJ.call (d := 34) (g := 18) (ats := #[29, 3, 3, 3]) (args := [.tmp 27, .tmp 29, .tmp 31, .tmp 33]) (vals := [.pointer a0.Q, .int .i64 a1.Class, .int .i64 a1.Size, .int .i64 a1.Item]) (owed := []) (by kernel_rfl) F18 (by kernel_rfl) (queue_Queue_Push_ok a0.Q a1.Class a1.Size a1.Item) (by kernel_rfl) (by kernel_rfl) (by kernel_rfl) (fun r145 => ?_)
    refine OW.nil ?_
    refine OJ.run [9] [] [2, 3, 4, 6] (m2 := [(2, .pointer (some (pt b1 0))), (3, .pointer (some (pt b2 0))), (4, .pointer (some (pt b3 0))), (6, .int .i64 r145)]) (by kernel_rfl) (by kernel_rfl) ?_
    refine OJ.nil ?_
    refine SJ.seq (by kernel_rfl) ?_
    refine SJ.region (id := 4) (by kernel_rfl) [0, 1, 2, 3, 4, 5, 6, 7, 8, 9, 10, 11, 12, 13, 14] (by kernel_rfl) ?_
    refine OJ.run [0] [1, 2, 3, 4, 5, 6, 7, 8, 9, 10, 11, 12, 13, 14] [2, 3, 4, 6, 36] (m2 := [(2, .pointer (some (pt b1 0))), (3, .pointer (some (pt b2 0))), (4, .pointer (some (pt b3 0))), (6, .int .i64 r145), (36, .pointer (some (pt b1 1)))]) (by kernel_rfl) (by kernel_rfl) ?_
    refine OJ.kld (d := 37) (T := 71) (y := .tmp 36) (cd := c_weirref18_Queue) (j := 2) (b := b1) (o := 1) a0.R (pend2 := []) (by kernel_rfl) (by kernel_rfl) Ty71 (by kernel_rfl) rfl (At_weirlaw18_Side_R a0) (by kernel_rfl) rfl ?_
    refine OJ.run [2] [3, 4, 5, 6, 7, 8, 9, 10, 11, 12, 13, 14] [2, 3, 4, 6, 37, 38] (m2 := [(2, .pointer (some (pt b1 0))), (3, .pointer (some (pt b2 0))), (4, .pointer (some (pt b3 0))), (6, .int .i64 r145), (37, c_weirref18_Queue.val a0.R), (38, .pointer (some (pt b2 2)))]) (by kernel_rfl) (by kernel_rfl) ?_
    refine OJ.kld (d := 39) (T := 3) (y := .tmp 38) (cd := (cI .i64)) (j := 1) (b := b2) (o := 2) a1.Class (pend2 := []) (by kernel_rfl) (by kernel_rfl) Ty3 (by kernel_rfl) rfl (At_weirlaw18_Op_Class a1) (by kernel_rfl) rfl ?_
    refine OJ.run [4] [5, 6, 7, 8, 9, 10, 11, 12, 13, 14] [2, 3, 4, 6, 37, 39, 40] (m2 := [(2, .pointer (some (pt b1 0))), (3, .pointer (some (pt b2 0))), (4, .pointer (some (pt b3 0))), (6, .int .i64 r145), (37, c_weirref18_Queue.val a0.R), (39, .int .i64 a1.Class), (40, .pointer (some (pt b2 3)))]) (by kernel_rfl) (by kernel_rfl) ?_
    refine OJ.kld (d := 41) (T := 3) (y := .tmp 40) (cd := (cI .i64)) (j := 1) (b := b2) (o := 3) a1.Size (pend2 := []) (by kernel_rfl) (by kernel_rfl) Ty3 (by kernel_rfl) rfl (At_weirlaw18_Op_Size a1) (by kernel_rfl) rfl ?_
    refine OJ.run [6] [7, 8, 9, 10, 11, 12, 13, 14] [2, 4, 6, 37, 39, 41, 42] (m2 := [(2, .pointer (some (pt b1 0))), (4, .pointer (some (pt b3 0))), (6, .int .i64 r145), (37, c_weirref18_Queue.val a0.R), (39, .int .i64 a1.Class), (41, .int .i64 a1.Size), (42, .pointer (some (pt b2 4)))]) (by kernel_rfl) (by kernel_rfl) ?_
    refine OJ.kld (d := 43) (T := 3) (y := .tmp 42) (cd := (cI .i64)) (j := 1) (b := b2) (o := 4) a1.Item (pend2 := []) (by kernel_rfl) (by kernel_rfl) Ty3 (by kernel_rfl) rfl (At_weirlaw18_Op_Item a1) (by kernel_rfl) rfl ?_
    refine OJ.call (d := 44) (g := 52) (ats := #[71, 3, 3, 3]) (args := [.tmp 37, .tmp 39, .tmp 41, .tmp 43]) (vals := [c_weirref18_Queue.val a0.R, .int .i64 a1.Class, .int .i64 a1.Size, .int .i64 a1.Item]) (owed := []) (by kernel_rfl) F52 (by kernel_rfl) (weirref18_Push_ok a0.R a1.Class a1.Size a1.Item) (by kernel_rfl) (by kernel_rfl) (by kernel_rfl) (fun r146 => ?_)
    refine OW.nil ?_
    refine OJ.run [9, 10, 11] [12, 13, 14] [2, 4, 6, 45, 46] (m2 := [(2, .pointer (some (pt b1 0))), (4, .pointer (some (pt b3 0))), (6, .int .i64 r145), (45, c_weirref18_Queue.val r146.1), (46, .int .i64 r146.2)]) (by kernel_rfl) (by kernel_rfl) ?_
    refine OJ.slotOf (d := 7) (op := (.alloc 71)) (cd := c_weirref18_Queue) (u := z_weirref18_Queue) (owed := []) (by kernel_rfl) (alloc_run Ty71) (by kernel_rfl) (by kernel_rfl) (by kernel_rfl) (fun b147 => ?_)
    refine OW.nil ?_
    refine OJ.kst (T := 71) (y := .tmp 7) (z := .tmp 45) (cd := c_weirref18_Queue) (u := r146.1) (j := 0) (b := b147) (o := 0) (c_weirref18_Queue.enc r146.1) (h2 := [(b147, c_weirref18_Queue.enc r146.1), (b3, c_weirlaw18_Side.enc z_weirlaw18_Side), (b2, c_weirlaw18_Op.enc a1), (b1, c_weirlaw18_Side.enc a0)]) (owed := []) (by kernel_rfl) (by kernel_rfl) (by kernel_rfl) Ty71 rfl (Upd.whole ((Cod.len _ _).trans (Cod.len _ _).symm)) (by kernel_rfl) (by kernel_rfl) rfl ?_
    refine OW.nil ?_
    refine OJ.run [14] [] [2, 4, 6, 7, 8] (m2 := [(2, .pointer (some (pt b1 0))), (4, .pointer (some (pt b3 0))), (6, .int .i64 r145), (7, .pointer (some (pt b147 0))), (8, .int .i64 r146.2)]) (by kernel_rfl) (by kernel_rfl) ?_
    refine OJ.nil ?_
    refine SJ.seq (by kernel_rfl) ?_
    refine SJ.region (id := 5) (by kernel_rfl) [0, 1, 2] (by kernel_rfl) ?_
    refine OJ.kld (d := 47) (T := 71) (y := .tmp 7) (cd := c_weirref18_Queue) (j := 0) (b := b147) (o := 0) r146.1 (pend2 := []) (by kernel_rfl) (by kernel_rfl) Ty71 (by kernel_rfl) rfl (At.whole _) (by kernel_rfl) rfl ?_
    refine OJ.run [1] [2] [2, 4, 6, 8, 47, 48] (m2 := [(2, .pointer (some (pt b1 0))), (4, .pointer (some (pt b3 0))), (6, .int .i64 r145), (8, .int .i64 r146.2), (47, c_weirref18_Queue.val r146.1), (48, .pointer (some (pt b1 1)))]) (by kernel_rfl) (by kernel_rfl) ?_
    refine OJ.kst (T := 71) (y := .tmp 48) (z := .tmp 47) (cd := c_weirref18_Queue) (u := r146.1) (j := 3) (b := b1) (o := 1) (c_weirlaw18_Side.enc (⟨a0.Q, r146.1⟩ : weirlaw18_Side)) (h2 := [(b147, c_weirref18_Queue.enc r146.1), (b3, c_weirlaw18_Side.enc z_weirlaw18_Side), (b2, c_weirlaw18_Op.enc a1), (b1, c_weirlaw18_Side.enc (⟨a0.Q, r146.1⟩ : weirlaw18_Side))]) (owed := []) (by kernel_rfl) (by kernel_rfl) (by kernel_rfl) Ty71 rfl (Up_weirlaw18_Side_R a0 r146.1) (by kernel_rfl) (by kernel_rfl) rfl ?_
    refine OW.nil ?_
    refine OJ.nil ?_
    refine SJ.seq (by kernel_rfl) ?_
    refine SJ.draw (id := 6) (kd := [1, 0, 2, 0, 0, 2, 0]) (bef := [0, 0, 2, 0, 14, 7, 63]) (ord := [0, 1, 2, 3, 4, 5, 6]) (by kernel_rfl) mixed (by kernel_rfl) ?_
    refine OJ.kld (d := 49) (T := 73) (y := .tmp 2) (cd := c_weirlaw18_Side) (j := 3) (b := b1) (o := 0) (⟨a0.Q, r146.1⟩ : weirlaw18_Side) (pend2 := [⟨0, 73, (pt b1 0), c_weirlaw18_Side.val (⟨a0.Q, r146.1⟩ : weirlaw18_Side)⟩]) (by kernel_rfl) (by kernel_rfl) Ty73 (by kernel_rfl) rfl (At.whole _) (by kernel_rfl) rfl ?_
    refine OJ.run [1] [2, 3, 4, 5, 6] [4, 8, 49, 50] (m2 := [(4, .pointer (some (pt b3 0))), (8, .int .i64 r146.2), (49, c_weirlaw18_Side.val (⟨a0.Q, r146.1⟩ : weirlaw18_Side)), (50, .int .i64 r145)]) (by kernel_rfl) (by kernel_rfl) ?_
    refine OJ.call (d := 51) (g := 17) (ats := #[35]) (args := [.tmp 50]) (vals := [.int .i64 r145]) (owed := [⟨0, 73, (pt b1 0), c_weirlaw18_Side.val (⟨a0.Q, r146.1⟩ : weirlaw18_Side)⟩]) (by kernel_rfl) F17 (by kernel_rfl) (weirlaw18_num_ok r145) (by kernel_rfl) (by kernel_rfl) (by kernel_rfl) (fun r148 => ?_)
    refine OW.known (j := 3) (q := (⟨a0.Q, r146.1⟩ : weirlaw18_Side)) Ty73 rfl (At.whole _) ?_
    refine OW.nil ?_
    refine OJ.run [3, 4] [5, 6] [4, 49, 53] (m2 := [(4, .pointer (some (pt b3 0))), (49, c_weirlaw18_Side.val (⟨a0.Q, r146.1⟩ : weirlaw18_Side)), (53, .bool (r148 == r146.2))]) (by kernel_rfl) (by kernel_rfl) ?_
    refine OJ.kst (T := 73) (y := .tmp 4) (z := .tmp 49) (cd := c_weirlaw18_Side) (u := (⟨a0.Q, r146.1⟩ : weirlaw18_Side)) (j := 1) (b := b3) (o := 0) (c_weirlaw18_Side.enc (⟨a0.Q, r146.1⟩ : weirlaw18_Side)) (h2 := [(b147, c_weirref18_Queue.enc r146.1), (b3, c_weirlaw18_Side.enc (⟨a0.Q, r146.1⟩ : weirlaw18_Side)), (b2, c_weirlaw18_Op.enc a1), (b1, c_weirlaw18_Side.enc (⟨a0.Q, r146.1⟩ : weirlaw18_Side))]) (owed := []) (by kernel_rfl) (by kernel_rfl) (by kernel_rfl) Ty73 rfl (Upd.whole ((Cod.len _ _).trans (Cod.len _ _).symm)) (by kernel_rfl) (by kernel_rfl) rfl ?_
    refine OW.nil ?_
    refine OJ.run [6] [] [4, 5] (m2 := [(4, .pointer (some (pt b3 0))), (5, .bool (r148 == r146.2))]) (by kernel_rfl) (by kernel_rfl) ?_
    refine OJ.nil ?_
    exact SJ.ret (by kernel_rfl) rfl (Res.run (ys := [c_weirlaw18_Side.val (⟨a0.Q, r146.1⟩ : weirlaw18_Side), .bool (r148 == r146.2)]) (.cell (j := 1) (b := b3) (cd := c_weirlaw18_Side) (q := (⟨a0.Q, r146.1⟩ : weirlaw18_Side)) (by kernel_rfl) rfl Ty73 (At.whole _) (.tmp (by kernel_rfl) .nil)) rfl)
  · refine SJ.seq (by kernel_rfl) ?_
    refine SJ.region (id := 7) (by kernel_rfl) [0, 1] (by kernel_rfl) ?_
    refine OJ.run [0, 1] [] [2, 3, 4, 23, 54] (m2 := [(2, .pointer (some (pt b1 0))), (3, .pointer (some (pt b2 0))), (4, .pointer (some (pt b3 0))), (23, .int .i64 a1.Kind), (54, .bool (a1.Kind == 2))]) (by kernel_rfl) (by kernel_rfl) ?_
    refine OJ.nil ?_
    refine SJ.cond (t := (.tmp 54)) (b := (a1.Kind == 2)) (by kernel_rfl) (by kernel_rfl) beq_iff_eq (fun hc285 => ?_) (fun hc285 => ?_)
    · refine SJ.seq (by kernel_rfl) ?_
      refine SJ.region (id := 8) (by kernel_rfl) [0, 1, 2, 3, 4, 5, 6, 7, 8, 9] (by kernel_rfl) ?_
      refine OJ.run [0] [1, 2, 3, 4, 5, 6, 7, 8, 9] [2, 4, 57] (m2 := [(2, .pointer (some (pt b1 0))), (4, .pointer (some (pt b3 0))), (57, .pointer (some (pt b1 0)))]) (by kernel_rfl) (by kernel_rfl) ?_
      refine OJ.kld (d := 58) (T := 29) (y := .tmp 57) (cd := cP) (j := 2) (b := b1) (o := 0) a0.Q (pend2 := []) (by kernel_rfl) (by kernel_rfl) Ty29 (by kernel_rfl) rfl (At_weirlaw18_Side_Q a0) (by kernel_rfl) rfl ?_
      refine OJ.call (d := 59) (g := 19) (ats := #[29]) (args := [.tmp 58]) (vals := [.pointer a0.Q]) (owed := []) (by kernel_rfl) F19 (by kernel_rfl) (queue_Queue_Pop_ok a0.Q) (by kernel_rfl) (by kernel_rfl) (by kernel_rfl) (fun r217 => ?_)
      refine OW.nil ?_
      refine OJ.run [3, 4, 5, 6, 7, 8, 9] [] [2, 4, 9, 10, 11] (m2 := [(2, .pointer (some (pt b1 0))), (4, .pointer (some (pt b3 0))), (9, .int .i64 r217.1), (10, .int .i64 r217.2.1), (11, .bool r217.2.2)]) (by kernel_rfl) (by kernel_rfl) ?_
      refine OJ.nil ?_
      refine SJ.seq (by kernel_rfl) ?_
      refine SJ.region (id := 9) (by kernel_rfl) [0, 1, 2, 3, 4, 5, 6, 7, 8, 9, 10, 11, 12] (by kernel_rfl) ?_
      refine OJ.run [0] [1, 2, 3, 4, 5, 6, 7, 8, 9, 10, 11, 12] [2, 4, 9, 10, 11, 64] (m2 := [(2, .pointer (some (pt b1 0))), (4, .pointer (some (pt b3 0))), (9, .int .i64 r217.1), (10, .int .i64 r217.2.1), (11, .bool r217.2.2), (64, .pointer (some (pt b1 1)))]) (by kernel_rfl) (by kernel_rfl) ?_
      refine OJ.kld (d := 65) (T := 71) (y := .tmp 64) (cd := c_weirref18_Queue) (j := 2) (b := b1) (o := 1) a0.R (pend2 := []) (by kernel_rfl) (by kernel_rfl) Ty71 (by kernel_rfl) rfl (At_weirlaw18_Side_R a0) (by kernel_rfl) rfl ?_
      refine OJ.call (d := 66) (g := 53) (ats := #[71]) (args := [.tmp 65]) (vals := [c_weirref18_Queue.val a0.R]) (owed := []) (by kernel_rfl) F53 (by kernel_rfl) (weirref18_Pop_ok a0.R) (by kernel_rfl) (by kernel_rfl) (by kernel_rfl) (fun r218 => ?_)
      refine OW.nil ?_
      refine OJ.run [3, 4, 5, 6, 7] [8, 9, 10, 11, 12] [2, 4, 9, 10, 11, 67, 68, 69, 70] (m2 := [(2, .pointer (some (pt b1 0))), (4, .pointer (some (pt b3 0))), (9, .int .i64 r217.1), (10, .int .i64 r217.2.1), (11, .bool r217.2.2), (67, c_weirref18_Queue.val r218.1), (68, .int .i64 r218.2.1), (69, .int .i64 r218.2.2.1), (70, .bool r218.2.2.2)]) (by kernel_rfl) (by kernel_rfl) ?_
      refine OJ.slotOf (d := 12) (op := (.alloc 71)) (cd := c_weirref18_Queue) (u := z_weirref18_Queue) (owed := []) (by kernel_rfl) (alloc_run Ty71) (by kernel_rfl) (by kernel_rfl) (by kernel_rfl) (fun b219 => ?_)
      refine OW.nil ?_
      refine OJ.kst (T := 71) (y := .tmp 12) (z := .tmp 67) (cd := c_weirref18_Queue) (u := r218.1) (j := 0) (b := b219) (o := 0) (c_weirref18_Queue.enc r218.1) (h2 := [(b219, c_weirref18_Queue.enc r218.1), (b3, c_weirlaw18_Side.enc z_weirlaw18_Side), (b2, c_weirlaw18_Op.enc a1), (b1, c_weirlaw18_Side.enc a0)]) (owed := []) (by kernel_rfl) (by kernel_rfl) (by kernel_rfl) Ty71 rfl (Upd.whole ((Cod.len _ _).trans (Cod.len _ _).symm)) (by kernel_rfl) (by kernel_rfl) rfl ?_
      refine OW.nil ?_
      refine OJ.run [10, 11, 12] [] [2, 4, 9, 10, 11, 12, 13, 14, 15] (m2 := [(2, .pointer (some (pt b1 0))), (4, .pointer (some (pt b3 0))), (9, .int .i64 r217.1), (10, .int .i64 r217.2.1), (11, .bool r217.2.2), (12, .pointer (some (pt b219 0))), (13, .int .i64 r218.2.1), (14, .int .i64 r218.2.2.1), (15, .bool r218.2.2.2)]) (by kernel_rfl) (by kernel_rfl) ?_
      refine OJ.nil ?_
      refine SJ.seq (by kernel_rfl) ?_
      refine SJ.region (id := 10) (by kernel_rfl) [0, 1, 2] (by kernel_rfl) ?_
      refine OJ.kld (d := 71) (T := 71) (y := .tmp 12) (cd := c_weirref18_Queue) (j := 0) (b := b219) (o := 0) r218.1 (pend2 := []) (by kernel_rfl) (by kernel_rfl) Ty71 (by kernel_rfl) rfl (At.whole _) (by kernel_rfl) rfl ?_
      refine OJ.run [1] [2] [2, 4, 9, 10, 11, 13, 14, 15, 71, 72] (m2 := [(2, .pointer (some (pt b1 0))), (4, .pointer (some (pt b3 0))), (9, .int .i64 r217.1), (10, .int .i64 r217.2.1), (11, .bool r217.2.2), (13, .int .i64 r218.2.1), (14, .int .i64 r218.2.2.1), (15, .bool r218.2.2.2), (71, c_weirref18_Queue.val r218.1), (72, .pointer (some (pt b1 1)))]) (by kernel_rfl) (by kernel_rfl) ?_
      refine OJ.kst (T := 71) (y := .tmp 72) (z := .tmp 71) (cd := c_weirref18_Queue) (u := r218.1) (j := 3) (b := b1) (o := 1) (c_weirlaw18_Side.enc (⟨a0.Q, r218.1⟩ : weirlaw18_Side)) (h2 := [(b219, c_weirref18_Queue.enc r218.1), (b3, c_weirlaw18_Side.enc z_weirlaw18_Side), (b2, c_weirlaw18_Op.enc a1), (b1, c_weirlaw18_Side.enc (⟨a0.Q, r218.1⟩ : weirlaw18_Side))]) (owed := []) (by kernel_rfl) (by kernel_rfl) (by kernel_rfl) Ty71 rfl (Up_weirlaw18_Side_R a0 r218.1) (by kernel_rfl) (by kernel_rfl) rfl ?_
      refine OW.nil ?_
      refine OJ.nil ?_
      refine SJ.seq (by kernel_rfl) ?_
      refine SJ.region (id := 11) (by kernel_rfl) [0, 1, 2, 3, 4, 5, 6, 7, 8, 9, 10, 11, 12, 13, 14, 15] (by kernel_rfl) ?_
      refine OJ.kld (d := 73) (T := 73) (y := .tmp 2) (cd := c_weirlaw18_Side) (j := 3) (b := b1) (o := 0) (⟨a0.Q, r218.1⟩ : weirlaw18_Side) (pend2 := []) (by kernel_rfl) (by kernel_rfl) Ty73 (by kernel_rfl) rfl (At.whole _) (by kernel_rfl) rfl ?_
      refine OJ.run [1, 2, 3, 4] [5, 6, 7, 8, 9, 10, 11, 12, 13, 14, 15] [4, 10, 11, 14, 15, 73, 77] (m2 := [(4, .pointer (some (pt b3 0))), (10, .int .i64 r217.2.1), (11, .bool r217.2.2), (14, .int .i64 r218.2.2.1), (15, .bool r218.2.2.2), (73, c_weirlaw18_Side.val (⟨a0.Q, r218.1⟩ : weirlaw18_Side)), (77, .bool (r217.1 == r218.2.1))]) (by kernel_rfl) (by kernel_rfl) ?_
      refine OJ.join (b := (r217.1 == r218.2.1)) [5, 6, 7, 8] [9, 10, 11, 12, 13, 14, 15] [4, 11, 15, 73, 81] (fun y220 => [(4, .pointer (some (pt b3 0))), (11, .bool r217.2.2), (15, .bool r218.2.2.2), (73, c_weirlaw18_Side.val (⟨a0.Q, r218.1⟩ : weirlaw18_Side)), (81, .bool y220)]) [] [] (by kernel_rfl) (t := 77) (by kernel_rfl) beq_iff_eq (fun hp_ => ?_) (fun hp_ => ?_) (by kernel_rfl) (fun _ _ _ _ _ _ h_ => h_) (fun y220 => ?_)
      · refine OJ.run [5, 6, 7, 8] [] [4, 11, 15, 73, 81] (m2 := [(4, .pointer (some (pt b3 0))), (11, .bool r217.2.2), (15, .bool r218.2.2.2), (73, c_weirlaw18_Side.val (⟨a0.Q, r218.1⟩ : weirlaw18_Side)), (81, .bool (r217.2.1 == r218.2.2.1))]) (by kernel_rfl) (by kernel_rfl) ?_
        exact OJ.nil ⟨(Cov.mem Cov.nil), rfl, _, rfl, by kernel_rfl⟩
      · refine OJ.run [5, 6, 7, 8] [] [4, 11, 15, 73, 81] (m2 := [(4, .pointer (some (pt b3 0))), (11, .bool r217.2.2), (15, .bool r218.2.2.2), (73, c_weirlaw18_Side.val (⟨a0.Q, r218.1⟩ : weirlaw18_Side)), (81, .bool false)]) (by kernel_rfl) (by kernel_rfl) ?_
        exact OJ.nil ⟨(Cov.mem Cov.nil), rfl, _, rfl, by kernel_rfl⟩
      · refine OJ.run [9] [10, 11, 12, 13, 14, 15] [4, 11, 15, 73, 82] (m2 := [(4, .pointer (some (pt b3 0))), (11, .bool r217.2.2), (15, .bool r218.2.2.2), (73, c_weirlaw18_Side.val (⟨a0.Q, r218.1⟩ : weirlaw18_Side)), (82, .bool y220)]) (by kernel_rfl) (by kernel_rfl) ?_
        refine OJ.join (b := y220) [10, 11, 12, 13] [14, 15] [4, 73, 86] (fun y221 => [(4, .pointer (some (pt b3 0))), (73, c_weirlaw18_Side.val (⟨a0.Q, r218.1⟩ : weirlaw18_Side)), (86, .bool y221)]) [] [] (by kernel_rfl) (t := 82) (by kernel_rfl) Iff.rfl (fun hp_ => ?_) (fun hp_ => ?_) (by kernel_rfl) (fun _ _ _ _ _ _ h_ => h_) (fun y221 => ?_)
        · refine OJ.run [10, 11, 12, 13] [] [4, 73, 86] (m2 := [(4, .pointer (some (pt b3 0))), (73, c_weirlaw18_Side.val (⟨a0.Q, r218.1⟩ : weirlaw18_Side)), (86, .bool (r217.2.2 == r218.2.2.2))]) (by kernel_rfl) (by kernel_rfl) ?_
          exact OJ.nil ⟨(Cov.mem Cov.nil), rfl, _, rfl, by kernel_rfl⟩
        · refine OJ.run [10, 11, 12, 13] [] [4, 73, 86] (m2 := [(4, .pointer (some (pt b3 0))), (73, c_weirlaw18_Side.val (⟨a0.Q, r218.1⟩ : weirlaw18_Side)), (86, .bool false)]) (by kernel_rfl) (by kernel_rfl) ?_
          exact OJ.nil ⟨(Cov.mem Cov.nil), rfl, _, rfl, by kernel_rfl⟩
        · refine OJ.kst (T := 73) (y := .tmp 4) (z := .tmp 73) (cd := c_weirlaw18_Side) (u := (⟨a0.Q, r218.1⟩ : weirlaw18_Side)) (j := 1) (b := b3) (o := 0) (c_weirlaw18_Side.enc (⟨a0.Q, r218.1⟩ : weirlaw18_Side)) (h2 := [(b219, c_weirref18_Queue.enc r218.1), (b3, c_weirlaw18_Side.enc (⟨a0.Q, r218.1⟩ : weirlaw18_Side)), (b2, c_weirlaw18_Op.enc a1), (b1, c_weirlaw18_Side.enc (⟨a0.Q, r218.1⟩ : weirlaw18_Side))]) (owed := []) (by kernel_rfl) (by kernel_rfl) (by kernel_rfl) Ty73 rfl (Upd.whole ((Cod.len _ _).trans (Cod.len _ _).symm)) (by kernel_rfl) (by kernel_rfl) rfl ?_
          refine OW.nil ?_
          refine OJ.run [15] [] [4, 5] (m2 := [(4, .pointer (some (pt b3 0))), (5, .bool y221)]) (by kernel_rfl) (by kernel_rfl) ?_
          refine OJ.nil ?_
          exact SJ.ret (by kernel_rfl) rfl (Res.run (ys := [c_weirlaw18_Side.val (⟨a0.Q, r218.1⟩ : weirlaw18_Side), .bool y221]) (.cell (j := 1) (b := b3) (cd := c_weirlaw18_Side) (q := (⟨a0.Q, r218.1⟩ : weirlaw18_Side)) (by kernel_rfl) rfl Ty73 (At.whole _) (.tmp (by kernel_rfl) .nil)) rfl)
    · refine SJ.seq (by kernel_rfl) ?_
      refine SJ.region (id := 12) (by kernel_rfl) [0, 1] (by kernel_rfl) ?_
      refine OJ.run [0, 1] [] [2, 3, 4, 23, 87] (m2 := [(2, .pointer (some (pt b1 0))), (3, .pointer (some (pt b2 0))), (4, .pointer (some (pt b3 0))), (23, .int .i64 a1.Kind), (87, .bool (a1.Kind == 3))]) (by kernel_rfl) (by kernel_rfl) ?_
      refine OJ.nil ?_
      refine SJ.cond (t := (.tmp 87)) (b := (a1.Kind == 3)) (by kernel_rfl) (by kernel_rfl) beq_iff_eq (fun hc284 => ?_) (fun hc284 => ?_)
      · refine SJ.seq (by kernel_rfl) ?_
        refine SJ.region (id := 13) (by kernel_rfl) [0, 1, 2, 3, 4, 5, 6, 7, 8, 9] (by kernel_rfl) ?_
        refine OJ.run [0] [1, 2, 3, 4, 5, 6, 7, 8, 9] [2, 4, 90] (m2 := [(2, .pointer (some (pt b1 0))), (4, .pointer (some (pt b3 0))), (90, .pointer (some (pt b1 0)))]) (by kernel_rfl) (by kernel_rfl) ?_
        refine OJ.kld (d := 91) (T := 29) (y := .tmp 90) (cd := cP) (j := 2) (b := b1) (o := 0) a0.Q (pend2 := []) (by kernel_rfl) (by kernel_rfl) Ty29 (by kernel_rfl) rfl (At_weirlaw18_Side_Q a0) (by kernel_rfl) rfl ?_
        refine OJ.call (d := 92) (g := 31) (ats := #[29]) (args := [.tmp 91]) (vals := [.pointer a0.Q]) (owed := []) (by kernel_rfl) F31 (by kernel_rfl) (queue_Queue_Peek_ok a0.Q) (by kernel_rfl) (by kernel_rfl) (by kernel_rfl) (fun r253 => ?_)
        refine OW.nil ?_
        refine OJ.run [3, 4, 5, 6, 7, 8, 9] [] [2, 4, 16, 17, 18] (m2 := [(2, .pointer (some (pt b1 0))), (4, .pointer (some (pt b3 0))), (16, .int .i64 r253.1), (17, .int .i64 r253.2.1), (18, .bool r253.2.2)]) (by kernel_rfl) (by kernel_rfl) ?_
        refine OJ.nil ?_
        refine SJ.seq (by kernel_rfl) ?_
        refine SJ.region (id := 14) (by kernel_rfl) [0, 1, 2, 3, 4, 5, 6, 7, 8, 9] (by kernel_rfl) ?_
        refine OJ.run [0] [1, 2, 3, 4, 5, 6, 7, 8, 9] [2, 4, 16, 17, 18, 97] (m2 := [(2, .pointer (some (pt b1 0))), (4, .pointer (some (pt b3 0))), (16, .int .i64 r253.1), (17, .int .i64 r253.2.1), (18, .bool r253.2.2), (97, .pointer (some (pt b1 1)))]) (by kernel_rfl) (by kernel_rfl) ?_
        refine OJ.kld (d := 98) (T := 71) (y := .tmp 97) (cd := c_weirref18_Queue) (j := 2) (b := b1) (o := 1) a0.R (pend2 := []) (by kernel_rfl) (by kernel_rfl) Ty71 (by kernel_rfl) rfl (At_weirlaw18_Side_R a0) (by kernel_rfl) rfl ?_
        refine OJ.call (d := 99) (g := 54) (ats := #[71]) (args := [.tmp 98]) (vals := [c_weirref18_Queue.val a0.R]) (owed := []) (by kernel_rfl) F54 (by kernel_rfl) (weirref18_Peek_ok a0.R) (by kernel_rfl) (by kernel_rfl) (by kernel_rfl) (fun r254 => ?_)
        refine OW.nil ?_
        refine OJ.run [3, 4, 5, 6, 7, 8, 9] [] [2, 4, 16, 17, 18, 19, 20, 21] (m2 := [(2, .pointer (some (pt b1 0))), (4, .pointer (some (pt b3 0))), (16, .int .i64 r253.1), (17, .int .i64 r253.2.1), (18, .bool r253.2.2), (19, .int .i64 r254.1), (20, .int .i64 r254.2.1), (21, .bool r254.2.2)]) (by kernel_rfl) (by kernel_rfl) ?_
        refine OJ.nil ?_
        refine SJ.seq (by kernel_rfl) ?_
        refine SJ.region (id := 15) (by kernel_rfl) [0, 1, 2, 3, 4, 5, 6, 7, 8, 9, 10, 11, 12, 13, 14, 15] (by kernel_rfl) ?_
        refine OJ.kld (d := 103) (T := 73) (y := .tmp 2) (cd := c_weirlaw18_Side) (j := 2) (b := b1) (o := 0) a0 (pend2 := []) (by kernel_rfl) (by kernel_rfl) Ty73 (by kernel_rfl) rfl (At.whole _) (by kernel_rfl) rfl ?_
        refine OJ.run [1, 2, 3, 4] [5, 6, 7, 8, 9, 10, 11, 12, 13, 14, 15] [4, 17, 18, 20, 21, 103, 107] (m2 := [(4, .pointer (some (pt b3 0))), (17, .int .i64 r253.2.1), (18, .bool r253.2.2), (20, .int .i64 r254.2.1), (21, .bool r254.2.2), (103, c_weirlaw18_Side.val a0), (107, .bool (r253.1 == r254.1))]) (by kernel_rfl) (by kernel_rfl) ?_
        refine OJ.join (b := (r253.1 == r254.1)) [5, 6, 7, 8] [9, 10, 11, 12, 13, 14, 15] [4, 18, 21, 103, 111] (fun y255 => [(4, .pointer (some (pt b3 0))), (18, .bool r253.2.2), (21, .bool r254.2.2), (103, c_weirlaw18_Side.val a0), (111, .bool y255)]) [] [] (by kernel_rfl) (t := 107) (by kernel_rfl) beq_iff_eq (fun hp_ => ?_) (fun hp_ => ?_) (by kernel_rfl) (fun _ _ _ _ _ _ h_ => h_) (fun y255 => ?_)
        · refine OJ.run [5, 6, 7, 8] [] [4, 18, 21, 103, 111] (m2 := [(4, .pointer (some (pt b3 0))), (18, .bool r253.2.2), (21, .bool r254.2.2), (103, c_weirlaw18_Side.val a0), (111, .bool (r253.2.1 == r254.2.1))]) (by kernel_rfl) (by kernel_rfl) ?_
          exact OJ.nil ⟨(Cov.mem Cov.nil), rfl, _, rfl, by kernel_rfl⟩
        · refine OJ.run [5, 6, 7, 8] [] [4, 18, 21, 103, 111] (m2 := [(4, .pointer (some (pt b3 0))), (18, .bool r253.2.2), (21, .bool r254.2.2), (103, c_weirlaw18_Side.val a0), (111, .bool false)]) (by kernel_rfl) (by kernel_rfl) ?_
          exact OJ.nil ⟨(Cov.mem Cov.nil), rfl, _, rfl, by kernel_rfl⟩
        · refine OJ.run [9] [10, 11, 12, 13, 14, 15] [4, 18, 21, 103, 112] (m2 := [(4, .pointer (some (pt b3 0))), (18, .bool r253.2.2), (21, .bool r254.2.2), (103, c_weirlaw18_Side.val a0), (112, .bool y255)]) (by kernel_rfl) (by kernel_rfl) ?_
          refine OJ.join (b := y255) [10, 11, 12, 13] [14, 15] [4, 103, 116] (fun y256 => [(4, .pointer (some (pt b3 0))), (103, c_weirlaw18_Side.val a0), (116, .bool y256)]) [] [] (by kernel_rfl) (t := 112) (by kernel_rfl) Iff.rfl (fun hp_ => ?_) (fun hp_ => ?_) (by kernel_rfl) (fun _ _ _ _ _ _ h_ => h_) (fun y256 => ?_)
          · refine OJ.run [10, 11, 12, 13] [] [4, 103, 116] (m2 := [(4, .pointer (some (pt b3 0))), (103, c_weirlaw18_Side.val a0), (116, .bool (r253.2.2 == r254.2.2))]) (by kernel_rfl) (by kernel_rfl) ?_
            exact OJ.nil ⟨(Cov.mem Cov.nil), rfl, _, rfl, by kernel_rfl⟩
          · refine OJ.run [10, 11, 12, 13] [] [4, 103, 116] (m2 := [(4, .pointer (some (pt b3 0))), (103, c_weirlaw18_Side.val a0), (116, .bool false)]) (by kernel_rfl) (by kernel_rfl) ?_
            exact OJ.nil ⟨(Cov.mem Cov.nil), rfl, _, rfl, by kernel_rfl⟩
          · refine OJ.kst (T := 73) (y := .tmp 4) (z := .tmp 103) (cd := c_weirlaw18_Side) (u := a0) (j := 0) (b := b3) (o := 0) (c_weirlaw18_Side.enc a0) (h2 := [(b3, c_weirlaw18_Side.enc a0), (b2, c_weirlaw18_Op.enc a1), (b1, c_weirlaw18_Side.enc a0)]) (owed := []) (by kernel_rfl) (by kernel_rfl) (by kernel_rfl) Ty73 rfl (Upd.whole ((Cod.len _ _).trans (Cod.len _ _).symm)) (by kernel_rfl) (by kernel_rfl) rfl ?_
            refine OW.nil ?_
            refine OJ.run [15] [] [4, 5] (m2 := [(4, .pointer (some (pt b3 0))), (5, .bool y256)]) (by kernel_rfl) (by kernel_rfl) ?_
            refine OJ.nil ?_
            exact SJ.ret (by kernel_rfl) rfl (Res.run (ys := [c_weirlaw18_Side.val a0, .bool y256]) (.cell (j := 0) (b := b3) (cd := c_weirlaw18_Side) (q := a0) (by kernel_rfl) rfl Ty73 (At.whole _) (.tmp (by kernel_rfl) .nil)) rfl)
      · refine SJ.seq (by kernel_rfl) ?_
        refine SJ.region (id := 16) (by kernel_rfl) [0, 1] (by kernel_rfl) ?_
        refine OJ.run [0, 1] [] [2, 3, 4, 23, 117] (m2 := [(2, .pointer (some (pt b1 0))), (3, .pointer (some (pt b2 0))), (4, .pointer (some (pt b3 0))), (23, .int .i64 a1.Kind), (117, .bool (a1.Kind == 4))]) (by kernel_rfl) (by kernel_rfl) ?_
        refine OJ.nil ?_
        refine SJ.cond (t := (.tmp 117)) (b := (a1.Kind == 4)) (by kernel_rfl) (by kernel_rfl) beq_iff_eq (fun hc283 => ?_) (fun hc283 => ?_)
        · refine SJ.seq (by kernel_rfl) ?_
          refine SJ.region (id := 17) (by kernel_rfl) [0, 1, 2] (by kernel_rfl) ?_
          refine OJ.run [0] [1, 2] [2, 4, 119] (m2 := [(2, .pointer (some (pt b1 0))), (4, .pointer (some (pt b3 0))), (119, .pointer (some (pt b1 0)))]) (by kernel_rfl) (by kernel_rfl) ?_
          refine OJ.kld (d := 120) (T := 29) (y := .tmp 119) (cd := cP) (j := 2) (b := b1) (o := 0) a0.Q (pend2 := []) (by kernel_rfl) (by kernel_rfl) Ty29 (by kernel_rfl) rfl (At_weirlaw18_Side_Q a0) (by kernel_rfl) rfl ?_
          refine OJ.call (d := 121) (g := 26) (ats := #[29]) (args := [.tmp 120]) (vals := [.pointer a0.Q]) (owed := []) (by kernel_rfl) F26 (by kernel_rfl) (queue_Queue_Tick_ok a0.Q) (by kernel_rfl) (by kernel_rfl) (by kernel_rfl) (fun r270 => ?_)
          refine OW.nil ?_
          refine OJ.nil ?_
          refine SJ.region (id := 18) (by kernel_rfl) [0, 1, 2, 3, 4] (by kernel_rfl) ?_
          refine OJ.run [0] [1, 2, 3, 4] [2, 4, 122] (m2 := [(2, .pointer (some (pt b1 0))), (4, .pointer (some (pt b3 0))), (122, .pointer (some (pt b1 1)))]) (by kernel_rfl) (by kernel_rfl) ?_
          refine OJ.kld (d := 123) (T := 71) (y := .tmp 122) (cd := c_weirref18_Queue) (j := 2) (b := b1) (o := 1) a0.R (pend2 := []) (by kernel_rfl) (by kernel_rfl) Ty71 (by kernel_rfl) rfl (At_weirlaw18_Side_R a0) (by kernel_rfl) rfl ?_
          refine OJ.call (d := 124) (g := 55) (ats := #[71]) (args := [.tmp 123]) (vals := [c_weirref18_Queue.val a0.R]) (owed := []) (by kernel_rfl) F55 (by kernel_rfl) (weirref18_Tick_ok a0.R) (by kernel_rfl) (by kernel_rfl) (by kernel_rfl) (fun r271 => ?_)
          refine OW.nil ?_
          refine OJ.run [3] [4] [2, 4, 124, 125] (m2 := [(2, .pointer (some (pt b1 0))), (4, .pointer (some (pt b3 0))), (124, c_weirref18_Queue.val r271), (125, .pointer (some (pt b1 1)))]) (by kernel_rfl) (by kernel_rfl) ?_
          refine OJ.kst (T := 71) (y := .tmp 125) (z := .tmp 124) (cd := c_weirref18_Queue) (u := r271) (j := 2) (b := b1) (o := 1) (c_weirlaw18_Side.enc (⟨a0.Q, r271⟩ : weirlaw18_Side)) (h2 := [(b3, c_weirlaw18_Side.enc z_weirlaw18_Side), (b2, c_weirlaw18_Op.enc a1), (b1, c_weirlaw18_Side.enc (⟨a0.Q, r271⟩ : weirlaw18_Side))]) (owed := []) (by kernel_rfl) (by kernel_rfl) (by kernel_rfl) Ty71 rfl (Up_weirlaw18_Side_R a0 r271) (by kernel_rfl) (by kernel_rfl) rfl ?_
          refine OW.nil ?_
          refine OJ.nil ?_
          refine SJ.inBlock ?_
          refine SJ.seq (by kernel_rfl) ?_
          refine SJ.region (id := 21) (by kernel_rfl) [0, 1, 2] (by kernel_rfl) ?_
          refine OJ.kld (d := 153) (T := 73) (y := .tmp 2) (cd := c_weirlaw18_Side) (j := 2) (b := b1) (o := 0) (⟨a0.Q, r271⟩ : weirlaw18_Side) (pend2 := []) (by kernel_rfl) (by kernel_rfl) Ty73 (by kernel_rfl) rfl (At.whole _) (by kernel_rfl) rfl ?_
          refine OJ.kst (T := 73) (y := .tmp 4) (z := .tmp 153) (cd := c_weirlaw18_Side) (u := (⟨a0.Q, r271⟩ : weirlaw18_Side)) (j := 0) (b := b3) (o := 0) (c_weirlaw18_Side.enc (⟨a0.Q, r271⟩ : weirlaw18_Side)) (h2 := [(b3, c_weirlaw18_Side.enc (⟨a0.Q, r271⟩ : weirlaw18_Side)), (b2, c_weirlaw18_Op.enc a1), (b1, c_weirlaw18_Side.enc (⟨a0.Q, r271⟩ : weirlaw18_Side))]) (owed := []) (by kernel_rfl) (by kernel_rfl) (by kernel_rfl) Ty73 rfl (Upd.whole ((Cod.len _ _).trans (Cod.len _ _).symm)) (by kernel_rfl) (by kernel_rfl) rfl ?_
          refine OW.nil ?_
          refine OJ.run [2] [] [4, 5] (m2 := [(4, .pointer (some (pt b3 0))), (5, .bool true)]) (by kernel_rfl) (by kernel_rfl) ?_
          refine OJ.nil ?_
          exact SJ.ret (by kernel_rfl) rfl (Res.run (ys := [c_weirlaw18_Side.val (⟨a0.Q, r271⟩ : weirlaw18_Side), .bool true]) (.cell (j := 0) (b := b3) (cd := c_weirlaw18_Side) (q := (⟨a0.Q, r271⟩ : weirlaw18_Side)) (by kernel_rfl) rfl Ty73 (At.whole _) (.tmp (by kernel_rfl) .nil)) rfl)
        · refine SJ.seq (by kernel_rfl) ?_
          refine SJ.region (id := 19) (by kernel_rfl) [0, 1] (by kernel_rfl) ?_
          refine OJ.run [0, 1] [] [2, 3, 4, 126] (m2 := [(2, .pointer (some (pt b1 0))), (3, .pointer (some (pt b2 0))), (4, .pointer (some (pt b3 0))), (126, .bool (a1.Kind == 5))]) (by kernel_rfl) (by kernel_rfl) ?_
          refine OJ.nil ?_
          refine SJ.cond (t := (.tmp 126)) (b := (a1.Kind == 5)) (by kernel_rfl) (by kernel_rfl) beq_iff_eq (fun hc282 => ?_) (fun hc282 => ?_)
          · refine SJ.seq (by kernel_rfl) ?_
            refine SJ.draw (id := 20) (kd := [1, 0, 1, 0, 1, 2, 0, 1, 0, 1, 2, 0, 0, 0, 1, 0, 1, 2, 0, 1, 0, 1, 2, 0, 0, 2, 0]) (bef := [0, 0, 2, 0, 8, 30, 0, 64, 0, 256, 1022, 2046, 4094, 8190, 16382, 8190, 40958, 131070, 8190, 270334, 8190, 1056766, 4194302, 8388606, 16777214, 8388607, 67108863]) (ord := [0, 1, 2, 3, 4, 6, 7, 8, 9, 5, 10, 11, 12, 13, 14, 15, 16, 18, 19, 20, 21, 17, 22, 23, 24, 25, 26]) (by kernel_rfl) mixed (by kernel_rfl) ?_
            refine OJ.kld (d := 128) (T := 73) (y := .tmp 2) (cd := c_weirlaw18_Side) (j := 2) (b := b1) (o := 0) a0 (pend2 := [⟨0, 73, (pt b1 0), c_weirlaw18_Side.val a0⟩]) (by kernel_rfl) (by kernel_rfl) Ty73 (by kernel_rfl) rfl (At.whole _) (by kernel_rfl) rfl ?_
            refine OJ.run [1] [2, 3, 4, 6, 7, 8, 9, 5, 10, 11, 12, 13, 14, 15, 16, 18, 19, 20, 21, 17, 22, 23, 24, 25, 26] [2, 3, 4, 128, 129] (m2 := [(2, .pointer (some (pt b1 0))), (3, .pointer (some (pt b2 0))), (4, .pointer (some (pt b3 0))), (128, c_weirlaw18_Side.val a0), (129, .pointer (some (pt b1 0)))]) (by kernel_rfl) (by kernel_rfl) ?_
            refine OJ.kld (d := 130) (T := 29) (y := .tmp 129) (cd := cP) (j := 2) (b := b1) (o := 0) a0.Q (pend2 := [⟨2, 29, (pt b1 0), cP.val a0.Q⟩, ⟨0, 73, (pt b1 0), c_weirlaw18_Side.val a0⟩]) (by kernel_rfl) (by kernel_rfl) Ty29 (by kernel_rfl) rfl (At_weirlaw18_Side_Q a0) (by kernel_rfl) rfl ?_
            refine OJ.run [3] [4, 6, 7, 8, 9, 5, 10, 11, 12, 13, 14, 15, 16, 18, 19, 20, 21, 17, 22, 23, 24, 25, 26] [2, 3, 4, 128, 130, 131] (m2 := [(2, .pointer (some (pt b1 0))), (3, .pointer (some (pt b2 0))), (4, .pointer (some (pt b3 0))), (128, c_weirlaw18_Side.val a0), (130, .pointer a0.Q), (131, .pointer (some (pt b2 2)))]) (by kernel_rfl) (by kernel_rfl) ?_
            refine OJ.kld (d := 132) (T := 3) (y := .tmp 131) (cd := (cI .i64)) (j := 1) (b := b2) (o := 2) a1.Class (pend2 := [⟨4, 3, (pt b2 2), (cI .i64).val a1.Class⟩, ⟨2, 29, (pt b1 0), cP.val a0.Q⟩, ⟨0, 73, (pt b1 0), c_weirlaw18_Side.val a0⟩]) (by kernel_rfl) (by kernel_rfl) Ty3 (by kernel_rfl) rfl (At_weirlaw18_Op_Class a1) (by kernel_rfl) rfl ?_
            refine OJ.run [6] [7, 8, 9, 5, 10, 11, 12, 13, 14, 15, 16, 18, 19, 20, 21, 17, 22, 23, 24, 25, 26] [2, 3, 4, 128, 130, 132, 134] (m2 := [(2, .pointer (some (pt b1 0))), (3, .pointer (some (pt b2 0))), (4, .pointer (some (pt b3 0))), (128, c_weirlaw18_Side.val a0), (130, .pointer a0.Q), (132, .int .i64 a1.Class), (134, .pointer (some (pt b1 1)))]) (by kernel_rfl) (by kernel_rfl) ?_
            refine OJ.kld (d := 135) (T := 71) (y := .tmp 134) (cd := c_weirref18_Queue) (j := 2) (b := b1) (o := 1) a0.R (pend2 := [⟨7, 71, (pt b1 1), c_weirref18_Queue.val a0.R⟩, ⟨4, 3, (pt b2 2), (cI .i64).val a1.Class⟩, ⟨2, 29, (pt b1 0), cP.val a0.Q⟩, ⟨0, 73, (pt b1 0), c_weirlaw18_Side.val a0⟩]) (by kernel_rfl) (by kernel_rfl) Ty71 (by kernel_rfl) rfl (At_weirlaw18_Side_R a0) (by kernel_rfl) rfl ?_
            refine OJ.run [8] [9, 5, 10, 11, 12, 13, 14, 15, 16, 18, 19, 20, 21, 17, 22, 23, 24, 25, 26] [2, 3, 4, 128, 130, 132, 135, 136] (m2 := [(2, .pointer (some (pt b1 0))), (3, .pointer (some (pt b2 0))), (4, .pointer (some (pt b3 0))), (128, c_weirlaw18_Side.val a0), (130, .pointer a0.Q), (132, .int .i64 a1.Class), (135, c_weirref18_Queue.val a0.R), (136, .pointer (some (pt b2 2)))]) (by kernel_rfl) (by kernel_rfl) ?_
            refine OJ.kld (d := 137) (T := 3) (y := .tmp 136) (cd := (cI .i64)) (j := 1) (b := b2) (o := 2) a1.Class (pend2 := [⟨9, 3, (pt b2 2), (cI .i64).val a1.Class⟩, ⟨7, 71, (pt b1 1), c_weirref18_Queue.val a0.R⟩, ⟨4, 3, (pt b2 2), (cI .i64).val a1.Class⟩, ⟨2, 29, (pt b1 0), cP.val a0.Q⟩, ⟨0, 73, (pt b1 0), c_weirlaw18_Side.val a0⟩]) (by kernel_rfl) (by kernel_rfl) Ty3 (by kernel_rfl) rfl (At_weirlaw18_Op_Class a1) (by kernel_rfl) rfl ?_
            refine OJ.call (d := 133) (g := 35) (ats := #[29, 3]) (args := [.tmp 130, .tmp 132]) (vals := [.pointer a0.Q, .int .i64 a1.Class]) (owed := [⟨9, 3, (pt b2 2), (cI .i64).val a1.Class⟩, ⟨7, 71, (pt b1 1), c_weirref18_Queue.val a0.R⟩, ⟨0, 73, (pt b1 0), c_weirlaw18_Side.val a0⟩]) (by kernel_rfl) F35 (by kernel_rfl) (queue_Queue_Len_ok a0.Q a1.Class) (by kernel_rfl) (by kernel_rfl) (by kernel_rfl) (fun r277 => ?_)
            refine OW.known (j := 1) (q := a1.Class) Ty3 rfl (At_weirlaw18_Op_Class a1) ?_
            refine OW.known (j := 2) (q := a0.R) Ty71 rfl (At_weirlaw18_Side_R a0) ?_
            refine OW.known (j := 2) (q := a0) Ty73 rfl (At.whole _) ?_
            refine OW.nil ?_
            refine OJ.call (d := 138) (g := 56) (ats := #[71, 3]) (args := [.tmp 135, .tmp 137]) (vals := [c_weirref18_Queue.val a0.R, .int .i64 a1.Class]) (owed := [⟨0, 73, (pt b1 0), c_weirlaw18_Side.val a0⟩]) (by kernel_rfl) F56 (by kernel_rfl) (weirref18_Len_ok a0.R a1.Class) (by kernel_rfl) (by kernel_rfl) (by kernel_rfl) (fun r278 => ?_)
            refine OW.known (j := 2) (q := a0) Ty73 rfl (At.whole _) ?_
            refine OW.nil ?_
            refine OJ.run [11, 12] [13, 14, 15, 16, 18, 19, 20, 21, 17, 22, 23, 24, 25, 26] [2, 3, 4, 128, 140] (m2 := [(2, .pointer (some (pt b1 0))), (3, .pointer (some (pt b2 0))), (4, .pointer (some (pt b3 0))), (128, c_weirlaw18_Side.val a0), (140, .bool (r277 == r278))]) (by kernel_rfl) (by kernel_rfl) ?_
            refine OJ.join (b := (r277 == r278)) [13, 14, 15, 16, 18, 19, 20, 21, 17, 22, 23, 24] [25, 26] [4, 128, 152] (fun y281 => [(4, .pointer (some (pt b3 0))), (128, c_weirlaw18_Side.val a0), (152, .bool y281)]) [⟨21, 3, (pt b2 2), (cI .i64).val a1.Class⟩, ⟨19, 71, (pt b1 1), c_weirref18_Queue.val a0.R⟩, ⟨16, 3, (pt b2 2), (cI .i64).val a1.Class⟩, ⟨14, 29, (pt b1 0), cP.val a0.Q⟩, ⟨9, 3, (pt b2 2), (cI .i64).val a1.Class⟩, ⟨7, 71, (pt b1 1), c_weirref18_Queue.val a0.R⟩, ⟨4, 3, (pt b2 2), (cI .i64).val a1.Class⟩, ⟨2, 29, (pt b1 0), cP.val a0.Q⟩, ⟨0, 73, (pt b1 0), c_weirlaw18_Side.val a0⟩] [] (by kernel_rfl) (t := 140) (by kernel_rfl) beq_iff_eq (fun hp_ => ?_) (fun hp_ => ?_) (by kernel_rfl) (fun _ _ _ _ _ _ h_ => h_) (fun y281 => ?_)
            · refine OJ.run [13] [14, 15, 16, 18, 19, 20, 21, 17, 22, 23, 24] [2, 3, 4, 128, 140, 141] (m2 := [(2, .pointer (some (pt b1 0))), (3, .pointer (some (pt b2 0))), (4, .pointer (some (pt b3 0))), (128, c_weirlaw18_Side.val a0), (140, .bool true), (141, .pointer (some (pt b1 0)))]) (by kernel_rfl) (by kernel_rfl) ?_
              refine OJ.kld (d := 142) (T := 29) (y := .tmp 141) (cd := cP) (j := 2) (b := b1) (o := 0) a0.Q (pend2 := [⟨14, 29, (pt b1 0), cP.val a0.Q⟩, ⟨9, 3, (pt b2 2), (cI .i64).val a1.Class⟩, ⟨7, 71, (pt b1 1), c_weirref18_Queue.val a0.R⟩, ⟨4, 3, (pt b2 2), (cI .i64).val a1.Class⟩, ⟨2, 29, (pt b1 0), cP.val a0.Q⟩, ⟨0, 73, (pt b1 0), c_weirlaw18_Side.val a0⟩]) (by kernel_rfl) (by kernel_rfl) Ty29 (by kernel_rfl) rfl (At_weirlaw18_Side_Q a0) (by kernel_rfl) rfl ?_
              refine OJ.run [15] [16, 18, 19, 20, 21, 17, 22, 23, 24] [2, 3, 4, 128, 140, 142, 143] (m2 := [(2, .pointer (some (pt b1 0))), (3, .pointer (some (pt b2 0))), (4, .pointer (some (pt b3 0))), (128, c_weirlaw18_Side.val a0), (140, .bool true), (142, .pointer a0.Q), (143, .pointer (some (pt b2 2)))]) (by kernel_rfl) (by kernel_rfl) ?_
              refine OJ.kld (d := 144) (T := 3) (y := .tmp 143) (cd := (cI .i64)) (j := 1) (b := b2) (o := 2) a1.Class (pend2 := [⟨16, 3, (pt b2 2), (cI .i64).val a1.Class⟩, ⟨14, 29, (pt b1 0), cP.val a0.Q⟩, ⟨9, 3, (pt b2 2), (cI .i64).val a1.Class⟩, ⟨7, 71, (pt b1 1), c_weirref18_Queue.val a0.R⟩, ⟨4, 3, (pt b2 2), (cI .i64).val a1.Class⟩, ⟨2, 29, (pt b1 0), cP.val a0.Q⟩, ⟨0, 73, (pt b1 0), c_weirlaw18_Side.val a0⟩]) (by kernel_rfl) (by kernel_rfl) Ty3 (by kernel_rfl) rfl (At_weirlaw18_Op_Class a1) (by kernel_rfl) rfl ?_
              refine OJ.run [18] [19, 20, 21, 17, 22, 23, 24] [3, 4, 128, 140, 142, 144, 146] (m2 := [(3, .pointer (some (pt b2 0))), (4, .pointer (some (pt b3 0))), (128, c_weirlaw18_Side.val a0), (140, .bool true), (142, .pointer a0.Q), (144, .int .i64 a1.Class), (146, .pointer (some (pt b1 1)))]) (by kernel_rfl) (by kernel_rfl) ?_
              refine OJ.kld (d := 147) (T := 71) (y := .tmp 146) (cd := c_weirref18_Queue) (j := 2) (b := b1) (o := 1) a0.R (pend2 := [⟨19, 71, (pt b1 1), c_weirref18_Queue.val a0.R⟩, ⟨16, 3, (pt b2 2), (cI .i64).val a1.Class⟩, ⟨14, 29, (pt b1 0), cP.val a0.Q⟩, ⟨9, 3, (pt b2 2), (cI .i64).val a1.Class⟩, ⟨7, 71, (pt b1 1), c_weirref18_Queue.val a0.R⟩, ⟨4, 3, (pt b2 2), (cI .i64).val a1.Class⟩, ⟨2, 29, (pt b1 0), cP.val a0.Q⟩, ⟨0, 73, (pt b1 0), c_weirlaw18_Side.val a0⟩]) (by kernel_rfl) (by kernel_rfl) Ty71 (by kernel_rfl) rfl (At_weirlaw18_Side_R a0) (by kernel_rfl) rfl ?_
              refine OJ.run [20] [21, 17, 22, 23, 24] [4, 128, 140, 142, 144, 147, 148] (m2 := [(4, .pointer (some (pt b3 0))), (128, c_weirlaw18_Side.val a0), (140, .bool true), (142, .pointer a0.Q), (144, .int .i64 a1.Class), (147, c_weirref18_Queue.val a0.R), (148, .pointer (some (pt b2 2)))]) (by kernel_rfl) (by kernel_rfl) ?_
              refine OJ.kld (d := 149) (T := 3) (y := .tmp 148) (cd := (cI .i64)) (j := 1) (b := b2) (o := 2) a1.Class (pend2 := [⟨21, 3, (pt b2 2), (cI .i64).val a1.Class⟩, ⟨19, 71, (pt b1 1), c_weirref18_Queue.val a0.R⟩, ⟨16, 3, (pt b2 2), (cI .i64).val a1.Class⟩, ⟨14, 29, (pt b1 0), cP.val a0.Q⟩, ⟨9, 3, (pt b2 2), (cI .i64).val a1.Class⟩, ⟨7, 71, (pt b1 1), c_weirref18_Queue.val a0.R⟩, ⟨4, 3, (pt b2 2), (cI .i64).val a1.Class⟩, ⟨2, 29, (pt b1 0), cP.val a0.Q⟩, ⟨0, 73, (pt b1 0), c_weirlaw18_Side.val a0⟩]) (by kernel_rfl) (by kernel_rfl) Ty3 (by kernel_rfl) rfl (At_weirlaw18_Op_Class a1) (by kernel_rfl) rfl ?_
              refine OJ.call (d := 145) (g := 36) (ats := #[29, 3]) (args := [.tmp 142, .tmp 144]) (vals := [.pointer a0.Q, .int .i64 a1.Class]) (owed := [⟨21, 3, (pt b2 2), (cI .i64).val a1.Class⟩, ⟨19, 71, (pt b1 1), c_weirref18_Queue.val a0.R⟩, ⟨0, 73, (pt b1 0), c_weirlaw18_Side.val a0⟩]) (by kernel_rfl) F36 (by kernel_rfl) (queue_Queue_Bytes_ok a0.Q a1.Class) (by kernel_rfl) (by kernel_rfl) (by kernel_rfl) (fun r279 => ?_)
              refine OW.known (j := 1) (q := a1.Class) Ty3 rfl (At_weirlaw18_Op_Class a1) ?_
              refine OW.known (j := 2) (q := a0.R) Ty71 rfl (At_weirlaw18_Side_R a0) ?_
              refine OW.known (j := 2) (q := a0) Ty73 rfl (At.whole _) ?_
              refine OW.nil ?_
              refine OJ.call (d := 150) (g := 57) (ats := #[71, 3]) (args := [.tmp 147, .tmp 149]) (vals := [c_weirref18_Queue.val a0.R, .int .i64 a1.Class]) (owed := [⟨0, 73, (pt b1 0), c_weirlaw18_Side.val a0⟩]) (by kernel_rfl) F57 (by kernel_rfl) (weirref18_Bytes_ok a0.R a1.Class) (by kernel_rfl) (by kernel_rfl) (by kernel_rfl) (fun r280 => ?_)
              refine OW.known (j := 2) (q := a0) Ty73 rfl (At.whole _) ?_
              refine OW.nil ?_
              refine OJ.run [23, 24] [] [4, 128, 152] (m2 := [(4, .pointer (some (pt b3 0))), (128, c_weirlaw18_Side.val a0), (152, .bool (r279 == r280))]) (by kernel_rfl) (by kernel_rfl) ?_
              exact OJ.nil ⟨(Cov.mem (Cov.keep (List.mem_of_getElem? (i := 0) rfl) (Cov.keep (List.mem_of_getElem? (i := 1) rfl) (Cov.keep (List.mem_of_getElem? (i := 2) rfl) (Cov.keep (List.mem_of_getElem? (i := 3) rfl) (Cov.keep (List.mem_of_getElem? (i := 4) rfl) (Cov.keep (List.mem_of_getElem? (i := 5) rfl) (Cov.keep (List.mem_of_getElem? (i := 6) rfl) (Cov.keep (List.mem_of_getElem? (i := 7) rfl) (Cov.keep (List.mem_of_getElem? (i := 8) rfl) Cov.nil)))))))))), rfl, _, rfl, by kernel_rfl⟩
            · refine OJ.run [13, 14, 15, 16, 18, 19, 20, 21, 17, 22, 23, 24] [] [4, 128, 152] (m2 := [(4, .pointer (some (pt b3 0))), (128, c_weirlaw18_Side.val a0), (152, .bool false)]) (by kernel_rfl) (by kernel_rfl) ?_
              exact OJ.nil ⟨(Cov.mem (Cov.keep (List.mem_of_getElem? (i := 4) rfl) (Cov.keep (List.mem_of_getElem? (i := 5) rfl) (Cov.keep (List.mem_of_getElem? (i := 6) rfl) (Cov.keep (List.mem_of_getElem? (i := 7) rfl) (Cov.keep (List.mem_of_getElem? (i := 8) rfl) Cov.nil)))))), rfl, _, rfl, by kernel_rfl⟩
            · refine OJ.kst (T := 73) (y := .tmp 4) (z := .tmp 128) (cd := c_weirlaw18_Side) (u := a0) (j := 0) (b := b3) (o := 0) (c_weirlaw18_Side.enc a0) (h2 := [(b3, c_weirlaw18_Side.enc a0), (b2, c_weirlaw18_Op.enc a1), (b1, c_weirlaw18_Side.enc a0)]) (owed := []) (by kernel_rfl) (by kernel_rfl) (by kernel_rfl) Ty73 rfl (Upd.whole ((Cod.len _ _).trans (Cod.len _ _).symm)) (by kernel_rfl) (by kernel_rfl) rfl ?_
              refine OW.nil ?_
              refine OJ.run [26] [] [4, 5] (m2 := [(4, .pointer (some (pt b3 0))), (5, .bool y281)]) (by kernel_rfl) (by kernel_rfl) ?_
              refine OJ.nil ?_
              exact SJ.ret (by kernel_rfl) rfl (Res.run (ys := [c_weirlaw18_Side.val a0, .bool y281]) (.cell (j := 0) (b := b3) (cd := c_weirlaw18_Side) (q := a0) (by kernel_rfl) rfl Ty73 (At.whole _) (.tmp (by kernel_rfl) .nil)) rfl)
          · refine SJ.skip (by kernel_rfl) ?_
            refine SJ.inBlock ?_
            refine SJ.seq (by kernel_rfl) ?_
            refine SJ.region (id := 21) (by kernel_rfl) [0, 1, 2] (by kernel_rfl) ?_
            refine OJ.kld (d := 153) (T := 73) (y := .tmp 2) (cd := c_weirlaw18_Side) (j := 2) (b := b1) (o := 0) a0 (pend2 := []) (by kernel_rfl) (by kernel_rfl) Ty73 (by kernel_rfl) rfl (At.whole _) (by kernel_rfl) rfl ?_
            refine OJ.kst (T := 73) (y := .tmp 4) (z := .tmp 153) (cd := c_weirlaw18_Side) (u := a0) (j := 0) (b := b3) (o := 0) (c_weirlaw18_Side.enc a0) (h2 := [(b3, c_weirlaw18_Side.enc a0), (b2, c_weirlaw18_Op.enc a1), (b1, c_weirlaw18_Side.enc a0)]) (owed := []) (by kernel_rfl) (by kernel_rfl) (by kernel_rfl) Ty73 rfl (Upd.whole ((Cod.len _ _).trans (Cod.len _ _).symm)) (by kernel_rfl) (by kernel_rfl) rfl ?_
            refine OW.nil ?_
            refine OJ.run [2] [] [4, 5] (m2 := [(4, .pointer (some (pt b3 0))), (5, .bool true)]) (by kernel_rfl) (by kernel_rfl) ?_
            refine OJ.nil ?_
            exact SJ.ret (by kernel_rfl) rfl (Res.run (ys := [c_weirlaw18_Side.val a0, .bool true]) (.cell (j := 0) (b := b3) (cd := c_weirlaw18_Side) (q := a0) (by kernel_rfl) rfl Ty73 (At.whole _) (.tmp (by kernel_rfl) .nil)) rfl)

/-! ### weir/weirlaw18.started: function 33 -/
noncomputable def weirlaw18_started.B : Code := (Try.f33.body).getD .skip
noncomputable def weirlaw18_started.cx : Fx := ⟨Try.prog, 33, Try.f33⟩
noncomputable def weirlaw18_started.out (r_ : Bool) : Value := .bool r_
noncomputable def weirlaw18_started.F0 (r_ : Bool) : Reach := .ret (weirlaw18_started.out r_)
noncomputable def weirlaw18_started.F1 (b3 : Nat) (b4 : Nat) : (LS (Bool × Int × weirlaw18_Side) Bool) → Reach := loopF [.inLoop (c1 (c1 (c2 (c1 (c2 (c2 (c2 weirlaw18_started.B))))))), .inBlock 0, .code (c2 (c2 (c2 (c2 weirlaw18_started.B))))] (fun s_ : (Bool × Int × weirlaw18_Side) => [(1, .pointer (some (pt b3 0))), (2, .bool s_.1), (3, .pointer (some (pt b4 0))), (4, .int .i64 s_.2.1)]) (fun s_ : (Bool × Int × weirlaw18_Side) => [(b4, (c_weirlaw18_Op.arr 6).enc (⟨[(⟨1, z_weirlaw18_Op.Two, z_weirlaw18_Op.Class, 150, 1⟩ : weirlaw18_Op), (⟨1, z_weirlaw18_Op.Two, 1, 120, 3⟩ : weirlaw18_Op), (⟨3, z_weirlaw18_Op.Two, z_weirlaw18_Op.Class, z_weirlaw18_Op.Size, z_weirlaw18_Op.Item⟩ : weirlaw18_Op), (⟨2, z_weirlaw18_Op.Two, z_weirlaw18_Op.Class, z_weirlaw18_Op.Size, z_weirlaw18_Op.Item⟩ : weirlaw18_Op), (⟨2, z_weirlaw18_Op.Two, z_weirlaw18_Op.Class, z_weirlaw18_Op.Size, z_weirlaw18_Op.Item⟩ : weirlaw18_Op), (⟨5, z_weirlaw18_Op.Two, z_weirlaw18_Op.Class, z_weirlaw18_Op.Size, z_weirlaw18_Op.Item⟩ : weirlaw18_Op)], rfl⟩ : (Vec weirlaw18_Op 6))), (b3, c_weirlaw18_Side.enc s_.2.2)]) weirlaw18_started.F0
noncomputable def weirlaw18_started.L1 (s5 : Bool) (s6 : Int) (s7 : weirlaw18_Side) : M (LS (Bool × Int × weirlaw18_Side) Bool) :=
  (if s6 < 6 then
      pure s5
    else
      pure false) >>= fun y13 =>
  if y13 = true then
    draw >>= fun _ =>
    chk (0 ≤ s6 ∧ s6 < (6 : Nat)) >>= fun _ =>
    weirlaw18_step s7 (Vec.g (⟨[(⟨1, z_weirlaw18_Op.Two, z_weirlaw18_Op.Class, 150, 1⟩ : weirlaw18_Op), (⟨1, z_weirlaw18_Op.Two, 1, 120, 3⟩ : weirlaw18_Op), (⟨3, z_weirlaw18_Op.Two, z_weirlaw18_Op.Class, z_weirlaw18_Op.Size, z_weirlaw18_Op.Item⟩ : weirlaw18_Op), (⟨2, z_weirlaw18_Op.Two, z_weirlaw18_Op.Class, z_weirlaw18_Op.Size, z_weirlaw18_Op.Item⟩ : weirlaw18_Op), (⟨2, z_weirlaw18_Op.Two, z_weirlaw18_Op.Class, z_weirlaw18_Op.Size, z_weirlaw18_Op.Item⟩ : weirlaw18_Op), (⟨5, z_weirlaw18_Op.Two, z_weirlaw18_Op.Class, z_weirlaw18_Op.Size, z_weirlaw18_Op.Item⟩ : weirlaw18_Op)], rfl⟩ : (Vec weirlaw18_Op 6)) s6 z_weirlaw18_Op) >>= fun r16 =>
    pure (LS.next (r16.2, IntKind.wrap .i64 (s6 + 1), r16.1))
  else
    pure (LS.done s5)
theorem weirlaw18_started.L1_ok (b3 : Nat) (b4 : Nat) (s5 : Bool) (s6 : Int) (s7 : weirlaw18_Side) :
    SJ weirlaw18_started.cx [.code (c1 (c1 (c2 (c1 (c2 (c2 (c2 weirlaw18_started.B))))))), .inLoop (c1 (c1 (c2 (c1 (c2 (c2 (c2 weirlaw18_started.B))))))), .inBlock 0, .code (c2 (c2 (c2 (c2 weirlaw18_started.B))))] [(1, .pointer (some (pt b3 0))), (2, .bool s5), (3, .pointer (some (pt b4 0))), (4, .int .i64 s6)] [(b4, (c_weirlaw18_Op.arr 6).enc (⟨[(⟨1, z_weirlaw18_Op.Two, z_weirlaw18_Op.Class, 150, 1⟩ : weirlaw18_Op), (⟨1, z_weirlaw18_Op.Two, 1, 120, 3⟩ : weirlaw18_Op), (⟨3, z_weirlaw18_Op.Two, z_weirlaw18_Op.Class, z_weirlaw18_Op.Size, z_weirlaw18_Op.Item⟩ : weirlaw18_Op), (⟨2, z_weirlaw18_Op.Two, z_weirlaw18_Op.Class, z_weirlaw18_Op.Size, z_weirlaw18_Op.Item⟩ : weirlaw18_Op), (⟨2, z_weirlaw18_Op.Two, z_weirlaw18_Op.Class, z_weirlaw18_Op.Size, z_weirlaw18_Op.Item⟩ : weirlaw18_Op), (⟨5, z_weirlaw18_Op.Two, z_weirlaw18_Op.Class, z_weirlaw18_Op.Size, z_weirlaw18_Op.Item⟩ : weirlaw18_Op)], rfl⟩ : (Vec weirlaw18_Op 6))), (b3, c_weirlaw18_Side.enc s7)] (weirlaw18_started.L1 s5 s6 s7) (weirlaw18_started.F1 b3 b4) := by
  unfold weirlaw18_started.L1
  refine SJ.seq (by kernel_rfl) ?_
  refine SJ.seq (by kernel_rfl) ?_
  refine SJ.region (id := 4) (by kernel_rfl) [0, 1, 2, 3, 4] (by kernel_rfl) ?_
  refine OJ.run [0, 1, 2] [3, 4] [1, 2, 3, 4, 19] (m2 := [(1, .pointer (some (pt b3 0))), (2, .bool s5), (3, .pointer (some (pt b4 0))), (4, .int .i64 s6), (19, .bool (decide (s6 < 6)))]) (by kernel_rfl) (by kernel_rfl) ?_
  refine OJ.join (b := decide (s6 < 6)) [3, 4] [] [1, 2, 3, 4, 21] (fun y13 => [(1, .pointer (some (pt b3 0))), (2, .bool s5), (3, .pointer (some (pt b4 0))), (4, .int .i64 s6), (21, .bool y13)]) [] [] (by kernel_rfl) (t := 19) (by kernel_rfl) decide_eq_true_iff (fun hp_ => ?_) (fun hp_ => ?_) (by kernel_rfl) (fun _ _ _ _ _ _ h_ => h_) (fun y13 => ?_)
  · refine OJ.run [3, 4] [] [1, 2, 3, 4, 21] (m2 := [(1, .pointer (some (pt b3 0))), (2, .bool s5), (3, .pointer (some (pt b4 0))), (4, .int .i64 s6), (21, .bool s5)]) (by kernel_rfl) (by kernel_rfl) ?_
    exact OJ.nil ⟨(Cov.mem Cov.nil), rfl, _, rfl, by kernel_rfl⟩
  · refine OJ.run [3, 4] [] [1, 2, 3, 4, 21] (m2 := [(1, .pointer (some (pt b3 0))), (2, .bool s5), (3, .pointer (some (pt b4 0))), (4, .int .i64 s6), (21, .bool false)]) (by kernel_rfl) (by kernel_rfl) ?_
    exact OJ.nil ⟨(Cov.mem Cov.nil), rfl, _, rfl, by kernel_rfl⟩
  · refine OJ.nil ?_
    refine SJ.cond (t := (.tmp 21)) (b := y13) (by kernel_rfl) (by kernel_rfl) Iff.rfl (fun hc17 => ?_) (fun hc17 => ?_)
    · refine SJ.skip (by kernel_rfl) ?_
      refine SJ.seq (by kernel_rfl) ?_
      refine SJ.block (id := 1) (by kernel_rfl) ?_
      refine SJ.draw (id := 6) (kd := [1, 0, 0, 1, 2, 0, 0, 0, 2, 0]) (bef := [0, 0, 2, 6, 15, 31, 63, 63, 127, 511]) (ord := [0, 1, 2, 3, 4, 5, 6, 7, 8, 9]) (by kernel_rfl) mixed (by kernel_rfl) ?_
      refine OJ.kld (d := 25) (T := 73) (y := .tmp 1) (cd := c_weirlaw18_Side) (j := 1) (b := b3) (o := 0) s7 (pend2 := [⟨0, 73, (pt b3 0), c_weirlaw18_Side.val s7⟩]) (by kernel_rfl) (by kernel_rfl) Ty73 (by kernel_rfl) rfl (At.whole _) (by kernel_rfl) rfl ?_
      refine OJ.run [1] [2, 3, 4, 5, 6, 7, 8, 9] [1, 2, 3, 4, 25, 26] (m2 := [(1, .pointer (some (pt b3 0))), (2, .bool s5), (3, .pointer (some (pt b4 0))), (4, .int .i64 s6), (25, c_weirlaw18_Side.val s7), (26, .int .i64 s6)]) (by kernel_rfl) (by kernel_rfl) ?_
      refine OJ.idxK (d := 27) (T := 112) (y := .tmp 3) (j := .tmp 26) (E := 48) (sz := 5) (b := b4) (o := 0) (k := .i64) (by kernel_rfl) (by kernel_rfl) (by kernel_rfl) (by kernel_rfl) (by kernel_rfl) (by kernel_rfl) (by kernel_rfl) (by kernel_rfl) (fun hb14 hb15 => ?_)
      refine OJ.kld (d := 28) (T := 48) (y := .tmp 27) (cd := c_weirlaw18_Op) (j := 0) (b := b4) (o := (0 + s6.toNat * 5)) (Vec.g (⟨[(⟨1, z_weirlaw18_Op.Two, z_weirlaw18_Op.Class, 150, 1⟩ : weirlaw18_Op), (⟨1, z_weirlaw18_Op.Two, 1, 120, 3⟩ : weirlaw18_Op), (⟨3, z_weirlaw18_Op.Two, z_weirlaw18_Op.Class, z_weirlaw18_Op.Size, z_weirlaw18_Op.Item⟩ : weirlaw18_Op), (⟨2, z_weirlaw18_Op.Two, z_weirlaw18_Op.Class, z_weirlaw18_Op.Size, z_weirlaw18_Op.Item⟩ : weirlaw18_Op), (⟨2, z_weirlaw18_Op.Two, z_weirlaw18_Op.Class, z_weirlaw18_Op.Size, z_weirlaw18_Op.Item⟩ : weirlaw18_Op), (⟨5, z_weirlaw18_Op.Two, z_weirlaw18_Op.Class, z_weirlaw18_Op.Size, z_weirlaw18_Op.Item⟩ : weirlaw18_Op)], rfl⟩ : (Vec weirlaw18_Op 6)) s6 z_weirlaw18_Op) (pend2 := [⟨3, 48, (pt b4 (0 + s6.toNat * 5)), c_weirlaw18_Op.val (Vec.g (⟨[(⟨1, z_weirlaw18_Op.Two, z_weirlaw18_Op.Class, 150, 1⟩ : weirlaw18_Op), (⟨1, z_weirlaw18_Op.Two, 1, 120, 3⟩ : weirlaw18_Op), (⟨3, z_weirlaw18_Op.Two, z_weirlaw18_Op.Class, z_weirlaw18_Op.Size, z_weirlaw18_Op.Item⟩ : weirlaw18_Op), (⟨2, z_weirlaw18_Op.Two, z_weirlaw18_Op.Class, z_weirlaw18_Op.Size, z_weirlaw18_Op.Item⟩ : weirlaw18_Op), (⟨2, z_weirlaw18_Op.Two, z_weirlaw18_Op.Class, z_weirlaw18_Op.Size, z_weirlaw18_Op.Item⟩ : weirlaw18_Op), (⟨5, z_weirlaw18_Op.Two, z_weirlaw18_Op.Class, z_weirlaw18_Op.Size, z_weirlaw18_Op.Item⟩ : weirlaw18_Op)], rfl⟩ : (Vec weirlaw18_Op 6)) s6 z_weirlaw18_Op)⟩, ⟨0, 73, (pt b3 0), c_weirlaw18_Side.val s7⟩]) (by kernel_rfl) (by kernel_rfl) Ty48 (by kernel_rfl) rfl (At.zero (At.arr (z := z_weirlaw18_Op) hb14 hb15)) (by kernel_rfl) rfl ?_
      refine OJ.call (d := 29) (g := 42) (ats := #[73, 48]) (args := [.tmp 25, .tmp 28]) (vals := [c_weirlaw18_Side.val s7, c_weirlaw18_Op.val (Vec.g (⟨[(⟨1, z_weirlaw18_Op.Two, z_weirlaw18_Op.Class, 150, 1⟩ : weirlaw18_Op), (⟨1, z_weirlaw18_Op.Two, 1, 120, 3⟩ : weirlaw18_Op), (⟨3, z_weirlaw18_Op.Two, z_weirlaw18_Op.Class, z_weirlaw18_Op.Size, z_weirlaw18_Op.Item⟩ : weirlaw18_Op), (⟨2, z_weirlaw18_Op.Two, z_weirlaw18_Op.Class, z_weirlaw18_Op.Size, z_weirlaw18_Op.Item⟩ : weirlaw18_Op), (⟨2, z_weirlaw18_Op.Two, z_weirlaw18_Op.Class, z_weirlaw18_Op.Size, z_weirlaw18_Op.Item⟩ : weirlaw18_Op), (⟨5, z_weirlaw18_Op.Two, z_weirlaw18_Op.Class, z_weirlaw18_Op.Size, z_weirlaw18_Op.Item⟩ : weirlaw18_Op)], rfl⟩ : (Vec weirlaw18_Op 6)) s6 z_weirlaw18_Op)]) (owed := []) (by kernel_rfl) F42 (by kernel_rfl) (weirlaw18_step_ok s7 (Vec.g (⟨[(⟨1, z_weirlaw18_Op.Two, z_weirlaw18_Op.Class, 150, 1⟩ : weirlaw18_Op), (⟨1, z_weirlaw18_Op.Two, 1, 120, 3⟩ : weirlaw18_Op), (⟨3, z_weirlaw18_Op.Two, z_weirlaw18_Op.Class, z_weirlaw18_Op.Size, z_weirlaw18_Op.Item⟩ : weirlaw18_Op), (⟨2, z_weirlaw18_Op.Two, z_weirlaw18_Op.Class, z_weirlaw18_Op.Size, z_weirlaw18_Op.Item⟩ : weirlaw18_Op), (⟨2, z_weirlaw18_Op.Two, z_weirlaw18_Op.Class, z_weirlaw18_Op.Size, z_weirlaw18_Op.Item⟩ : weirlaw18_Op), (⟨5, z_weirlaw18_Op.Two, z_weirlaw18_Op.Class, z_weirlaw18_Op.Size, z_weirlaw18_Op.Item⟩ : weirlaw18_Op)], rfl⟩ : (Vec weirlaw18_Op 6)) s6 z_weirlaw18_Op)) (by kernel_rfl) (by kernel_rfl) (by kernel_rfl) (fun r16 => ?_)
      refine OW.nil ?_
      refine OJ.run [5, 6, 7] [8, 9] [1, 2, 3, 4, 30, 31] (m2 := [(1, .pointer (some (pt b3 0))), (2, .bool s5), (3, .pointer (some (pt b4 0))), (4, .int .i64 s6), (30, c_weirlaw18_Side.val r16.1), (31, .bool r16.2)]) (by kernel_rfl) (by kernel_rfl) ?_
      refine OJ.kst (T := 73) (y := .tmp 1) (z := .tmp 30) (cd := c_weirlaw18_Side) (u := r16.1) (j := 1) (b := b3) (o := 0) (c_weirlaw18_Side.enc r16.1) (h2 := [(b4, (c_weirlaw18_Op.arr 6).enc (⟨[(⟨1, z_weirlaw18_Op.Two, z_weirlaw18_Op.Class, 150, 1⟩ : weirlaw18_Op), (⟨1, z_weirlaw18_Op.Two, 1, 120, 3⟩ : weirlaw18_Op), (⟨3, z_weirlaw18_Op.Two, z_weirlaw18_Op.Class, z_weirlaw18_Op.Size, z_weirlaw18_Op.Item⟩ : weirlaw18_Op), (⟨2, z_weirlaw18_Op.Two, z_weirlaw18_Op.Class, z_weirlaw18_Op.Size, z_weirlaw18_Op.Item⟩ : weirlaw18_Op), (⟨2, z_weirlaw18_Op.Two, z_weirlaw18_Op.Class, z_weirlaw18_Op.Size, z_weirlaw18_Op.Item⟩ : weirlaw18_Op), (⟨5, z_weirlaw18_Op.Two, z_weirlaw18_Op.Class, z_weirlaw18_Op.Size, z_weirlaw18_Op.Item⟩ : weirlaw18_Op)], rfl⟩ : (Vec weirlaw18_Op 6))), (b3, c_weirlaw18_Side.enc r16.1)]) (owed := []) (by kernel_rfl) (by kernel_rfl) (by kernel_rfl) Ty73 rfl (Upd.whole ((Cod.len _ _).trans (Cod.len _ _).symm)) (by kernel_rfl) (by kernel_rfl) rfl ?_
      refine OW.nil ?_
      refine OJ.run [9] [] [1, 2, 3, 4] (m2 := [(1, .pointer (some (pt b3 0))), (2, .bool r16.2), (3, .pointer (some (pt b4 0))), (4, .int .i64 s6)]) (by kernel_rfl) (by kernel_rfl) ?_
      refine OJ.nil ?_
      refine SJ.inBlock ?_
      refine SJ.region (id := 5) (by kernel_rfl) [0, 1, 2] (by kernel_rfl) ?_
      refine OJ.run [0, 1, 2] [] [1, 2, 3, 4] (m2 := [(1, .pointer (some (pt b3 0))), (2, .bool r16.2), (3, .pointer (some (pt b4 0))), (4, .int .i64 (IntKind.wrap .i64 (s6 + 1)))]) (by kernel_rfl) (by kernel_rfl) ?_
      refine OJ.nil ?_
      exact SJ.at_ [1, 2, 3, 4] rfl (by kernel_rfl)
    · refine SJ.exit (id := 0) (by kernel_rfl) (by rfl) ?_
      refine SJ.seq (by kernel_rfl) ?_
      refine SJ.region (id := 7) (by kernel_rfl) [0, 1] (by kernel_rfl) ?_
      refine OJ.run [0, 1] [] [0] (m2 := [(0, .bool s5)]) (by kernel_rfl) (by kernel_rfl) ?_
      refine OJ.nil ?_
      exact SJ.ret (by kernel_rfl) rfl (Res.run (ys := [.bool s5]) (.tmp (by kernel_rfl) .nil) rfl)
noncomputable def weirlaw18_started  : M Bool :=
  weirlaw18_two >>= fun r1 =>
  weirlaw18_made r1 >>= fun r2 =>
  slot 73 >>= fun b3 =>
  slot 112 >>= fun b4 =>
  loopM (fun s_ : (Bool × Int × weirlaw18_Side) => weirlaw18_started.L1 s_.1 s_.2.1 s_.2.2) (r2.2, 0, r2.1)
theorem weirlaw18_started_ok  : Ref Try.prog 33 [] (weirlaw18_started) weirlaw18_started.out := by
  refine Ref.of (cd := weirlaw18_started.B) Try.func33 (by kernel_rfl) (by kernel_rfl) ?_
  show SJ weirlaw18_started.cx [.code weirlaw18_started.B] [] [] (weirlaw18_started) weirlaw18_started.F0
  unfold weirlaw18_started
  refine SJ.seq (by kernel_rfl) ?_
  refine SJ.region (id := 0) (by kernel_rfl) [0] (by kernel_rfl) ?_
  refine OJ.run [0] [] [] (m2 := []) (by kernel_rfl) (by kernel_rfl) ?_
  refine OJ.nil ?_
  refine SJ.seq (by kernel_rfl) ?_
  refine SJ.region (id := 1) (by kernel_rfl) [0, 1, 2, 3, 4, 5, 6, 7] (by kernel_rfl) ?_
  refine OJ.call (d := 6) (g := 43) (ats := #[]) (args := []) (vals := []) (owed := []) (by kernel_rfl) F43 (by kernel_rfl) (weirlaw18_two_ok ) (by kernel_rfl) (by kernel_rfl) (by kernel_rfl) (fun r1 => ?_)
  refine OW.nil ?_
  refine OJ.call (d := 7) (g := 34) (ats := #[27]) (args := [.tmp 6]) (vals := [Sl.v r1]) (owed := []) (by kernel_rfl) F34 (by kernel_rfl) (weirlaw18_made_ok r1) (by kernel_rfl) (by kernel_rfl) (by kernel_rfl) (fun r2 => ?_)
  refine OW.nil ?_
  refine OJ.run [2, 3, 4] [5, 6, 7] [8, 9] (m2 := [(8, c_weirlaw18_Side.val r2.1), (9, .bool r2.2)]) (by kernel_rfl) (by kernel_rfl) ?_
  refine OJ.slotOf (d := 1) (op := (.alloc 73)) (cd := c_weirlaw18_Side) (u := z_weirlaw18_Side) (owed := []) (by kernel_rfl) (alloc_run Ty73) (by kernel_rfl) (by kernel_rfl) (by kernel_rfl) (fun b3 => ?_)
  refine OW.nil ?_
  refine OJ.kst (T := 73) (y := .tmp 1) (z := .tmp 8) (cd := c_weirlaw18_Side) (u := r2.1) (j := 0) (b := b3) (o := 0) (c_weirlaw18_Side.enc r2.1) (h2 := [(b3, c_weirlaw18_Side.enc r2.1)]) (owed := []) (by kernel_rfl) (by kernel_rfl) (by kernel_rfl) Ty73 rfl (Upd.whole ((Cod.len _ _).trans (Cod.len _ _).symm)) (by kernel_rfl) (by kernel_rfl) rfl ?_
  refine OW.nil ?_
  refine OJ.run [7] [] [1, 2] (m2 := [(1, .pointer (some (pt b3 0))), (2, .bool r2.2)]) (by kernel_rfl) (by kernel_rfl) ?_
  refine OJ.nil ?_
  refine SJ.seq (by kernel_rfl) ?_
  refine SJ.region (id := 2) (by kernel_rfl) [0, 1, 2, 3, 4, 5, 6, 7, 8] (by kernel_rfl) ?_
  refine OJ.build (d := 10) (T := 48) (parts := [(0, .const (.int .i64 1)), (3, .const (.int .i64 150)), (4, .const (.int .i64 1))]) (ps := [(0, (cI .i64).val 1), (3, (cI .i64).val 150), (4, (cI .i64).val 1)]) (cd := c_weirlaw18_Op) (z0 := z_weirlaw18_Op) (⟨1, z_weirlaw18_Op.Two, z_weirlaw18_Op.Class, 150, 1⟩ : weirlaw18_Op) (by kernel_rfl) (by kernel_rfl) Ty48 rfl (by kernel_rfl) (Filled.cons (cd := (cI .i64)) (q := 1) (o := 0) (by kernel_rfl) (Up_weirlaw18_Op_Kind z_weirlaw18_Op 1) (Filled.cons (cd := (cI .i64)) (q := 150) (o := 3) (by kernel_rfl) (Up_weirlaw18_Op_Size (⟨1, z_weirlaw18_Op.Two, z_weirlaw18_Op.Class, z_weirlaw18_Op.Size, z_weirlaw18_Op.Item⟩ : weirlaw18_Op) 150) (Filled.cons (cd := (cI .i64)) (q := 1) (o := 4) (by kernel_rfl) (Up_weirlaw18_Op_Item (⟨1, z_weirlaw18_Op.Two, z_weirlaw18_Op.Class, 150, z_weirlaw18_Op.Item⟩ : weirlaw18_Op) 1) Filled.nil))) (by kernel_rfl) (by kernel_rfl) (by kernel_rfl) ?_
  refine OJ.build (d := 11) (T := 48) (parts := [(0, .const (.int .i64 1)), (2, .const (.int .i64 1)), (3, .const (.int .i64 120)), (4, .const (.int .i64 3))]) (ps := [(0, (cI .i64).val 1), (2, (cI .i64).val 1), (3, (cI .i64).val 120), (4, (cI .i64).val 3)]) (cd := c_weirlaw18_Op) (z0 := z_weirlaw18_Op) (⟨1, z_weirlaw18_Op.Two, 1, 120, 3⟩ : weirlaw18_Op) (by kernel_rfl) (by kernel_rfl) Ty48 rfl (by kernel_rfl) (Filled.cons (cd := (cI .i64)) (q := 1) (o := 0) (by kernel_rfl) (Up_weirlaw18_Op_Kind z_weirlaw18_Op 1) (Filled.cons (cd := (cI .i64)) (q := 1) (o := 2) (by kernel_rfl) (Up_weirlaw18_Op_Class (⟨1, z_weirlaw18_Op.Two, z_weirlaw18_Op.Class, z_weirlaw18_Op.Size, z_weirlaw18_Op.Item⟩ : weirlaw18_Op) 1) (Filled.cons (cd := (cI .i64)) (q := 120) (o := 3) (by kernel_rfl) (Up_weirlaw18_Op_Size (⟨1, z_weirlaw18_Op.Two, 1, z_weirlaw18_Op.Size, z_weirlaw18_Op.Item⟩ : weirlaw18_Op) 120) (Filled.cons (cd := (cI .i64)) (q := 3) (o := 4) (by kernel_rfl) (Up_weirlaw18_Op_Item (⟨1, z_weirlaw18_Op.Two, 1, 120, z_weirlaw18_Op.Item⟩ : weirlaw18_Op) 3) Filled.nil)))) (by kernel_rfl) (by kernel_rfl) (by kernel_rfl) ?_
  refine OJ.build (d := 12) (T := 48) (parts := [(0, .const (.int .i64 3))]) (ps := [(0, (cI .i64).val 3)]) (cd := c_weirlaw18_Op) (z0 := z_weirlaw18_Op) (⟨3, z_weirlaw18_Op.Two, z_weirlaw18_Op.Class, z_weirlaw18_Op.Size, z_weirlaw18_Op.Item⟩ : weirlaw18_Op) (by kernel_rfl) (by kernel_rfl) Ty48 rfl (by kernel_rfl) (Filled.cons (cd := (cI .i64)) (q := 3) (o := 0) (by kernel_rfl) (Up_weirlaw18_Op_Kind z_weirlaw18_Op 3) Filled.nil) (by kernel_rfl) (by kernel_rfl) (by kernel_rfl) ?_
  refine OJ.build (d := 13) (T := 48) (parts := [(0, .const (.int .i64 2))]) (ps := [(0, (cI .i64).val 2)]) (cd := c_weirlaw18_Op) (z0 := z_weirlaw18_Op) (⟨2, z_weirlaw18_Op.Two, z_weirlaw18_Op.Class, z_weirlaw18_Op.Size, z_weirlaw18_Op.Item⟩ : weirlaw18_Op) (by kernel_rfl) (by kernel_rfl) Ty48 rfl (by kernel_rfl) (Filled.cons (cd := (cI .i64)) (q := 2) (o := 0) (by kernel_rfl) (Up_weirlaw18_Op_Kind z_weirlaw18_Op 2) Filled.nil) (by kernel_rfl) (by kernel_rfl) (by kernel_rfl) ?_
  refine OJ.build (d := 14) (T := 48) (parts := [(0, .const (.int .i64 2))]) (ps := [(0, (cI .i64).val 2)]) (cd := c_weirlaw18_Op) (z0 := z_weirlaw18_Op) (⟨2, z_weirlaw18_Op.Two, z_weirlaw18_Op.Class, z_weirlaw18_Op.Size, z_weirlaw18_Op.Item⟩ : weirlaw18_Op) (by kernel_rfl) (by kernel_rfl) Ty48 rfl (by kernel_rfl) (Filled.cons (cd := (cI .i64)) (q := 2) (o := 0) (by kernel_rfl) (Up_weirlaw18_Op_Kind z_weirlaw18_Op 2) Filled.nil) (by kernel_rfl) (by kernel_rfl) (by kernel_rfl) ?_
  refine OJ.build (d := 15) (T := 48) (parts := [(0, .const (.int .i64 5))]) (ps := [(0, (cI .i64).val 5)]) (cd := c_weirlaw18_Op) (z0 := z_weirlaw18_Op) (⟨5, z_weirlaw18_Op.Two, z_weirlaw18_Op.Class, z_weirlaw18_Op.Size, z_weirlaw18_Op.Item⟩ : weirlaw18_Op) (by kernel_rfl) (by kernel_rfl) Ty48 rfl (by kernel_rfl) (Filled.cons (cd := (cI .i64)) (q := 5) (o := 0) (by kernel_rfl) (Up_weirlaw18_Op_Kind z_weirlaw18_Op 5) Filled.nil) (by kernel_rfl) (by kernel_rfl) (by kernel_rfl) ?_
  refine OJ.build (d := 16) (T := 112) (parts := [(0, .tmp 10), (1, .tmp 11), (2, .tmp 12), (3, .tmp 13), (4, .tmp 14), (5, .tmp 15)]) (ps := [(0, c_weirlaw18_Op.val (⟨1, z_weirlaw18_Op.Two, z_weirlaw18_Op.Class, 150, 1⟩ : weirlaw18_Op)), (1, c_weirlaw18_Op.val (⟨1, z_weirlaw18_Op.Two, 1, 120, 3⟩ : weirlaw18_Op)), (2, c_weirlaw18_Op.val (⟨3, z_weirlaw18_Op.Two, z_weirlaw18_Op.Class, z_weirlaw18_Op.Size, z_weirlaw18_Op.Item⟩ : weirlaw18_Op)), (3, c_weirlaw18_Op.val (⟨2, z_weirlaw18_Op.Two, z_weirlaw18_Op.Class, z_weirlaw18_Op.Size, z_weirlaw18_Op.Item⟩ : weirlaw18_Op)), (4, c_weirlaw18_Op.val (⟨2, z_weirlaw18_Op.Two, z_weirlaw18_Op.Class, z_weirlaw18_Op.Size, z_weirlaw18_Op.Item⟩ : weirlaw18_Op)), (5, c_weirlaw18_Op.val (⟨5, z_weirlaw18_Op.Two, z_weirlaw18_Op.Class, z_weirlaw18_Op.Size, z_weirlaw18_Op.Item⟩ : weirlaw18_Op))]) (cd := (c_weirlaw18_Op.arr 6)) (z0 := (Vec.rep 6 z_weirlaw18_Op)) (⟨[(⟨1, z_weirlaw18_Op.Two, z_weirlaw18_Op.Class, 150, 1⟩ : weirlaw18_Op), (⟨1, z_weirlaw18_Op.Two, 1, 120, 3⟩ : weirlaw18_Op), (⟨3, z_weirlaw18_Op.Two, z_weirlaw18_Op.Class, z_weirlaw18_Op.Size, z_weirlaw18_Op.Item⟩ : weirlaw18_Op), (⟨2, z_weirlaw18_Op.Two, z_weirlaw18_Op.Class, z_weirlaw18_Op.Size, z_weirlaw18_Op.Item⟩ : weirlaw18_Op), (⟨2, z_weirlaw18_Op.Two, z_weirlaw18_Op.Class, z_weirlaw18_Op.Size, z_weirlaw18_Op.Item⟩ : weirlaw18_Op), (⟨5, z_weirlaw18_Op.Two, z_weirlaw18_Op.Class, z_weirlaw18_Op.Size, z_weirlaw18_Op.Item⟩ : weirlaw18_Op)], rfl⟩ : (Vec weirlaw18_Op 6)) (by kernel_rfl) (by kernel_rfl) Ty112 rfl (by kernel_rfl) (Filled.cons (cd := c_weirlaw18_Op) (q := (⟨1, z_weirlaw18_Op.Two, z_weirlaw18_Op.Class, 150, 1⟩ : weirlaw18_Op)) (o := 0) (by kernel_rfl) (Upd.arr (i := 0) (by decide) (by decide)) (Filled.cons (cd := c_weirlaw18_Op) (q := (⟨1, z_weirlaw18_Op.Two, 1, 120, 3⟩ : weirlaw18_Op)) (o := 5) (by kernel_rfl) (Upd.arr (i := 1) (by decide) (by decide)) (Filled.cons (cd := c_weirlaw18_Op) (q := (⟨3, z_weirlaw18_Op.Two, z_weirlaw18_Op.Class, z_weirlaw18_Op.Size, z_weirlaw18_Op.Item⟩ : weirlaw18_Op)) (o := 10) (by kernel_rfl) (Upd.arr (i := 2) (by decide) (by decide)) (Filled.cons (cd := c_weirlaw18_Op) (q := (⟨2, z_weirlaw18_Op.Two, z_weirlaw18_Op.Class, z_weirlaw18_Op.Size, z_weirlaw18_Op.Item⟩ : weirlaw18_Op)) (o := 15) (by kernel_rfl) (Upd.arr (i := 3) (by decide) (by decide)) (Filled.cons (cd := c_weirlaw18_Op) (q := (⟨2, z_weirlaw18_Op.Two, z_weirlaw18_Op.Class, z_weirlaw18_Op.Size, z_weirlaw18_Op.Item⟩ : weirlaw18_Op)) (o := 20) (by kernel_rfl) (Upd.arr (i := 4) (by decide) (by decide)) (Filled.cons (cd := c_weirlaw18_Op) (q := (⟨5, z_weirlaw18_Op.Two, z_weirlaw18_Op.Class, z_weirlaw18_Op.Size, z_weirlaw18_Op.Item⟩ : weirlaw18_Op)) (o := 25) (by kernel_rfl) (Upd.arr (i := 5) (by decide) (by decide)) Filled.nil)))))) (by kernel_rfl) (by kernel_rfl) (by kernel_rfl) ?_
  refine OJ.slotOf (d := 3) (op := (.alloc 112)) (cd := (c_weirlaw18_Op.arr 6)) (u := (Vec.rep 6 z_weirlaw18_Op)) (owed := []) (by kernel_rfl) (alloc_run Ty112) (by kernel_rfl) (by kernel_rfl) (by kernel_rfl) (fun b4 => ?_)
  refine OW.nil ?_
  refine OJ.kst (T := 112) (y := .tmp 3) (z := .tmp 16) (cd := (c_weirlaw18_Op.arr 6)) (u := (⟨[(⟨1, z_weirlaw18_Op.Two, z_weirlaw18_Op.Class, 150, 1⟩ : weirlaw18_Op), (⟨1, z_weirlaw18_Op.Two, 1, 120, 3⟩ : weirlaw18_Op), (⟨3, z_weirlaw18_Op.Two, z_weirlaw18_Op.Class, z_weirlaw18_Op.Size, z_weirlaw18_Op.Item⟩ : weirlaw18_Op), (⟨2, z_weirlaw18_Op.Two, z_weirlaw18_Op.Class, z_weirlaw18_Op.Size, z_weirlaw18_Op.Item⟩ : weirlaw18_Op), (⟨2, z_weirlaw18_Op.Two, z_weirlaw18_Op.Class, z_weirlaw18_Op.Size, z_weirlaw18_Op.Item⟩ : weirlaw18_Op), (⟨5, z_weirlaw18_Op.Two, z_weirlaw18_Op.Class, z_weirlaw18_Op.Size, z_weirlaw18_Op.Item⟩ : weirlaw18_Op)], rfl⟩ : (Vec weirlaw18_Op 6))) (j := 0) (b := b4) (o := 0) ((c_weirlaw18_Op.arr 6).enc (⟨[(⟨1, z_weirlaw18_Op.Two, z_weirlaw18_Op.Class, 150, 1⟩ : weirlaw18_Op), (⟨1, z_weirlaw18_Op.Two, 1, 120, 3⟩ : weirlaw18_Op), (⟨3, z_weirlaw18_Op.Two, z_weirlaw18_Op.Class, z_weirlaw18_Op.Size, z_weirlaw18_Op.Item⟩ : weirlaw18_Op), (⟨2, z_weirlaw18_Op.Two, z_weirlaw18_Op.Class, z_weirlaw18_Op.Size, z_weirlaw18_Op.Item⟩ : weirlaw18_Op), (⟨2, z_weirlaw18_Op.Two, z_weirlaw18_Op.Class, z_weirlaw18_Op.Size, z_weirlaw18_Op.Item⟩ : weirlaw18_Op), (⟨5, z_weirlaw18_Op.Two, z_weirlaw18_Op.Class, z_weirlaw18_Op.Size, z_weirlaw18_Op.Item⟩ : weirlaw18_Op)], rfl⟩ : (Vec weirlaw18_Op 6))) (h2 := [(b4, (c_weirlaw18_Op.arr 6).enc (⟨[(⟨1, z_weirlaw18_Op.Two, z_weirlaw18_Op.Class, 150, 1⟩ : weirlaw18_Op), (⟨1, z_weirlaw18_Op.Two, 1, 120, 3⟩ : weirlaw18_Op), (⟨3, z_weirlaw18_Op.Two, z_weirlaw18_Op.Class, z_weirlaw18_Op.Size, z_weirlaw18_Op.Item⟩ : weirlaw18_Op), (⟨2, z_weirlaw18_Op.Two, z_weirlaw18_Op.Class, z_weirlaw18_Op.Size, z_weirlaw18_Op.Item⟩ : weirlaw18_Op), (⟨2, z_weirlaw18_Op.Two, z_weirlaw18_Op.Class, z_weirlaw18_Op.Size, z_weirlaw18_Op.Item⟩ : weirlaw18_Op), (⟨5, z_weirlaw18_Op.Two, z_weirlaw18_Op.Class, z_weirlaw18_Op.Size, z_weirlaw18_Op.Item⟩ : weirlaw18_Op)], rfl⟩ : (Vec weirlaw18_Op 6))), (b3, c_weirlaw18_Side.enc r2.1)]) (owed := []) (by kernel_rfl) (by kernel_rfl) (by kernel_rfl) Ty112 rfl (Upd.whole ((Cod.len _ _).trans (Cod.len _ _).symm)) (by kernel_rfl) (by kernel_rfl) rfl ?_
  refine OW.nil ?_
  refine OJ.nil ?_
  refine SJ.seq (by kernel_rfl) ?_
  refine SJ.seq (by kernel_rfl) ?_
  refine SJ.region (id := 3) (by kernel_rfl) [0] (by kernel_rfl) ?_
  refine OJ.run [0] [] [1, 2, 3, 4] (m2 := [(1, .pointer (some (pt b3 0))), (2, .bool r2.2), (3, .pointer (some (pt b4 0))), (4, .int .i64 0)]) (by kernel_rfl) (by kernel_rfl) ?_
  refine OJ.nil ?_
  refine SJ.block (id := 0) (by kernel_rfl) ?_
  exact SJ.loop (fun s_ : (Bool × Int × weirlaw18_Side) => [(1, .pointer (some (pt b3 0))), (2, .bool s_.1), (3, .pointer (some (pt b4 0))), (4, .int .i64 s_.2.1)]) (fun s_ : (Bool × Int × weirlaw18_Side) => [(b4, (c_weirlaw18_Op.arr 6).enc (⟨[(⟨1, z_weirlaw18_Op.Two, z_weirlaw18_Op.Class, 150, 1⟩ : weirlaw18_Op), (⟨1, z_weirlaw18_Op.Two, 1, 120, 3⟩ : weirlaw18_Op), (⟨3, z_weirlaw18_Op.Two, z_weirlaw18_Op.Class, z_weirlaw18_Op.Size, z_weirlaw18_Op.Item⟩ : weirlaw18_Op), (⟨2, z_weirlaw18_Op.Two, z_weirlaw18_Op.Class, z_weirlaw18_Op.Size, z_weirlaw18_Op.Item⟩ : weirlaw18_Op), (⟨2, z_weirlaw18_Op.Two, z_weirlaw18_Op.Class, z_weirlaw18_Op.Size, z_weirlaw18_Op.Item⟩ : weirlaw18_Op), (⟨5, z_weirlaw18_Op.Two, z_weirlaw18_Op.Class, z_weirlaw18_Op.Size, z_weirlaw18_Op.Item⟩ : weirlaw18_Op)], rfl⟩ : (Vec weirlaw18_Op 6))), (b3, c_weirlaw18_Side.enc s_.2.2)]) [1, 2, 3, 4] (by kernel_rfl) (by kernel_rfl) rfl (fun _ _ => rfl) (fun s_ => weirlaw18_started.L1_ok b3 b4 s_.1 s_.2.1 s_.2.2)

/-! ### weir/weirlaw18.plays: function 32 -/
noncomputable def weirlaw18_plays.B : Code := (Try.f32.body).getD .skip
noncomputable def weirlaw18_plays.cx : Fx := ⟨Try.prog, 32, Try.f32⟩
noncomputable def weirlaw18_plays.out (r_ : Bool) : Value := .bool r_
noncomputable def weirlaw18_plays.F0 (r_ : Bool) : Reach := .ret (weirlaw18_plays.out r_)
noncomputable def weirlaw18_plays.F1 (a1 : Sl) (a2 : Int) (a3 : Int) (b3 : Nat) (b6 : Nat) : (LS (Bool × Int × weirlaw18_Side × weirlaw18_Side) Bool) → Reach := loopF [.inLoop (c1 (c1 (c2 (c1 (c2 (c2 (c2 (c2 (c2 (c2 weirlaw18_plays.B)))))))))), .inBlock 0, .code (c2 (c2 (c2 (c2 (c2 (c2 (c2 weirlaw18_plays.B)))))))] (fun s_ : (Bool × Int × weirlaw18_Side × weirlaw18_Side) => [(1, Sl.v a1), (2, .int .i64 a2), (3, .int .i64 a3), (10, .pointer (some (pt b3 0))), (11, .pointer (some (pt b6 0))), (9, .bool s_.1), (12, .int .i64 s_.2.1)]) (fun s_ : (Bool × Int × weirlaw18_Side × weirlaw18_Side) => [(b6, c_weirlaw18_Side.enc s_.2.2.1), (b3, c_weirlaw18_Side.enc s_.2.2.2)]) weirlaw18_plays.F0
noncomputable def weirlaw18_plays.L1 (a1 : Sl) (a2 : Int) (a3 : Int) (s7 : Bool) (s8 : Int) (s9 : weirlaw18_Side) (s10 : weirlaw18_Side) : M (LS (Bool × Int × weirlaw18_Side × weirlaw18_Side) Bool) :=
  (if s8 < (a1.len : Int) then
      pure s7
    else
      pure false) >>= fun y25 =>
  if y25 = true then
    idx a1.a a1.len s8 5 >>= fun p26 =>
    ld c_weirlaw18_Op p26 >>= fun x27 =>
    slot 48 >>= fun b28 =>
    (if x27.Kind = 3 then
        pure true
      else
        pure (x27.Kind == 5)) >>= fun y29 =>
    (if y29 = true then
        (if x27.Kind < a2 then
            pure true
          else
            pure (decide (x27.Kind > a3))) >>= fun y30 =>
        pure y30
      else
        pure false) >>= fun y31 =>
    if y31 = true then
      pure (LS.next (s7, IntKind.wrap .i64 (s8 + 1), s9, s10))
    else
      if x27.Two = true then
        weirlaw18_step s9 x27 >>= fun r34 =>
        pure (LS.next (r34.2, IntKind.wrap .i64 (s8 + 1), r34.1, s10))
      else
        weirlaw18_step s10 x27 >>= fun r35 =>
        pure (LS.next (r35.2, IntKind.wrap .i64 (s8 + 1), s9, r35.1))
  else
    pure (LS.done s7)
theorem weirlaw18_plays.L1_ok (a1 : Sl) (a2 : Int) (a3 : Int) (b3 : Nat) (b6 : Nat) (s7 : Bool) (s8 : Int) (s9 : weirlaw18_Side) (s10 : weirlaw18_Side) :
    SJ weirlaw18_plays.cx [.code (c1 (c1 (c2 (c1 (c2 (c2 (c2 (c2 (c2 (c2 weirlaw18_plays.B)))))))))), .inLoop (c1 (c1 (c2 (c1 (c2 (c2 (c2 (c2 (c2 (c2 weirlaw18_plays.B)))))))))), .inBlock 0, .code (c2 (c2 (c2 (c2 (c2 (c2 (c2 weirlaw18_plays.B)))))))] [(1, Sl.v a1), (2, .int .i64 a2), (3, .int .i64 a3), (10, .pointer (some (pt b3 0))), (11, .pointer (some (pt b6 0))), (9, .bool s7), (12, .int .i64 s8)] [(b6, c_weirlaw18_Side.enc s9), (b3, c_weirlaw18_Side.enc s10)] (weirlaw18_plays.L1 a1 a2 a3 s7 s8 s9 s10) (weirlaw18_plays.F1 a1 a2 a3 b3 b6) := by
  unfold weirlaw18_plays.L1
  refine SJ.seq (by kernel_rfl) ?_
  refine SJ.seq (by kernel_rfl) ?_
  refine SJ.region (id := 9) (by kernel_rfl) [0, 1, 2, 3, 4, 5, 6] (by kernel_rfl) ?_
  refine OJ.run [0, 1, 2, 3, 4] [5, 6] [1, 2, 3, 10, 11, 9, 12, 33] (m2 := [(1, Sl.v a1), (2, .int .i64 a2), (3, .int .i64 a3), (10, .pointer (some (pt b3 0))), (11, .pointer (some (pt b6 0))), (9, .bool s7), (12, .int .i64 s8), (33, .bool (decide (s8 < (a1.len : Int))))]) (by kernel_rfl) (by kernel_rfl) ?_
  refine OJ.join (b := decide (s8 < (a1.len : Int))) [5, 6] [] [1, 2, 3, 10, 11, 9, 12, 35] (fun y25 => [(1, Sl.v a1), (2, .int .i64 a2), (3, .int .i64 a3), (10, .pointer (some (pt b3 0))), (11, .pointer (some (pt b6 0))), (9, .bool s7), (12, .int .i64 s8), (35, .bool y25)]) [] [] (by kernel_rfl) (t := 33) (by kernel_rfl) decide_eq_true_iff (fun hp_ => ?_) (fun hp_ => ?_) (by kernel_rfl) (fun _ _ _ _ _ _ h_ => h_) (fun y25 => ?_)
  · refine OJ.run [5, 6] [] [1, 2, 3, 10, 11, 9, 12, 35] (m2 := [(1, Sl.v a1), (2, .int .i64 a2), (3, .int .i64 a3), (10, .pointer (some (pt b3 0))), (11, .pointer (some (pt b6 0))), (9, .bool s7), (12, .int .i64 s8), (35, .bool s7)]) (by kernel_rfl) (by kernel_rfl) ?_
    exact OJ.nil ⟨(Cov.mem Cov.nil), rfl, _, rfl, by kernel_rfl⟩
  · refine OJ.run [5, 6] [] [1, 2, 3, 10, 11, 9, 12, 35] (m2 := [(1, Sl.v a1), (2, .int .i64 a2), (3, .int .i64 a3), (10, .pointer (some (pt b3 0))), (11, .pointer (some (pt b6 0))), (9, .bool s7), (12, .int .i64 s8), (35, .bool false)]) (by kernel_rfl) (by kernel_rfl) ?_
    exact OJ.nil ⟨(Cov.mem Cov.nil), rfl, _, rfl, by kernel_rfl⟩
  · refine OJ.nil ?_
    refine SJ.cond (t := (.tmp 35)) (b := y25) (by kernel_rfl) (by kernel_rfl) Iff.rfl (fun hc38 => ?_) (fun hc38 => ?_)
    · refine SJ.skip (by kernel_rfl) ?_
      refine SJ.seq (by kernel_rfl) ?_
      refine SJ.block (id := 1) (by kernel_rfl) ?_
      refine SJ.seq (by kernel_rfl) ?_
      refine SJ.region (id := 11) (by kernel_rfl) [0, 1, 2, 3, 4, 5] (by kernel_rfl) ?_
      refine OJ.run [0, 1] [2, 3, 4, 5] [1, 2, 3, 10, 11, 9, 12, 38, 39] (m2 := [(1, Sl.v a1), (2, .int .i64 a2), (3, .int .i64 a3), (10, .pointer (some (pt b3 0))), (11, .pointer (some (pt b6 0))), (9, .bool s7), (12, .int .i64 s8), (38, Sl.v a1), (39, .int .i64 s8)]) (by kernel_rfl) (by kernel_rfl) ?_
      refine OJ.idxS (d := 40) (T := 53) (y := .tmp 38) (j := .tmp 39) (E := 48) (cap := a1.cap) (k := .i64) (by kernel_rfl) (by kernel_rfl) (by kernel_rfl) (by kernel_rfl) (by kernel_rfl) (by kernel_rfl) (by kernel_rfl) (by kernel_rfl) (fun p26 => ?_)
      refine OJ.ld (d := 41) (T := 48) (y := .tmp 40) (pend2 := fun x27 => []) (by kernel_rfl) (by kernel_rfl) Ty48 (by kernel_rfl) (by kernel_rfl) (fun _ => rfl) (fun x27 => ?_)
      refine OJ.slotOf (d := 13) (op := (.alloc 48)) (cd := c_weirlaw18_Op) (u := z_weirlaw18_Op) (owed := []) (by kernel_rfl) (alloc_run Ty48) (by kernel_rfl) (by kernel_rfl) (by kernel_rfl) (fun b28 => ?_)
      refine OW.nil ?_
      refine OJ.kst (T := 48) (y := .tmp 13) (z := .tmp 41) (cd := c_weirlaw18_Op) (u := x27) (j := 0) (b := b28) (o := 0) (c_weirlaw18_Op.enc x27) (h2 := [(b28, c_weirlaw18_Op.enc x27), (b6, c_weirlaw18_Side.enc s9), (b3, c_weirlaw18_Side.enc s10)]) (owed := []) (by kernel_rfl) (by kernel_rfl) (by kernel_rfl) Ty48 rfl (Upd.whole ((Cod.len _ _).trans (Cod.len _ _).symm)) (by kernel_rfl) (by kernel_rfl) rfl ?_
      refine OW.nil ?_
      refine OJ.nil ?_
      refine SJ.seq (by kernel_rfl) ?_
      refine SJ.seq (by kernel_rfl) ?_
      refine SJ.region (id := 12) (by kernel_rfl) [0, 1, 2, 3, 4, 5, 6, 7, 8, 9, 10, 11, 12, 13, 14, 15, 16, 17, 18, 19] (by kernel_rfl) ?_
      refine OJ.run [0] [1, 2, 3, 4, 5, 6, 7, 8, 9, 10, 11, 12, 13, 14, 15, 16, 17, 18, 19] [1, 2, 3, 10, 11, 9, 12, 13, 42] (m2 := [(1, Sl.v a1), (2, .int .i64 a2), (3, .int .i64 a3), (10, .pointer (some (pt b3 0))), (11, .pointer (some (pt b6 0))), (9, .bool s7), (12, .int .i64 s8), (13, .pointer (some (pt b28 0))), (42, .pointer (some (pt b28 0)))]) (by kernel_rfl) (by kernel_rfl) ?_
      refine OJ.kld (d := 43) (T := 3) (y := .tmp 42) (cd := (cI .i64)) (j := 0) (b := b28) (o := 0) x27.Kind (pend2 := []) (by kernel_rfl) (by kernel_rfl) Ty3 (by kernel_rfl) rfl (At_weirlaw18_Op_Kind x27) (by kernel_rfl) rfl ?_
      refine OJ.run [2, 3] [4, 5, 6, 7, 8, 9, 10, 11, 12, 13, 14, 15, 16, 17, 18, 19] [1, 2, 3, 10, 11, 9, 12, 13, 45] (m2 := [(1, Sl.v a1), (2, .int .i64 a2), (3, .int .i64 a3), (10, .pointer (some (pt b3 0))), (11, .pointer (some (pt b6 0))), (9, .bool s7), (12, .int .i64 s8), (13, .pointer (some (pt b28 0))), (45, .bool (x27.Kind == 3))]) (by kernel_rfl) (by kernel_rfl) ?_
      refine OJ.join (b := (x27.Kind == 3)) [4, 5, 6, 7] [8, 9, 10, 11, 12, 13, 14, 15, 16, 17, 18, 19] [1, 2, 3, 10, 11, 9, 12, 13, 49] (fun y29 => [(1, Sl.v a1), (2, .int .i64 a2), (3, .int .i64 a3), (10, .pointer (some (pt b3 0))), (11, .pointer (some (pt b6 0))), (9, .bool s7), (12, .int .i64 s8), (13, .pointer (some (pt b28 0))), (49, .bool y29)]) [] [] (by kernel_rfl) (t := 45) (by kernel_rfl) beq_iff_eq (fun hp_ => ?_) (fun hp_ => ?_) (by kernel_rfl) (fun _ _ _ _ _ _ h_ => h_) (fun y29 => ?_)
      · refine OJ.run [4, 5, 6, 7] [] [1, 2, 3, 10, 11, 9, 12, 13, 49] (m2 := [(1, Sl.v a1), (2, .int .i64 a2), (3, .int .i64 a3), (10, .pointer (some (pt b3 0))), (11, .pointer (some (pt b6 0))), (9, .bool s7), (12, .int .i64 s8), (13, .pointer (some (pt b28 0))), (49, .bool true)]) (by kernel_rfl) (by kernel_rfl) ?_
        exact OJ.nil ⟨(Cov.mem Cov.nil), rfl, _, rfl, by kernel_rfl⟩
      · refine OJ.run [4] [5, 6, 7] [1, 2, 3, 10, 11, 9, 12, 13, 45, 46] (m2 := [(1, Sl.v a1), (2, .int .i64 a2), (3, .int .i64 a3), (10, .pointer (some (pt b3 0))), (11, .pointer (some (pt b6 0))), (9, .bool s7), (12, .int .i64 s8), (13, .pointer (some (pt b28 0))), (45, .bool false), (46, .pointer (some (pt b28 0)))]) (by kernel_rfl) (by kernel_rfl) ?_
        refine OJ.kld (d := 47) (T := 3) (y := .tmp 46) (cd := (cI .i64)) (j := 0) (b := b28) (o := 0) x27.Kind (pend2 := []) (by kernel_rfl) (by kernel_rfl) Ty3 (by kernel_rfl) rfl (At_weirlaw18_Op_Kind x27) (by kernel_rfl) rfl ?_
        refine OJ.run [6, 7] [] [1, 2, 3, 10, 11, 9, 12, 13, 49] (m2 := [(1, Sl.v a1), (2, .int .i64 a2), (3, .int .i64 a3), (10, .pointer (some (pt b3 0))), (11, .pointer (some (pt b6 0))), (9, .bool s7), (12, .int .i64 s8), (13, .pointer (some (pt b28 0))), (49, .bool (x27.Kind == 5))]) (by kernel_rfl) (by kernel_rfl) ?_
        exact OJ.nil ⟨(Cov.mem Cov.nil), rfl, _, rfl, by kernel_rfl⟩
      · refine OJ.run [8] [9, 10, 11, 12, 13, 14, 15, 16, 17, 18, 19] [1, 2, 3, 10, 11, 9, 12, 13, 50] (m2 := [(1, Sl.v a1), (2, .int .i64 a2), (3, .int .i64 a3), (10, .pointer (some (pt b3 0))), (11, .pointer (some (pt b6 0))), (9, .bool s7), (12, .int .i64 s8), (13, .pointer (some (pt b28 0))), (50, .bool y29)]) (by kernel_rfl) (by kernel_rfl) ?_
        refine OJ.join (b := y29) [9, 10, 11, 12, 13, 14, 15, 16, 17, 18, 19] [] [1, 2, 3, 10, 11, 9, 12, 13, 61] (fun y31 => [(1, Sl.v a1), (2, .int .i64 a2), (3, .int .i64 a3), (10, .pointer (some (pt b3 0))), (11, .pointer (some (pt b6 0))), (9, .bool s7), (12, .int .i64 s8), (13, .pointer (some (pt b28 0))), (61, .bool y31)]) [] [] (by kernel_rfl) (t := 50) (by kernel_rfl) Iff.rfl (fun hp_ => ?_) (fun hp_ => ?_) (by kernel_rfl) (fun _ _ _ _ _ _ h_ => h_) (fun y31 => ?_)
        · refine OJ.run [9] [10, 11, 12, 13, 14, 15, 16, 17, 18, 19] [1, 2, 3, 10, 11, 9, 12, 13, 50, 51] (m2 := [(1, Sl.v a1), (2, .int .i64 a2), (3, .int .i64 a3), (10, .pointer (some (pt b3 0))), (11, .pointer (some (pt b6 0))), (9, .bool s7), (12, .int .i64 s8), (13, .pointer (some (pt b28 0))), (50, .bool true), (51, .pointer (some (pt b28 0)))]) (by kernel_rfl) (by kernel_rfl) ?_
          refine OJ.kld (d := 52) (T := 3) (y := .tmp 51) (cd := (cI .i64)) (j := 0) (b := b28) (o := 0) x27.Kind (pend2 := []) (by kernel_rfl) (by kernel_rfl) Ty3 (by kernel_rfl) rfl (At_weirlaw18_Op_Kind x27) (by kernel_rfl) rfl ?_
          refine OJ.run [11, 12, 13] [14, 15, 16, 17, 18, 19] [1, 2, 3, 10, 11, 9, 12, 13, 50, 55] (m2 := [(1, Sl.v a1), (2, .int .i64 a2), (3, .int .i64 a3), (10, .pointer (some (pt b3 0))), (11, .pointer (some (pt b6 0))), (9, .bool s7), (12, .int .i64 s8), (13, .pointer (some (pt b28 0))), (50, .bool true), (55, .bool (decide (x27.Kind < a2)))]) (by kernel_rfl) (by kernel_rfl) ?_
          refine OJ.join (b := decide (x27.Kind < a2)) [14, 15, 16, 17, 18] [19] [1, 2, 3, 10, 11, 9, 12, 13, 50, 60] (fun y30 => [(1, Sl.v a1), (2, .int .i64 a2), (3, .int .i64 a3), (10, .pointer (some (pt b3 0))), (11, .pointer (some (pt b6 0))), (9, .bool s7), (12, .int .i64 s8), (13, .pointer (some (pt b28 0))), (50, .bool true), (60, .bool y30)]) [] [] (by kernel_rfl) (t := 55) (by kernel_rfl) decide_eq_true_iff (fun hp_ => ?_) (fun hp_ => ?_) (by kernel_rfl) (fun _ _ _ _ _ hq_ h_ => ⟨fun e_ he_ => (hq_ e_ he_).elim (fun h => h_.1 e_ h) (fun h => nomatch h), h_.2⟩) (fun y30 => ?_)
          · refine OJ.run [14, 15, 16, 17, 18] [] [1, 2, 3, 10, 11, 9, 12, 13, 50, 60] (m2 := [(1, Sl.v a1), (2, .int .i64 a2), (3, .int .i64 a3), (10, .pointer (some (pt b3 0))), (11, .pointer (some (pt b6 0))), (9, .bool s7), (12, .int .i64 s8), (13, .pointer (some (pt b28 0))), (50, .bool true), (60, .bool true)]) (by kernel_rfl) (by kernel_rfl) ?_
            exact OJ.nil ⟨(Cov.mem Cov.nil), rfl, _, rfl, by kernel_rfl⟩
          · refine OJ.run [14] [15, 16, 17, 18] [1, 2, 3, 10, 11, 9, 12, 13, 50, 55, 56] (m2 := [(1, Sl.v a1), (2, .int .i64 a2), (3, .int .i64 a3), (10, .pointer (some (pt b3 0))), (11, .pointer (some (pt b6 0))), (9, .bool s7), (12, .int .i64 s8), (13, .pointer (some (pt b28 0))), (50, .bool true), (55, .bool false), (56, .pointer (some (pt b28 0)))]) (by kernel_rfl) (by kernel_rfl) ?_
            refine OJ.kld (d := 57) (T := 3) (y := .tmp 56) (cd := (cI .i64)) (j := 0) (b := b28) (o := 0) x27.Kind (pend2 := []) (by kernel_rfl) (by kernel_rfl) Ty3 (by kernel_rfl) rfl (At_weirlaw18_Op_Kind x27) (by kernel_rfl) rfl ?_
            refine OJ.run [16, 17, 18] [] [1, 2, 3, 10, 11, 9, 12, 13, 50, 60] (m2 := [(1, Sl.v a1), (2, .int .i64 a2), (3, .int .i64 a3), (10, .pointer (some (pt b3 0))), (11, .pointer (some (pt b6 0))), (9, .bool s7), (12, .int .i64 s8), (13, .pointer (some (pt b28 0))), (50, .bool true), (60, .bool (decide (x27.Kind > a3)))]) (by kernel_rfl) (by kernel_rfl) ?_
            exact OJ.nil ⟨(Cov.mem Cov.nil), rfl, _, rfl, by kernel_rfl⟩
          · refine OJ.run [19] [] [1, 2, 3, 10, 11, 9, 12, 13, 61] (m2 := [(1, Sl.v a1), (2, .int .i64 a2), (3, .int .i64 a3), (10, .pointer (some (pt b3 0))), (11, .pointer (some (pt b6 0))), (9, .bool s7), (12, .int .i64 s8), (13, .pointer (some (pt b28 0))), (61, .bool y30)]) (by kernel_rfl) (by kernel_rfl) ?_
            exact OJ.nil ⟨(Cov.mem Cov.nil), rfl, _, rfl, by kernel_rfl⟩
        · refine OJ.run [9, 10, 11, 12, 13, 14, 15, 16, 17, 18, 19] [] [1, 2, 3, 10, 11, 9, 12, 13, 61] (m2 := [(1, Sl.v a1), (2, .int .i64 a2), (3, .int .i64 a3), (10, .pointer (some (pt b3 0))), (11, .pointer (some (pt b6 0))), (9, .bool s7), (12, .int .i64 s8), (13, .pointer (some (pt b28 0))), (61, .bool false)]) (by kernel_rfl) (by kernel_rfl) ?_
          exact OJ.nil ⟨(Cov.mem Cov.nil), rfl, _, rfl, by kernel_rfl⟩
        · refine OJ.nil ?_
          refine SJ.cond (t := (.tmp 61)) (b := y31) (by kernel_rfl) (by kernel_rfl) Iff.rfl (fun hc37 => ?_) (fun hc37 => ?_)
          · refine SJ.exit (id := 1) (by kernel_rfl) (by rfl) ?_
            refine SJ.region (id := 10) (by kernel_rfl) [0, 1, 2] (by kernel_rfl) ?_
            refine OJ.run [0, 1, 2] [] [1, 2, 3, 10, 11, 9, 12] (m2 := [(1, Sl.v a1), (2, .int .i64 a2), (3, .int .i64 a3), (10, .pointer (some (pt b3 0))), (11, .pointer (some (pt b6 0))), (9, .bool s7), (12, .int .i64 (IntKind.wrap .i64 (s8 + 1)))]) (by kernel_rfl) (by kernel_rfl) ?_
            refine OJ.nil ?_
            refine SJ.forget (List.Sublist.cons _ (List.Sublist.cons_cons _ (List.Sublist.cons_cons _ List.Sublist.slnil))) ?_
            exact SJ.at_ [1, 2, 3, 10, 11, 9, 12] rfl (by kernel_rfl)
          · refine SJ.skip (by kernel_rfl) ?_
            refine SJ.seq (by kernel_rfl) ?_
            refine SJ.region (id := 13) (by kernel_rfl) [0, 1] (by kernel_rfl) ?_
            refine OJ.run [0] [1] [1, 2, 3, 10, 11, 12, 13, 62] (m2 := [(1, Sl.v a1), (2, .int .i64 a2), (3, .int .i64 a3), (10, .pointer (some (pt b3 0))), (11, .pointer (some (pt b6 0))), (12, .int .i64 s8), (13, .pointer (some (pt b28 0))), (62, .pointer (some (pt b28 1)))]) (by kernel_rfl) (by kernel_rfl) ?_
            refine OJ.kld (d := 63) (T := 4) (y := .tmp 62) (cd := cB) (j := 0) (b := b28) (o := 1) x27.Two (pend2 := []) (by kernel_rfl) (by kernel_rfl) Ty4 (by kernel_rfl) rfl (At_weirlaw18_Op_Two x27) (by kernel_rfl) rfl ?_
            refine OJ.nil ?_
            refine SJ.cond (t := (.tmp 63)) (b := x27.Two) (by kernel_rfl) (by kernel_rfl) Iff.rfl (fun hc36 => ?_) (fun hc36 => ?_)
            · refine SJ.region (id := 14) (by kernel_rfl) [0, 1, 2, 3, 4, 5, 6, 7] (by kernel_rfl) ?_
              refine OJ.kld (d := 65) (T := 73) (y := .tmp 11) (cd := c_weirlaw18_Side) (j := 1) (b := b6) (o := 0) s9 (pend2 := []) (by kernel_rfl) (by kernel_rfl) Ty73 (by kernel_rfl) rfl (At.whole _) (by kernel_rfl) rfl ?_
              refine OJ.kld (d := 66) (T := 48) (y := .tmp 13) (cd := c_weirlaw18_Op) (j := 0) (b := b28) (o := 0) x27 (pend2 := []) (by kernel_rfl) (by kernel_rfl) Ty48 (by kernel_rfl) rfl (At.whole _) (by kernel_rfl) rfl ?_
              refine OJ.call (d := 67) (g := 42) (ats := #[73, 48]) (args := [.tmp 65, .tmp 66]) (vals := [c_weirlaw18_Side.val s9, c_weirlaw18_Op.val x27]) (owed := []) (by kernel_rfl) F42 (by kernel_rfl) (weirlaw18_step_ok s9 x27) (by kernel_rfl) (by kernel_rfl) (by kernel_rfl) (fun r34 => ?_)
              refine OW.nil ?_
              refine OJ.run [3, 4, 5] [6, 7] [1, 2, 3, 10, 11, 12, 68, 69] (m2 := [(1, Sl.v a1), (2, .int .i64 a2), (3, .int .i64 a3), (10, .pointer (some (pt b3 0))), (11, .pointer (some (pt b6 0))), (12, .int .i64 s8), (68, c_weirlaw18_Side.val r34.1), (69, .bool r34.2)]) (by kernel_rfl) (by kernel_rfl) ?_
              refine OJ.kst (T := 73) (y := .tmp 11) (z := .tmp 68) (cd := c_weirlaw18_Side) (u := r34.1) (j := 1) (b := b6) (o := 0) (c_weirlaw18_Side.enc r34.1) (h2 := [(b28, c_weirlaw18_Op.enc x27), (b6, c_weirlaw18_Side.enc r34.1), (b3, c_weirlaw18_Side.enc s10)]) (owed := []) (by kernel_rfl) (by kernel_rfl) (by kernel_rfl) Ty73 rfl (Upd.whole ((Cod.len _ _).trans (Cod.len _ _).symm)) (by kernel_rfl) (by kernel_rfl) rfl ?_
              refine OW.nil ?_
              refine OJ.run [7] [] [1, 2, 3, 10, 11, 12, 9] (m2 := [(1, Sl.v a1), (2, .int .i64 a2), (3, .int .i64 a3), (10, .pointer (some (pt b3 0))), (11, .pointer (some (pt b6 0))), (12, .int .i64 s8), (9, .bool r34.2)]) (by kernel_rfl) (by kernel_rfl) ?_
              refine OJ.nil ?_
              refine SJ.inBlock ?_
              refine SJ.region (id := 10) (by kernel_rfl) [0, 1, 2] (by kernel_rfl) ?_
              refine OJ.run [0, 1, 2] [] [1, 2, 3, 10, 11, 12, 9] (m2 := [(1, Sl.v a1), (2, .int .i64 a2), (3, .int .i64 a3), (10, .pointer (some (pt b3 0))), (11, .pointer (some (pt b6 0))), (12, .int .i64 (IntKind.wrap .i64 (s8 + 1))), (9, .bool r34.2)]) (by kernel_rfl) (by kernel_rfl) ?_
              refine OJ.nil ?_
              refine SJ.forget (List.Sublist.cons _ (List.Sublist.cons_cons _ (List.Sublist.cons_cons _ List.Sublist.slnil))) ?_
              exact SJ.at_ [1, 2, 3, 10, 11, 9, 12] rfl (by kernel_rfl)
            · refine SJ.region (id := 15) (by kernel_rfl) [0, 1, 2, 3, 4, 5, 6, 7] (by kernel_rfl) ?_
              refine OJ.kld (d := 71) (T := 73) (y := .tmp 10) (cd := c_weirlaw18_Side) (j := 2) (b := b3) (o := 0) s10 (pend2 := []) (by kernel_rfl) (by kernel_rfl) Ty73 (by kernel_rfl) rfl (At.whole _) (by kernel_rfl) rfl ?_
              refine OJ.kld (d := 72) (T := 48) (y := .tmp 13) (cd := c_weirlaw18_Op) (j := 0) (b := b28) (o := 0) x27 (pend2 := []) (by kernel_rfl) (by kernel_rfl) Ty48 (by kernel_rfl) rfl (At.whole _) (by kernel_rfl) rfl ?_
              refine OJ.call (d := 73) (g := 42) (ats := #[73, 48]) (args := [.tmp 71, .tmp 72]) (vals := [c_weirlaw18_Side.val s10, c_weirlaw18_Op.val x27]) (owed := []) (by kernel_rfl) F42 (by kernel_rfl) (weirlaw18_step_ok s10 x27) (by kernel_rfl) (by kernel_rfl) (by kernel_rfl) (fun r35 => ?_)
              refine OW.nil ?_
              refine OJ.run [3, 4, 5] [6, 7] [1, 2, 3, 10, 11, 12, 74, 75] (m2 := [(1, Sl.v a1), (2, .int .i64 a2), (3, .int .i64 a3), (10, .pointer (some (pt b3 0))), (11, .pointer (some (pt b6 0))), (12, .int .i64 s8), (74, c_weirlaw18_Side.val r35.1), (75, .bool r35.2)]) (by kernel_rfl) (by kernel_rfl) ?_
              refine OJ.kst (T := 73) (y := .tmp 10) (z := .tmp 74) (cd := c_weirlaw18_Side) (u := r35.1) (j := 2) (b := b3) (o := 0) (c_weirlaw18_Side.enc r35.1) (h2 := [(b28, c_weirlaw18_Op.enc x27), (b6, c_weirlaw18_Side.enc s9), (b3, c_weirlaw18_Side.enc r35.1)]) (owed := []) (by kernel_rfl) (by kernel_rfl) (by kernel_rfl) Ty73 rfl (Upd.whole ((Cod.len _ _).trans (Cod.len _ _).symm)) (by kernel_rfl) (by kernel_rfl) rfl ?_
              refine OW.nil ?_
              refine OJ.run [7] [] [1, 2, 3, 10, 11, 12, 9] (m2 := [(1, Sl.v a1), (2, .int .i64 a2), (3, .int .i64 a3), (10, .pointer (some (pt b3 0))), (11, .pointer (some (pt b6 0))), (12, .int .i64 s8), (9, .bool r35.2)]) (by kernel_rfl) (by kernel_rfl) ?_
              refine OJ.nil ?_
              refine SJ.inBlock ?_
              refine SJ.region (id := 10) (by kernel_rfl) [0, 1, 2] (by kernel_rfl) ?_
              refine OJ.run [0, 1, 2] [] [1, 2, 3, 10, 11, 12, 9] (m2 := [(1, Sl.v a1), (2, .int .i64 a2), (3, .int .i64 a3), (10, .pointer (some (pt b3 0))), (11, .pointer (some (pt b6 0))), (12, .int .i64 (IntKind.wrap .i64 (s8 + 1))), (9, .bool r35.2)]) (by kernel_rfl) (by kernel_rfl) ?_
              refine OJ.nil ?_
              refine SJ.forget (List.Sublist.cons _ (List.Sublist.cons_cons _ (List.Sublist.cons_cons _ List.Sublist.slnil))) ?_
              exact SJ.at_ [1, 2, 3, 10, 11, 9, 12] rfl (by kernel_rfl)
    · refine SJ.exit (id := 0) (by kernel_rfl) (by rfl) ?_
      refine SJ.seq (by kernel_rfl) ?_
      refine SJ.region (id := 16) (by kernel_rfl) [0, 1] (by kernel_rfl) ?_
      refine OJ.run [0, 1] [] [8] (m2 := [(8, .bool s7)]) (by kernel_rfl) (by kernel_rfl) ?_
      refine OJ.nil ?_
      exact SJ.ret (by kernel_rfl) rfl (Res.run (ys := [.bool s7]) (.tmp (by kernel_rfl) .nil) rfl)
noncomputable def weirlaw18_plays (a0 : Sl) (a1 : Sl) (a2 : Int) (a3 : Int) : M Bool :=
  weirlaw18_started >>= fun r1 =>
  if ¬ (r1 = true) then
    pure false
  else
    weirlaw18_made a0 >>= fun r2 =>
    slot 73 >>= fun b3 =>
    if ¬ (r2.2 = true) then
      pure false
    else
      weirlaw18_two >>= fun r4 =>
      weirlaw18_made r4 >>= fun r5 =>
      slot 73 >>= fun b6 =>
      loopM (fun s_ : (Bool × Int × weirlaw18_Side × weirlaw18_Side) => weirlaw18_plays.L1 a1 a2 a3 s_.1 s_.2.1 s_.2.2.1 s_.2.2.2) (r5.2, 0, r5.1, r2.1)
theorem weirlaw18_plays_ok (a0 : Sl) (a1 : Sl) (a2 : Int) (a3 : Int) : Ref Try.prog 32 [Sl.v a0, Sl.v a1, .int .i64 a2, .int .i64 a3] (weirlaw18_plays a0 a1 a2 a3) weirlaw18_plays.out := by
  refine Ref.of (cd := weirlaw18_plays.B) Try.func32 (by kernel_rfl) (by kernel_rfl) ?_
  show SJ weirlaw18_plays.cx [.code weirlaw18_plays.B] [(0, Sl.v a0), (1, Sl.v a1), (2, .int .i64 a2), (3, .int .i64 a3)] [] (weirlaw18_plays a0 a1 a2 a3) weirlaw18_plays.F0
  unfold weirlaw18_plays
  refine SJ.seq (by kernel_rfl) ?_
  refine SJ.region (id := 0) (by kernel_rfl) [0] (by kernel_rfl) ?_
  refine OJ.run [0] [] [0, 1, 2, 3] (m2 := [(0, Sl.v a0), (1, Sl.v a1), (2, .int .i64 a2), (3, .int .i64 a3)]) (by kernel_rfl) (by kernel_rfl) ?_
  refine OJ.nil ?_
  refine SJ.seq (by kernel_rfl) ?_
  refine SJ.region (id := 1) (by kernel_rfl) [0, 1] (by kernel_rfl) ?_
  refine OJ.call (d := 14) (g := 33) (ats := #[]) (args := []) (vals := []) (owed := []) (by kernel_rfl) F33 (by kernel_rfl) (weirlaw18_started_ok ) (by kernel_rfl) (by kernel_rfl) (by kernel_rfl) (fun r1 => ?_)
  refine OW.nil ?_
  refine OJ.run [1] [] [0, 1, 2, 3, 9] (m2 := [(0, Sl.v a0), (1, Sl.v a1), (2, .int .i64 a2), (3, .int .i64 a3), (9, .bool r1)]) (by kernel_rfl) (by kernel_rfl) ?_
  refine OJ.nil ?_
  refine SJ.seq (by kernel_rfl) ?_
  refine SJ.seq (by kernel_rfl) ?_
  refine SJ.region (id := 2) (by kernel_rfl) [0, 1] (by kernel_rfl) ?_
  refine OJ.run [0, 1] [] [0, 1, 2, 3, 16] (m2 := [(0, Sl.v a0), (1, Sl.v a1), (2, .int .i64 a2), (3, .int .i64 a3), (16, .bool (!r1))]) (by kernel_rfl) (by kernel_rfl) ?_
  refine OJ.nil ?_
  refine SJ.cond (t := (.tmp 16)) (b := (!r1)) (by kernel_rfl) (by kernel_rfl) (bnot_iff Iff.rfl) (fun hc40 => ?_) (fun hc40 => ?_)
  · refine SJ.seq (by kernel_rfl) ?_
    refine SJ.region (id := 3) (by kernel_rfl) [0] (by kernel_rfl) ?_
    refine OJ.run [0] [] [8] (m2 := [(8, .bool false)]) (by kernel_rfl) (by kernel_rfl) ?_
    refine OJ.nil ?_
    exact SJ.ret (by kernel_rfl) rfl (Res.run (ys := [.bool false]) (.tmp (by kernel_rfl) .nil) rfl)
  · refine SJ.skip (by kernel_rfl) ?_
    refine SJ.seq (by kernel_rfl) ?_
    refine SJ.region (id := 4) (by kernel_rfl) [0, 1, 2, 3, 4, 5, 6, 7] (by kernel_rfl) ?_
    refine OJ.run [0] [1, 2, 3, 4, 5, 6, 7] [1, 2, 3, 18] (m2 := [(1, Sl.v a1), (2, .int .i64 a2), (3, .int .i64 a3), (18, Sl.v a0)]) (by kernel_rfl) (by kernel_rfl) ?_
    refine OJ.call (d := 19) (g := 34) (ats := #[27]) (args := [.tmp 18]) (vals := [Sl.v a0]) (owed := []) (by kernel_rfl) F34 (by kernel_rfl) (weirlaw18_made_ok a0) (by kernel_rfl) (by kernel_rfl) (by kernel_rfl) (fun r2 => ?_)
    refine OW.nil ?_
    refine OJ.run [2, 3, 4] [5, 6, 7] [1, 2, 3, 20, 21] (m2 := [(1, Sl.v a1), (2, .int .i64 a2), (3, .int .i64 a3), (20, c_weirlaw18_Side.val r2.1), (21, .bool r2.2)]) (by kernel_rfl) (by kernel_rfl) ?_
    refine OJ.slotOf (d := 10) (op := (.alloc 73)) (cd := c_weirlaw18_Side) (u := z_weirlaw18_Side) (owed := []) (by kernel_rfl) (alloc_run Ty73) (by kernel_rfl) (by kernel_rfl) (by kernel_rfl) (fun b3 => ?_)
    refine OW.nil ?_
    refine OJ.kst (T := 73) (y := .tmp 10) (z := .tmp 20) (cd := c_weirlaw18_Side) (u := r2.1) (j := 0) (b := b3) (o := 0) (c_weirlaw18_Side.enc r2.1) (h2 := [(b3, c_weirlaw18_Side.enc r2.1)]) (owed := []) (by kernel_rfl) (by kernel_rfl) (by kernel_rfl) Ty73 rfl (Upd.whole ((Cod.len _ _).trans (Cod.len _ _).symm)) (by kernel_rfl) (by kernel_rfl) rfl ?_
    refine OW.nil ?_
    refine OJ.run [7] [] [1, 2, 3, 10, 9] (m2 := [(1, Sl.v a1), (2, .int .i64 a2), (3, .int .i64 a3), (10, .pointer (some (pt b3 0))), (9, .bool r2.2)]) (by kernel_rfl) (by kernel_rfl) ?_
    refine OJ.nil ?_
    refine SJ.seq (by kernel_rfl) ?_
    refine SJ.seq (by kernel_rfl) ?_
    refine SJ.region (id := 5) (by kernel_rfl) [0, 1] (by kernel_rfl) ?_
    refine OJ.run [0, 1] [] [1, 2, 3, 10, 23] (m2 := [(1, Sl.v a1), (2, .int .i64 a2), (3, .int .i64 a3), (10, .pointer (some (pt b3 0))), (23, .bool (!r2.2))]) (by kernel_rfl) (by kernel_rfl) ?_
    refine OJ.nil ?_
    refine SJ.cond (t := (.tmp 23)) (b := (!r2.2)) (by kernel_rfl) (by kernel_rfl) (bnot_iff Iff.rfl) (fun hc39 => ?_) (fun hc39 => ?_)
    · refine SJ.seq (by kernel_rfl) ?_
      refine SJ.region (id := 6) (by kernel_rfl) [0] (by kernel_rfl) ?_
      refine OJ.run [0] [] [8] (m2 := [(8, .bool false)]) (by kernel_rfl) (by kernel_rfl) ?_
      refine OJ.nil ?_
      exact SJ.ret (by kernel_rfl) rfl (Res.run (ys := [.bool false]) (.tmp (by kernel_rfl) .nil) rfl)
    · refine SJ.skip (by kernel_rfl) ?_
      refine SJ.seq (by kernel_rfl) ?_
      refine SJ.region (id := 7) (by kernel_rfl) [0, 1, 2, 3, 4, 5, 6, 7] (by kernel_rfl) ?_
      refine OJ.call (d := 25) (g := 43) (ats := #[]) (args := []) (vals := []) (owed := []) (by kernel_rfl) F43 (by kernel_rfl) (weirlaw18_two_ok ) (by kernel_rfl) (by kernel_rfl) (by kernel_rfl) (fun r4 => ?_)
      refine OW.nil ?_
      refine OJ.call (d := 26) (g := 34) (ats := #[27]) (args := [.tmp 25]) (vals := [Sl.v r4]) (owed := []) (by kernel_rfl) F34 (by kernel_rfl) (weirlaw18_made_ok r4) (by kernel_rfl) (by kernel_rfl) (by kernel_rfl) (fun r5 => ?_)
      refine OW.nil ?_
      refine OJ.run [2, 3, 4] [5, 6, 7] [1, 2, 3, 10, 27, 28] (m2 := [(1, Sl.v a1), (2, .int .i64 a2), (3, .int .i64 a3), (10, .pointer (some (pt b3 0))), (27, c_weirlaw18_Side.val r5.1), (28, .bool r5.2)]) (by kernel_rfl) (by kernel_rfl) ?_
      refine OJ.slotOf (d := 11) (op := (.alloc 73)) (cd := c_weirlaw18_Side) (u := z_weirlaw18_Side) (owed := []) (by kernel_rfl) (alloc_run Ty73) (by kernel_rfl) (by kernel_rfl) (by kernel_rfl) (fun b6 => ?_)
      refine OW.nil ?_
      refine OJ.kst (T := 73) (y := .tmp 11) (z := .tmp 27) (cd := c_weirlaw18_Side) (u := r5.1) (j := 0) (b := b6) (o := 0) (c_weirlaw18_Side.enc r5.1) (h2 := [(b6, c_weirlaw18_Side.enc r5.1), (b3, c_weirlaw18_Side.enc r2.1)]) (owed := []) (by kernel_rfl) (by kernel_rfl) (by kernel_rfl) Ty73 rfl (Upd.whole ((Cod.len _ _).trans (Cod.len _ _).symm)) (by kernel_rfl) (by kernel_rfl) rfl ?_
      refine OW.nil ?_
      refine OJ.run [7] [] [1, 2, 3, 10, 11, 9] (m2 := [(1, Sl.v a1), (2, .int .i64 a2), (3, .int .i64 a3), (10, .pointer (some (pt b3 0))), (11, .pointer (some (pt b6 0))), (9, .bool r5.2)]) (by kernel_rfl) (by kernel_rfl) ?_
      refine OJ.nil ?_
      refine SJ.seq (by kernel_rfl) ?_
      refine SJ.seq (by kernel_rfl) ?_
      refine SJ.region (id := 8) (by kernel_rfl) [0] (by kernel_rfl) ?_
      refine OJ.run [0] [] [1, 2, 3, 10, 11, 9, 12] (m2 := [(1, Sl.v a1), (2, .int .i64 a2), (3, .int .i64 a3), (10, .pointer (some (pt b3 0))), (11, .pointer (some (pt b6 0))), (9, .bool r5.2), (12, .int .i64 0)]) (by kernel_rfl) (by kernel_rfl) ?_
      refine OJ.nil ?_
      refine SJ.block (id := 0) (by kernel_rfl) ?_
      exact SJ.loop (fun s_ : (Bool × Int × weirlaw18_Side × weirlaw18_Side) => [(1, Sl.v a1), (2, .int .i64 a2), (3, .int .i64 a3), (10, .pointer (some (pt b3 0))), (11, .pointer (some (pt b6 0))), (9, .bool s_.1), (12, .int .i64 s_.2.1)]) (fun s_ : (Bool × Int × weirlaw18_Side × weirlaw18_Side) => [(b6, c_weirlaw18_Side.enc s_.2.2.1), (b3, c_weirlaw18_Side.enc s_.2.2.2)]) [1, 2, 3, 10, 11, 9, 12] (by kernel_rfl) (by kernel_rfl) rfl (fun _ _ => rfl) (fun s_ => weirlaw18_plays.L1_ok a1 a2 a3 b3 b6 s_.1 s_.2.1 s_.2.2.1 s_.2.2.2)

/-! ### weir/weirlaw18.QueuePlays: function 9 -/
noncomputable def weirlaw18_QueuePlays.B : Code := (Try.f9.body).getD .skip
noncomputable def weirlaw18_QueuePlays.cx : Fx := ⟨Try.prog, 9, Try.f9⟩
noncomputable def weirlaw18_QueuePlays.out (r_ : Bool) : Value := .bool r_
noncomputable def weirlaw18_QueuePlays.F0 (r_ : Bool) : Reach := .ret (weirlaw18_QueuePlays.out r_)
noncomputable def weirlaw18_QueuePlays (a0 : Sl) (a1 : Sl) : M Bool :=
  weirlaw18_plays a0 a1 3 5 >>= fun r1 =>
  pure r1
theorem weirlaw18_QueuePlays_ok (a0 : Sl) (a1 : Sl) : Ref Try.prog 9 [Sl.v a0, Sl.v a1] (weirlaw18_QueuePlays a0 a1) weirlaw18_QueuePlays.out := by
  refine Ref.of (cd := weirlaw18_QueuePlays.B) Try.func9 (by kernel_rfl) (by kernel_rfl) ?_
  show SJ weirlaw18_QueuePlays.cx [.code weirlaw18_QueuePlays.B] [(0, Sl.v a0), (1, Sl.v a1)] [] (weirlaw18_QueuePlays a0 a1) weirlaw18_QueuePlays.F0
  unfold weirlaw18_QueuePlays
  refine SJ.seq (by kernel_rfl) ?_
  refine SJ.region (id := 0) (by kernel_rfl) [0] (by kernel_rfl) ?_
  refine OJ.run [0] [] [0, 1] (m2 := [(0, Sl.v a0), (1, Sl.v a1)]) (by kernel_rfl) (by kernel_rfl) ?_
  refine OJ.nil ?_
  refine SJ.seq (by kernel_rfl) ?_
  refine SJ.region (id := 1) (by kernel_rfl) [0, 1, 2, 3] (by kernel_rfl) ?_
  refine OJ.run [0, 1] [2, 3] [5, 6] (m2 := [(5, Sl.v a0), (6, Sl.v a1)]) (by kernel_rfl) (by kernel_rfl) ?_
  refine OJ.call (d := 7) (g := 32) (ats := #[27, 53, 3, 3]) (args := [.tmp 5, .tmp 6, .const (.int .i64 3), .const (.int .i64 5)]) (vals := [Sl.v a0, Sl.v a1, .int .i64 3, .int .i64 5]) (owed := []) (by kernel_rfl) F32 (by kernel_rfl) (weirlaw18_plays_ok a0 a1 3 5) (by kernel_rfl) (by kernel_rfl) (by kernel_rfl) (fun r1 => ?_)
  refine OW.nil ?_
  refine OJ.run [3] [] [4] (m2 := [(4, .bool r1)]) (by kernel_rfl) (by kernel_rfl) ?_
  refine OJ.nil ?_
  exact SJ.ret (by kernel_rfl) rfl (Res.run (ys := [.bool r1]) (.tmp (by kernel_rfl) .nil) rfl)

/-! ### (*weir/weirlaw18.Room).lay: function 39 -/
noncomputable def weirlaw18_Room_lay.B : Code := (Try.f39.body).getD .skip
noncomputable def weirlaw18_Room_lay.cx : Fx := ⟨Try.prog, 39, Try.f39⟩
noncomputable def weirlaw18_Room_lay.out (r_ : Sl) : Value := Sl.v r_
noncomputable def weirlaw18_Room_lay.F0 (r_ : Sl) : Reach := .ret (weirlaw18_Room_lay.out r_)
noncomputable def weirlaw18_Room_lay.K1 (a0 : (Option Addr)) (a1 : Sl) : M Sl :=
  nilck a0 >>= fun p12 =>
  ld cL p12 >>= fun x13 =>
  cpyS c_api_Class x13 a1 >>= fun r14 =>
  nilck a0 >>= fun p15 =>
  st (cI .i64) (Addr.add p15 1) (a1.len : Int) >>= fun _ =>
  nilck a0 >>= fun p16 =>
  ld cL p16 >>= fun x17 =>
  cut 5 x17 none (some (a1.len : Int)) none >>= fun r18 =>
  pure r18
theorem weirlaw18_Room_lay.K1_ok (a0 : (Option Addr)) (a1 : Sl) :
    SJ weirlaw18_Room_lay.cx [.code (c2 (c2 (c2 weirlaw18_Room_lay.B)))] [(0, .pointer a0), (1, Sl.v a1)] [] (weirlaw18_Room_lay.K1 a0 a1) weirlaw18_Room_lay.F0 := by
  unfold weirlaw18_Room_lay.K1
  refine SJ.seq (by kernel_rfl) ?_
  refine SJ.region (id := 7) (by kernel_rfl) [0, 1, 2, 3, 4, 5] (by kernel_rfl) ?_
  refine OJ.run [0] [1, 2, 3, 4, 5] [0, 1, 42] (m2 := [(0, .pointer a0), (1, Sl.v a1), (42, .pointer a0)]) (by kernel_rfl) (by kernel_rfl) ?_
  refine OJ.nilck (d := 43) (y := .tmp 42) (by kernel_rfl) (by kernel_rfl) (by kernel_rfl) (by kernel_rfl) (by kernel_rfl) (fun p12 => ?_)
  refine OJ.run [2] [3, 4, 5] [0, 1, 44] (m2 := [(0, .pointer a0), (1, Sl.v a1), (44, .pointer (some p12))]) (by kernel_rfl) (by kernel_rfl) ?_
  refine OJ.ld (d := 45) (T := 27) (y := .tmp 44) (pend2 := fun x13 => []) (by kernel_rfl) (by kernel_rfl) Ty27 (by kernel_rfl) (by kernel_rfl) (fun _ => rfl) (fun x13 => ?_)
  refine OJ.run [4] [5] [0, 1, 45, 46] (m2 := [(0, .pointer a0), (1, Sl.v a1), (45, Sl.v x13), (46, Sl.v a1)]) (by kernel_rfl) (by kernel_rfl) ?_
  refine OJ.cpy1 (n := 47) (t := 27) (u := 27) (so := .tmp 45) (xo := .tmp 46) (owed := []) (by kernel_rfl) (by kernel_rfl) Ty41 (by kernel_rfl) (by kernel_rfl) (by kernel_rfl) (by kernel_rfl) (by kernel_rfl) (fun r14 => ?_)
  refine OW.nil ?_
  refine OJ.nil ?_
  refine SJ.seq (by kernel_rfl) ?_
  refine SJ.region (id := 8) (by kernel_rfl) [0, 1, 2, 3, 4, 5] (by kernel_rfl) ?_
  refine OJ.run [0, 1, 2] [3, 4, 5] [0, 1, 48, 50] (m2 := [(0, .pointer a0), (1, Sl.v a1), (48, .pointer a0), (50, .int .i64 (a1.len : Int))]) (by kernel_rfl) (by kernel_rfl) ?_
  refine OJ.nilck (d := 51) (y := .tmp 48) (by kernel_rfl) (by kernel_rfl) (by kernel_rfl) (by kernel_rfl) (by kernel_rfl) (fun p15 => ?_)
  refine OJ.run [4] [5] [0, 1, 50, 52] (m2 := [(0, .pointer a0), (1, Sl.v a1), (50, .int .i64 (a1.len : Int)), (52, .pointer (some (Addr.add p15 1)))]) (by kernel_rfl) (by kernel_rfl) ?_
  refine OJ.st (T := 3) (y := .tmp 52) (z := .tmp 50) (owed := []) (by kernel_rfl) (by kernel_rfl) (by kernel_rfl) Ty3 (by kernel_rfl) (by kernel_rfl) ?_
  refine OW.nil ?_
  refine OJ.nil ?_
  refine SJ.seq (by kernel_rfl) ?_
  refine SJ.region (id := 9) (by kernel_rfl) [0, 1, 2, 3, 4, 5, 6, 7] (by kernel_rfl) ?_
  refine OJ.run [0] [1, 2, 3, 4, 5, 6, 7] [1, 53] (m2 := [(1, Sl.v a1), (53, .pointer a0)]) (by kernel_rfl) (by kernel_rfl) ?_
  refine OJ.nilck (d := 54) (y := .tmp 53) (by kernel_rfl) (by kernel_rfl) (by kernel_rfl) (by kernel_rfl) (by kernel_rfl) (fun p16 => ?_)
  refine OJ.run [2] [3, 4, 5, 6, 7] [1, 55] (m2 := [(1, Sl.v a1), (55, .pointer (some p16))]) (by kernel_rfl) (by kernel_rfl) ?_
  refine OJ.ld (d := 56) (T := 27) (y := .tmp 55) (pend2 := fun x17 => []) (by kernel_rfl) (by kernel_rfl) Ty27 (by kernel_rfl) (by kernel_rfl) (fun _ => rfl) (fun x17 => ?_)
  refine OJ.run [4, 5] [6, 7] [56, 58] (m2 := [(56, Sl.v x17), (58, .int .i64 (a1.len : Int))]) (by kernel_rfl) (by kernel_rfl) ?_
  refine OJ.cut (d := 59) (t := 27) (E := 41) (y := .tmp 56) (lo := none) (hi := (some (.tmp 58))) (mx := none) (lo' := none) (hi' := some (.i64, (a1.len : Int))) (mx' := none) (by kernel_rfl) (by kernel_rfl) (by kernel_rfl) (by kernel_rfl) (by kernel_rfl) (by kernel_rfl) (by kernel_rfl) (fun h => by cases h) (by kernel_rfl) (by kernel_rfl) (by kernel_rfl) (fun r18 => ?_)
  refine OJ.run [7] [] [4] (m2 := [(4, Sl.v r18)]) (by kernel_rfl) (by kernel_rfl) ?_
  refine OJ.nil ?_
  exact SJ.ret (by kernel_rfl) rfl (Res.run (ys := [Sl.v r18]) (.tmp (by kernel_rfl) .nil) rfl)
noncomputable def weirlaw18_Room_lay.F1 (a0 : (Option Addr)) (a1 : Sl) : (LS Int Sl) → Reach := loopF [.inLoop (c1 (c1 (c2 (c1 (c2 (c2 weirlaw18_Room_lay.B)))))), .inBlock 0, .code (c2 (c2 (c2 weirlaw18_Room_lay.B)))] (fun s_ : Int => [(0, .pointer a0), (1, Sl.v a1), (5, .int .i64 s_)]) (fun s_ : Int => []) weirlaw18_Room_lay.F0
noncomputable def weirlaw18_Room_lay.L1 (a0 : (Option Addr)) (a1 : Sl) (s5 : Int) : M (LS Int Sl) :=
  nilck a0 >>= fun p19 =>
  ld cL p19 >>= fun x20 =>
  if s5 < (x20.len : Int) then
    nilck a0 >>= fun p21 =>
    ld cL p21 >>= fun x22 =>
    idx x22.a x22.len s5 5 >>= fun p23 =>
    st c_api_Class p23 (⟨IntKind.wrap .i64 ((-500) - s5), z_api_Class.Items, z_api_Class.Bytes, z_api_Class.Rate, z_api_Class.Burst⟩ : api_Class) >>= fun _ =>
    pure (LS.next (IntKind.wrap .i64 (s5 + 1)))
  else
    (weirlaw18_Room_lay.K1 a0 a1) >>= fun b => pure (LS.done b)
theorem weirlaw18_Room_lay.L1_ok (a0 : (Option Addr)) (a1 : Sl) (s5 : Int) :
    SJ weirlaw18_Room_lay.cx [.code (c1 (c1 (c2 (c1 (c2 (c2 weirlaw18_Room_lay.B)))))), .inLoop (c1 (c1 (c2 (c1 (c2 (c2 weirlaw18_Room_lay.B)))))), .inBlock 0, .code (c2 (c2 (c2 weirlaw18_Room_lay.B)))] [(0, .pointer a0), (1, Sl.v a1), (5, .int .i64 s5)] [] (weirlaw18_Room_lay.L1 a0 a1 s5) (weirlaw18_Room_lay.F1 a0 a1) := by
  unfold weirlaw18_Room_lay.L1
  refine SJ.seq (by kernel_rfl) ?_
  refine SJ.seq (by kernel_rfl) ?_
  refine SJ.region (id := 4) (by kernel_rfl) [0, 1, 2, 3, 4, 5, 6] (by kernel_rfl) ?_
  refine OJ.run [0, 1] [2, 3, 4, 5, 6] [0, 1, 5, 24, 25] (m2 := [(0, .pointer a0), (1, Sl.v a1), (5, .int .i64 s5), (24, .int .i64 s5), (25, .pointer a0)]) (by kernel_rfl) (by kernel_rfl) ?_
  refine OJ.nilck (d := 26) (y := .tmp 25) (by kernel_rfl) (by kernel_rfl) (by kernel_rfl) (by kernel_rfl) (by kernel_rfl) (fun p19 => ?_)
  refine OJ.run [3] [4, 5, 6] [0, 1, 5, 24, 27] (m2 := [(0, .pointer a0), (1, Sl.v a1), (5, .int .i64 s5), (24, .int .i64 s5), (27, .pointer (some p19))]) (by kernel_rfl) (by kernel_rfl) ?_
  refine OJ.ld (d := 28) (T := 27) (y := .tmp 27) (pend2 := fun x20 => []) (by kernel_rfl) (by kernel_rfl) Ty27 (by kernel_rfl) (by kernel_rfl) (fun _ => rfl) (fun x20 => ?_)
  refine OJ.run [5, 6] [] [0, 1, 5, 30] (m2 := [(0, .pointer a0), (1, Sl.v a1), (5, .int .i64 s5), (30, .bool (decide (s5 < (x20.len : Int))))]) (by kernel_rfl) (by kernel_rfl) ?_
  refine OJ.nil ?_
  refine SJ.cond (t := (.tmp 30)) (b := decide (s5 < (x20.len : Int))) (by kernel_rfl) (by kernel_rfl) decide_eq_true_iff (fun hc24 => ?_) (fun hc24 => ?_)
  · refine SJ.skip (by kernel_rfl) ?_
    refine SJ.seq (by kernel_rfl) ?_
    refine SJ.block (id := 1) (by kernel_rfl) ?_
    refine SJ.region (id := 6) (by kernel_rfl) [0, 1, 2, 3, 4, 5, 6, 7, 8, 9] (by kernel_rfl) ?_
    refine OJ.run [0] [1, 2, 3, 4, 5, 6, 7, 8, 9] [0, 1, 5, 33] (m2 := [(0, .pointer a0), (1, Sl.v a1), (5, .int .i64 s5), (33, .pointer a0)]) (by kernel_rfl) (by kernel_rfl) ?_
    refine OJ.nilck (d := 34) (y := .tmp 33) (by kernel_rfl) (by kernel_rfl) (by kernel_rfl) (by kernel_rfl) (by kernel_rfl) (fun p21 => ?_)
    refine OJ.run [2] [3, 4, 5, 6, 7, 8, 9] [0, 1, 5, 35] (m2 := [(0, .pointer a0), (1, Sl.v a1), (5, .int .i64 s5), (35, .pointer (some p21))]) (by kernel_rfl) (by kernel_rfl) ?_
    refine OJ.ld (d := 36) (T := 27) (y := .tmp 35) (pend2 := fun x22 => []) (by kernel_rfl) (by kernel_rfl) Ty27 (by kernel_rfl) (by kernel_rfl) (fun _ => rfl) (fun x22 => ?_)
    refine OJ.run [4, 5, 6] [7, 8, 9] [0, 1, 5, 36, 37, 39] (m2 := [(0, .pointer a0), (1, Sl.v a1), (5, .int .i64 s5), (36, Sl.v x22), (37, .int .i64 s5), (39, .int .i64 (IntKind.wrap .i64 ((-500) - s5)))]) (by kernel_rfl) (by kernel_rfl) ?_
    refine OJ.build (d := 40) (T := 41) (parts := [(0, .tmp 39)]) (ps := [(0, (cI .i64).val (IntKind.wrap .i64 ((-500) - s5)))]) (cd := c_api_Class) (z0 := z_api_Class) (⟨IntKind.wrap .i64 ((-500) - s5), z_api_Class.Items, z_api_Class.Bytes, z_api_Class.Rate, z_api_Class.Burst⟩ : api_Class) (by kernel_rfl) (by kernel_rfl) Ty41 rfl (by kernel_rfl) (Filled.cons (cd := (cI .i64)) (q := (IntKind.wrap .i64 ((-500) - s5))) (o := 0) (by kernel_rfl) (Up_api_Class_Quantum z_api_Class (IntKind.wrap .i64 ((-500) - s5))) Filled.nil) (by kernel_rfl) (by kernel_rfl) (by kernel_rfl) ?_
    refine OJ.idxS (d := 41) (T := 27) (y := .tmp 36) (j := .tmp 37) (E := 41) (cap := x22.cap) (k := .i64) (by kernel_rfl) (by kernel_rfl) (by kernel_rfl) (by kernel_rfl) (by kernel_rfl) (by kernel_rfl) (by kernel_rfl) (by kernel_rfl) (fun p23 => ?_)
    refine OJ.st (T := 41) (y := .tmp 41) (z := .tmp 40) (owed := []) (by kernel_rfl) (by kernel_rfl) (by kernel_rfl) Ty41 (by kernel_rfl) (by kernel_rfl) ?_
    refine OW.nil ?_
    refine OJ.nil ?_
    refine SJ.inBlock ?_
    refine SJ.region (id := 5) (by kernel_rfl) [0, 1, 2] (by kernel_rfl) ?_
    refine OJ.run [0, 1, 2] [] [0, 1, 5] (m2 := [(0, .pointer a0), (1, Sl.v a1), (5, .int .i64 (IntKind.wrap .i64 (s5 + 1)))]) (by kernel_rfl) (by kernel_rfl) ?_
    refine OJ.nil ?_
    exact SJ.at_ [0, 1, 5] rfl (by kernel_rfl)
  · refine SJ.exit (id := 0) (by kernel_rfl) (by rfl) ?_
    refine SJ.less [0, 1] (m' := [(0, .pointer a0), (1, Sl.v a1)]) (by kernel_rfl) ?_
    refine SJ.done ?_
    exact weirlaw18_Room_lay.K1_ok a0 a1
noncomputable def weirlaw18_Room_lay.K2 (a0 : (Option Addr)) (a1 : Sl) : M Sl :=
  loopM (fun s_ : Int => weirlaw18_Room_lay.L1 a0 a1 s_) 0
theorem weirlaw18_Room_lay.K2_ok (a0 : (Option Addr)) (a1 : Sl) :
    SJ weirlaw18_Room_lay.cx [.code (c2 (c2 weirlaw18_Room_lay.B))] [(0, .pointer a0), (1, Sl.v a1)] [] (weirlaw18_Room_lay.K2 a0 a1) weirlaw18_Room_lay.F0 := by
  unfold weirlaw18_Room_lay.K2
  refine SJ.seq (by kernel_rfl) ?_
  refine SJ.seq (by kernel_rfl) ?_
  refine SJ.region (id := 3) (by kernel_rfl) [0] (by kernel_rfl) ?_
  refine OJ.run [0] [] [0, 1, 5] (m2 := [(0, .pointer a0), (1, Sl.v a1), (5, .int .i64 0)]) (by kernel_rfl) (by kernel_rfl) ?_
  refine OJ.nil ?_
  refine SJ.block (id := 0) (by kernel_rfl) ?_
  exact SJ.loop (fun s_ : Int => [(0, .pointer a0), (1, Sl.v a1), (5, .int .i64 s_)]) (fun s_ : Int => []) [0, 1, 5] (by kernel_rfl) (by kernel_rfl) rfl (fun _ _ => rfl) (fun s_ => weirlaw18_Room_lay.L1_ok a0 a1 s_)
noncomputable def weirlaw18_Room_lay (a0 : (Option Addr)) (a1 : Sl) : M Sl :=
  nilck a0 >>= fun p1 =>
  ld cL p1 >>= fun x2 =>
  if (x2.len : Int) < (IntKind.wrap .i64 ((IntKind.wrap .i64 (2 * (a1.len : Int))) + 9)) then
    mkS c_api_Class 41 40 z_api_Class (IntKind.wrap .i64 ((IntKind.wrap .i64 (2 * (a1.len : Int))) + 40)) (IntKind.wrap .i64 ((IntKind.wrap .i64 (2 * (a1.len : Int))) + 40)) >>= fun r25 =>
    nilck a0 >>= fun p26 =>
    st cL p26 r25 >>= fun _ =>
    weirlaw18_Room_lay.K2 a0 a1
  else
    weirlaw18_Room_lay.K2 a0 a1
theorem weirlaw18_Room_lay_ok (a0 : (Option Addr)) (a1 : Sl) : Ref Try.prog 39 [.pointer a0, Sl.v a1] (weirlaw18_Room_lay a0 a1) weirlaw18_Room_lay.out := by
  refine Ref.of (cd := weirlaw18_Room_lay.B) Try.func39 (by kernel_rfl) (by kernel_rfl) ?_
  show SJ weirlaw18_Room_lay.cx [.code weirlaw18_Room_lay.B] [(0, .pointer a0), (1, Sl.v a1)] [] (weirlaw18_Room_lay a0 a1) weirlaw18_Room_lay.F0
  unfold weirlaw18_Room_lay
  refine SJ.seq (by kernel_rfl) ?_
  refine SJ.region (id := 0) (by kernel_rfl) [0] (by kernel_rfl) ?_
  refine OJ.run [0] [] [0, 1] (m2 := [(0, .pointer a0), (1, Sl.v a1)]) (by kernel_rfl) (by kernel_rfl) ?_
  refine OJ.nil ?_
  refine SJ.seq (by kernel_rfl) ?_
  refine SJ.seq (by kernel_rfl) ?_
  refine SJ.region (id := 1) (by kernel_rfl) [0, 1, 2, 3, 4, 5, 6, 7, 8, 9] (by kernel_rfl) ?_
  refine OJ.run [0] [1, 2, 3, 4, 5, 6, 7, 8, 9] [0, 1, 6] (m2 := [(0, .pointer a0), (1, Sl.v a1), (6, .pointer a0)]) (by kernel_rfl) (by kernel_rfl) ?_
  refine OJ.nilck (d := 7) (y := .tmp 6) (by kernel_rfl) (by kernel_rfl) (by kernel_rfl) (by kernel_rfl) (by kernel_rfl) (fun p1 => ?_)
  refine OJ.run [2] [3, 4, 5, 6, 7, 8, 9] [0, 1, 8] (m2 := [(0, .pointer a0), (1, Sl.v a1), (8, .pointer (some p1))]) (by kernel_rfl) (by kernel_rfl) ?_
  refine OJ.ld (d := 9) (T := 27) (y := .tmp 8) (pend2 := fun x2 => []) (by kernel_rfl) (by kernel_rfl) Ty27 (by kernel_rfl) (by kernel_rfl) (fun _ => rfl) (fun x2 => ?_)
  refine OJ.run [4, 5, 6, 7, 8, 9] [] [0, 1, 15] (m2 := [(0, .pointer a0), (1, Sl.v a1), (15, .bool (decide ((x2.len : Int) < (IntKind.wrap .i64 ((IntKind.wrap .i64 (2 * (a1.len : Int))) + 9)))))]) (by kernel_rfl) (by kernel_rfl) ?_
  refine OJ.nil ?_
  refine SJ.cond (t := (.tmp 15)) (b := decide ((x2.len : Int) < (IntKind.wrap .i64 ((IntKind.wrap .i64 (2 * (a1.len : Int))) + 9)))) (by kernel_rfl) (by kernel_rfl) decide_eq_true_iff (fun hc27 => ?_) (fun hc27 => ?_)
  · refine SJ.region (id := 2) (by kernel_rfl) [0, 1, 2, 3, 4, 5, 6, 7, 8] (by kernel_rfl) ?_
    refine OJ.run [0, 1, 2, 3, 4] [5, 6, 7, 8] [0, 1, 16, 20] (m2 := [(0, .pointer a0), (1, Sl.v a1), (16, .pointer a0), (20, .int .i64 (IntKind.wrap .i64 ((IntKind.wrap .i64 (2 * (a1.len : Int))) + 40)))]) (by kernel_rfl) (by kernel_rfl) ?_
    refine OJ.mk (d := 21) (t := 27) (lo := .tmp 20) (ko := .tmp 20) (k1 := .i64) (k2 := .i64) (owed := []) (by kernel_rfl) (by kernel_rfl) Ty41 (by kernel_rfl) (by kernel_rfl) (by kernel_rfl) (by kernel_rfl) (by kernel_rfl) (by kernel_rfl) (fun r25 => ?_)
    refine OW.nil ?_
    refine OJ.nilck (d := 22) (y := .tmp 16) (by kernel_rfl) (by kernel_rfl) (by kernel_rfl) (by kernel_rfl) (by kernel_rfl) (fun p26 => ?_)
    refine OJ.run [7] [8] [0, 1, 21, 23] (m2 := [(0, .pointer a0), (1, Sl.v a1), (21, Sl.v r25), (23, .pointer (some p26))]) (by kernel_rfl) (by kernel_rfl) ?_
    refine OJ.st (T := 27) (y := .tmp 23) (z := .tmp 21) (owed := []) (by kernel_rfl) (by kernel_rfl) (by kernel_rfl) Ty27 (by kernel_rfl) (by kernel_rfl) ?_
    refine OW.nil ?_
    refine OJ.nil ?_
    refine SJ.less [0, 1] (m' := [(0, .pointer a0), (1, Sl.v a1)]) (by kernel_rfl) ?_
    exact weirlaw18_Room_lay.K2_ok a0 a1
  · refine SJ.skip (by kernel_rfl) ?_
    refine SJ.less [0, 1] (m' := [(0, .pointer a0), (1, Sl.v a1)]) (by kernel_rfl) ?_
    exact weirlaw18_Room_lay.K2_ok a0 a1

/-! ### (*weir/weirlaw18.Room).stand: function 40 -/
noncomputable def weirlaw18_Room_stand.B : Code := (Try.f40.body).getD .skip
noncomputable def weirlaw18_Room_stand.cx : Fx := ⟨Try.prog, 40, Try.f40⟩
noncomputable def weirlaw18_Room_stand.out (r_ : Bool) : Value := .bool r_
noncomputable def weirlaw18_Room_stand.F0 (r_ : Bool) : Reach := .ret (weirlaw18_Room_stand.out r_)
noncomputable def weirlaw18_Room_stand.K1 (a0 : (Option Addr)) (a1 : Sl) : M Bool :=
  nilck a0 >>= fun p17 =>
  ld (cI .i64) (Addr.add p17 1) >>= fun x18 =>
  pure (x18 == (a1.len : Int))
theorem weirlaw18_Room_stand.K1_ok (a0 : (Option Addr)) (a1 : Sl) :
    SJ weirlaw18_Room_stand.cx [.code (c2 (c2 weirlaw18_Room_stand.B))] [(0, .pointer a0), (1, Sl.v a1)] [] (weirlaw18_Room_stand.K1 a0 a1) weirlaw18_Room_stand.F0 := by
  unfold weirlaw18_Room_stand.K1
  refine SJ.seq (by kernel_rfl) ?_
  refine SJ.region (id := 9) (by kernel_rfl) [0, 1, 2, 3, 4, 5, 6, 7] (by kernel_rfl) ?_
  refine OJ.run [0] [1, 2, 3, 4, 5, 6, 7] [1, 36] (m2 := [(1, Sl.v a1), (36, .pointer a0)]) (by kernel_rfl) (by kernel_rfl) ?_
  refine OJ.nilck (d := 37) (y := .tmp 36) (by kernel_rfl) (by kernel_rfl) (by kernel_rfl) (by kernel_rfl) (by kernel_rfl) (fun p17 => ?_)
  refine OJ.run [2] [3, 4, 5, 6, 7] [1, 38] (m2 := [(1, Sl.v a1), (38, .pointer (some (Addr.add p17 1)))]) (by kernel_rfl) (by kernel_rfl) ?_
  refine OJ.ld (d := 39) (T := 3) (y := .tmp 38) (pend2 := fun x18 => []) (by kernel_rfl) (by kernel_rfl) Ty3 (by kernel_rfl) (by kernel_rfl) (fun _ => rfl) (fun x18 => ?_)
  refine OJ.run [4, 5, 6, 7] [] [4] (m2 := [(4, .bool (x18 == (a1.len : Int)))]) (by kernel_rfl) (by kernel_rfl) ?_
  refine OJ.nil ?_
  exact SJ.ret (by kernel_rfl) rfl (Res.run (ys := [.bool (x18 == (a1.len : Int))]) (.tmp (by kernel_rfl) .nil) rfl)
noncomputable def weirlaw18_Room_stand.F1 (a0 : (Option Addr)) (a1 : Sl) : (LS Int Bool) → Reach := loopF [.inLoop (c1 (c1 (c2 (c1 (c2 weirlaw18_Room_stand.B))))), .inBlock 0, .code (c2 (c2 weirlaw18_Room_stand.B))] (fun s_ : Int => [(0, .pointer a0), (1, Sl.v a1), (5, .int .i64 s_)]) (fun s_ : Int => []) weirlaw18_Room_stand.F0
noncomputable def weirlaw18_Room_stand.K2 (a0 : (Option Addr)) (s1 : Int) (j24 : api_Class) : M (LS Int Bool) :=
  draw >>= fun _ =>
  nilck a0 >>= fun p25 =>
  ld cL p25 >>= fun x26 =>
  idx x26.a x26.len s1 5 >>= fun p27 =>
  ld c_api_Class p27 >>= fun x28 =>
  if ¬ (x28 = j24) then
    pure (LS.done false)
  else
    pure (LS.next (IntKind.wrap .i64 (s1 + 1)))
theorem weirlaw18_Room_stand.K2_ok (a0 : (Option Addr)) (a1 : Sl) (s1 : Int) (b21 : Nat) (j24 : api_Class) :
    SJ weirlaw18_Room_stand.cx [.code (c2 (c2 (c1 (c1 (c2 (c1 (c1 (c2 (c1 (c2 weirlaw18_Room_stand.B)))))))))), .inBlock 1, .code (c2 (c2 (c1 (c1 (c2 (c1 (c2 weirlaw18_Room_stand.B))))))), .inLoop (c1 (c1 (c2 (c1 (c2 weirlaw18_Room_stand.B))))), .inBlock 0, .code (c2 (c2 weirlaw18_Room_stand.B))] [(0, .pointer a0), (1, Sl.v a1), (5, .int .i64 s1), (6, .pointer (some (pt b21 0)))] [(b21, c_api_Class.enc j24)] (weirlaw18_Room_stand.K2 a0 s1 j24) (weirlaw18_Room_stand.F1 a0 a1) := by
  unfold weirlaw18_Room_stand.K2
  refine SJ.seq (by kernel_rfl) ?_
  refine SJ.draw (id := 7) (kd := [0, 0, 0, 1, 0, 0, 1, 1, 0]) (bef := [0, 1, 3, 7, 0, 31, 63, 0, 255]) (ord := [0, 1, 2, 3, 4, 5, 6, 7, 8]) (by kernel_rfl) mixed (by kernel_rfl) ?_
  refine OJ.run [0] [1, 2, 3, 4, 5, 6, 7, 8] [0, 1, 5, 6, 27] (m2 := [(0, .pointer a0), (1, Sl.v a1), (5, .int .i64 s1), (6, .pointer (some (pt b21 0))), (27, .pointer a0)]) (by kernel_rfl) (by kernel_rfl) ?_
  refine OJ.nilck (d := 28) (y := .tmp 27) (by kernel_rfl) (by kernel_rfl) (by kernel_rfl) (by kernel_rfl) (by kernel_rfl) (fun p25 => ?_)
  refine OJ.run [2] [3, 4, 5, 6, 7, 8] [0, 1, 5, 6, 29] (m2 := [(0, .pointer a0), (1, Sl.v a1), (5, .int .i64 s1), (6, .pointer (some (pt b21 0))), (29, .pointer (some p25))]) (by kernel_rfl) (by kernel_rfl) ?_
  refine OJ.ld (d := 30) (T := 27) (y := .tmp 29) (pend2 := fun x26 => [⟨3, 27, p25, cL.val x26⟩]) (by kernel_rfl) (by kernel_rfl) Ty27 (by kernel_rfl) (by kernel_rfl) (fun _ => rfl) (fun x26 => ?_)
  refine OJ.run [4] [5, 6, 7, 8] [0, 1, 5, 6, 30, 31] (m2 := [(0, .pointer a0), (1, Sl.v a1), (5, .int .i64 s1), (6, .pointer (some (pt b21 0))), (30, Sl.v x26), (31, .int .i64 s1)]) (by kernel_rfl) (by kernel_rfl) ?_
  refine OJ.idxS (d := 32) (T := 27) (y := .tmp 30) (j := .tmp 31) (E := 41) (cap := x26.cap) (k := .i64) (by kernel_rfl) (by kernel_rfl) (by kernel_rfl) (by kernel_rfl) (by kernel_rfl) (by kernel_rfl) (by kernel_rfl) (by kernel_rfl) (fun p27 => ?_)
  refine OJ.ld (d := 33) (T := 41) (y := .tmp 32) (pend2 := fun x28 => [⟨6, 41, p27, c_api_Class.val x28⟩, ⟨3, 27, p25, cL.val x26⟩]) (by kernel_rfl) (by kernel_rfl) Ty41 (by kernel_rfl) (by kernel_rfl) (fun _ => rfl) (fun x28 => ?_)
  refine OJ.kld (d := 34) (T := 41) (y := .tmp 6) (cd := c_api_Class) (j := 0) (b := b21) (o := 0) j24 (pend2 := [⟨7, 41, (pt b21 0), c_api_Class.val j24⟩, ⟨6, 41, p27, c_api_Class.val x28⟩, ⟨3, 27, p25, cL.val x26⟩]) (by kernel_rfl) (by kernel_rfl) Ty41 (by kernel_rfl) rfl (At.whole _) (by kernel_rfl) rfl ?_
  refine OJ.neq (d := 35) (T := 41) (yT := 41) (y := .tmp 33) (z := .tmp 34) (cd := c_api_Class) (p := x28) (q := j24) (by kernel_rfl) (by kernel_rfl) (by kernel_rfl) rfl Eq41 (by kernel_rfl) (by kernel_rfl) (by kernel_rfl) (by kernel_rfl) (by kernel_rfl) ?_
  refine OJ.nil ?_
  refine SJ.cond (t := (.tmp 35)) (b := (!eqv x28 j24)) (by kernel_rfl) (by kernel_rfl) (bnot_iff eqv_iff) (fun hc29 => ?_) (fun hc29 => ?_)
  · refine SJ.seq (by kernel_rfl) ?_
    refine SJ.region (id := 8) (by kernel_rfl) [0] (by kernel_rfl) ?_
    refine OJ.run [0] [] [4] (m2 := [(4, .bool false)]) (by kernel_rfl) (by kernel_rfl) ?_
    refine OJ.nil ?_
    exact SJ.ret (by kernel_rfl) rfl (Res.run (ys := [.bool false]) (.tmp (by kernel_rfl) .nil) rfl)
  · refine SJ.skip (by kernel_rfl) ?_
    refine SJ.inBlock ?_
    refine SJ.region (id := 3) (by kernel_rfl) [0, 1, 2] (by kernel_rfl) ?_
    refine OJ.run [0, 1, 2] [] [0, 1, 5] (m2 := [(0, .pointer a0), (1, Sl.v a1), (5, .int .i64 (IntKind.wrap .i64 (s1 + 1)))]) (by kernel_rfl) (by kernel_rfl) ?_
    refine OJ.nil ?_
    refine SJ.forget (List.Sublist.cons _ List.Sublist.slnil) ?_
    exact SJ.at_ [0, 1, 5] rfl (by kernel_rfl)
noncomputable def weirlaw18_Room_stand.L1 (a0 : (Option Addr)) (a1 : Sl) (s1 : Int) : M (LS Int Bool) :=
  nilck a0 >>= fun p19 =>
  ld cL p19 >>= fun x20 =>
  if s1 < (x20.len : Int) then
    slot 41 >>= fun b21 =>
    if s1 < (a1.len : Int) then
      idx a1.a a1.len s1 5 >>= fun p30 =>
      ld c_api_Class p30 >>= fun x31 =>
      weirlaw18_Room_stand.K2 a0 s1 x31
    else
      weirlaw18_Room_stand.K2 a0 s1 (⟨IntKind.wrap .i64 ((-500) - s1), z_api_Class.Items, z_api_Class.Bytes, z_api_Class.Rate, z_api_Class.Burst⟩ : api_Class)
  else
    (weirlaw18_Room_stand.K1 a0 a1) >>= fun b => pure (LS.done b)
theorem weirlaw18_Room_stand.L1_ok (a0 : (Option Addr)) (a1 : Sl) (s1 : Int) :
    SJ weirlaw18_Room_stand.cx [.code (c1 (c1 (c2 (c1 (c2 weirlaw18_Room_stand.B))))), .inLoop (c1 (c1 (c2 (c1 (c2 weirlaw18_Room_stand.B))))), .inBlock 0, .code (c2 (c2 weirlaw18_Room_stand.B))] [(0, .pointer a0), (1, Sl.v a1), (5, .int .i64 s1)] [] (weirlaw18_Room_stand.L1 a0 a1 s1) (weirlaw18_Room_stand.F1 a0 a1) := by
  unfold weirlaw18_Room_stand.L1
  refine SJ.seq (by kernel_rfl) ?_
  refine SJ.seq (by kernel_rfl) ?_
  refine SJ.region (id := 2) (by kernel_rfl) [0, 1, 2, 3, 4, 5, 6] (by kernel_rfl) ?_
  refine OJ.run [0, 1] [2, 3, 4, 5, 6] [0, 1, 5, 7, 8] (m2 := [(0, .pointer a0), (1, Sl.v a1), (5, .int .i64 s1), (7, .int .i64 s1), (8, .pointer a0)]) (by kernel_rfl) (by kernel_rfl) ?_
  refine OJ.nilck (d := 9) (y := .tmp 8) (by kernel_rfl) (by kernel_rfl) (by kernel_rfl) (by kernel_rfl) (by kernel_rfl) (fun p19 => ?_)
  refine OJ.run [3] [4, 5, 6] [0, 1, 5, 7, 10] (m2 := [(0, .pointer a0), (1, Sl.v a1), (5, .int .i64 s1), (7, .int .i64 s1), (10, .pointer (some p19))]) (by kernel_rfl) (by kernel_rfl) ?_
  refine OJ.ld (d := 11) (T := 27) (y := .tmp 10) (pend2 := fun x20 => []) (by kernel_rfl) (by kernel_rfl) Ty27 (by kernel_rfl) (by kernel_rfl) (fun _ => rfl) (fun x20 => ?_)
  refine OJ.run [5, 6] [] [0, 1, 5, 13] (m2 := [(0, .pointer a0), (1, Sl.v a1), (5, .int .i64 s1), (13, .bool (decide (s1 < (x20.len : Int))))]) (by kernel_rfl) (by kernel_rfl) ?_
  refine OJ.nil ?_
  refine SJ.cond (t := (.tmp 13)) (b := decide (s1 < (x20.len : Int))) (by kernel_rfl) (by kernel_rfl) decide_eq_true_iff (fun hc33 => ?_) (fun hc33 => ?_)
  · refine SJ.skip (by kernel_rfl) ?_
    refine SJ.seq (by kernel_rfl) ?_
    refine SJ.block (id := 1) (by kernel_rfl) ?_
    refine SJ.seq (by kernel_rfl) ?_
    refine SJ.region (id := 4) (by kernel_rfl) [0, 1, 2, 3, 4] (by kernel_rfl) ?_
    refine OJ.run [0, 1] [2, 3, 4] [0, 1, 5, 17] (m2 := [(0, .pointer a0), (1, Sl.v a1), (5, .int .i64 s1), (17, .int .i64 (IntKind.wrap .i64 ((-500) - s1)))]) (by kernel_rfl) (by kernel_rfl) ?_
    refine OJ.build (d := 18) (T := 41) (parts := [(0, .tmp 17)]) (ps := [(0, (cI .i64).val (IntKind.wrap .i64 ((-500) - s1)))]) (cd := c_api_Class) (z0 := z_api_Class) (⟨IntKind.wrap .i64 ((-500) - s1), z_api_Class.Items, z_api_Class.Bytes, z_api_Class.Rate, z_api_Class.Burst⟩ : api_Class) (by kernel_rfl) (by kernel_rfl) Ty41 rfl (by kernel_rfl) (Filled.cons (cd := (cI .i64)) (q := (IntKind.wrap .i64 ((-500) - s1))) (o := 0) (by kernel_rfl) (Up_api_Class_Quantum z_api_Class (IntKind.wrap .i64 ((-500) - s1))) Filled.nil) (by kernel_rfl) (by kernel_rfl) (by kernel_rfl) ?_
    refine OJ.slotOf (d := 6) (op := (.alloc 41)) (cd := c_api_Class) (u := z_api_Class) (owed := []) (by kernel_rfl) (alloc_run Ty41) (by kernel_rfl) (by kernel_rfl) (by kernel_rfl) (fun b21 => ?_)
    refine OW.nil ?_
    refine OJ.kst (T := 41) (y := .tmp 6) (z := .tmp 18) (cd := c_api_Class) (u := (⟨IntKind.wrap .i64 ((-500) - s1), z_api_Class.Items, z_api_Class.Bytes, z_api_Class.Rate, z_api_Class.Burst⟩ : api_Class)) (j := 0) (b := b21) (o := 0) (c_api_Class.enc (⟨IntKind.wrap .i64 ((-500) - s1), z_api_Class.Items, z_api_Class.Bytes, z_api_Class.Rate, z_api_Class.Burst⟩ : api_Class)) (h2 := [(b21, c_api_Class.enc (⟨IntKind.wrap .i64 ((-500) - s1), z_api_Class.Items, z_api_Class.Bytes, z_api_Class.Rate, z_api_Class.Burst⟩ : api_Class))]) (owed := []) (by kernel_rfl) (by kernel_rfl) (by kernel_rfl) Ty41 rfl (Upd.whole ((Cod.len _ _).trans (Cod.len _ _).symm)) (by kernel_rfl) (by kernel_rfl) rfl ?_
    refine OW.nil ?_
    refine OJ.nil ?_
    refine SJ.seq (by kernel_rfl) ?_
    refine SJ.seq (by kernel_rfl) ?_
    refine SJ.region (id := 5) (by kernel_rfl) [0, 1, 2, 3] (by kernel_rfl) ?_
    refine OJ.run [0, 1, 2, 3] [] [0, 1, 5, 6, 22] (m2 := [(0, .pointer a0), (1, Sl.v a1), (5, .int .i64 s1), (6, .pointer (some (pt b21 0))), (22, .bool (decide (s1 < (a1.len : Int))))]) (by kernel_rfl) (by kernel_rfl) ?_
    refine OJ.nil ?_
    refine SJ.cond (t := (.tmp 22)) (b := decide (s1 < (a1.len : Int))) (by kernel_rfl) (by kernel_rfl) decide_eq_true_iff (fun hc32 => ?_) (fun hc32 => ?_)
    · refine SJ.region (id := 6) (by kernel_rfl) [0, 1, 2, 3, 4] (by kernel_rfl) ?_
      refine OJ.run [0, 1] [2, 3, 4] [0, 1, 5, 6, 23, 24] (m2 := [(0, .pointer a0), (1, Sl.v a1), (5, .int .i64 s1), (6, .pointer (some (pt b21 0))), (23, Sl.v a1), (24, .int .i64 s1)]) (by kernel_rfl) (by kernel_rfl) ?_
      refine OJ.idxS (d := 25) (T := 27) (y := .tmp 23) (j := .tmp 24) (E := 41) (cap := a1.cap) (k := .i64) (by kernel_rfl) (by kernel_rfl) (by kernel_rfl) (by kernel_rfl) (by kernel_rfl) (by kernel_rfl) (by kernel_rfl) (by kernel_rfl) (fun p30 => ?_)
      refine OJ.ld (d := 26) (T := 41) (y := .tmp 25) (pend2 := fun x31 => []) (by kernel_rfl) (by kernel_rfl) Ty41 (by kernel_rfl) (by kernel_rfl) (fun _ => rfl) (fun x31 => ?_)
      refine OJ.kst (T := 41) (y := .tmp 6) (z := .tmp 26) (cd := c_api_Class) (u := x31) (j := 0) (b := b21) (o := 0) (c_api_Class.enc x31) (h2 := [(b21, c_api_Class.enc x31)]) (owed := []) (by kernel_rfl) (by kernel_rfl) (by kernel_rfl) Ty41 rfl (Upd.whole ((Cod.len _ _).trans (Cod.len _ _).symm)) (by kernel_rfl) (by kernel_rfl) rfl ?_
      refine OW.nil ?_
      refine OJ.nil ?_
      refine SJ.less [0, 1, 5, 6] (m' := [(0, .pointer a0), (1, Sl.v a1), (5, .int .i64 s1), (6, .pointer (some (pt b21 0)))]) (by kernel_rfl) ?_
      exact weirlaw18_Room_stand.K2_ok a0 a1 s1 b21 x31
    · refine SJ.skip (by kernel_rfl) ?_
      refine SJ.less [0, 1, 5, 6] (m' := [(0, .pointer a0), (1, Sl.v a1), (5, .int .i64 s1), (6, .pointer (some (pt b21 0)))]) (by kernel_rfl) ?_
      exact weirlaw18_Room_stand.K2_ok a0 a1 s1 b21 (⟨IntKind.wrap .i64 ((-500) - s1), z_api_Class.Items, z_api_Class.Bytes, z_api_Class.Rate, z_api_Class.Burst⟩ : api_Class)
  · refine SJ.exit (id := 0) (by kernel_rfl) (by rfl) ?_
    refine SJ.less [0, 1] (m' := [(0, .pointer a0), (1, Sl.v a1)]) (by kernel_rfl) ?_
    refine SJ.done ?_
    exact weirlaw18_Room_stand.K1_ok a0 a1
noncomputable def weirlaw18_Room_stand (a0 : (Option Addr)) (a1 : Sl) : M Bool :=
  loopM (fun s_ : Int => weirlaw18_Room_stand.L1 a0 a1 s_) 0
theorem weirlaw18_Room_stand_ok (a0 : (Option Addr)) (a1 : Sl) : Ref Try.prog 40 [.pointer a0, Sl.v a1] (weirlaw18_Room_stand a0 a1) weirlaw18_Room_stand.out := by
  refine Ref.of (cd := weirlaw18_Room_stand.B) Try.func40 (by kernel_rfl) (by kernel_rfl) ?_
  show SJ weirlaw18_Room_stand.cx [.code weirlaw18_Room_stand.B] [(0, .pointer a0), (1, Sl.v a1)] [] (weirlaw18_Room_stand a0 a1) weirlaw18_Room_stand.F0
  unfold weirlaw18_Room_stand
  refine SJ.seq (by kernel_rfl) ?_
  refine SJ.region (id := 0) (by kernel_rfl) [0] (by kernel_rfl) ?_
  refine OJ.run [0] [] [0, 1] (m2 := [(0, .pointer a0), (1, Sl.v a1)]) (by kernel_rfl) (by kernel_rfl) ?_
  refine OJ.nil ?_
  refine SJ.seq (by kernel_rfl) ?_
  refine SJ.seq (by kernel_rfl) ?_
  refine SJ.region (id := 1) (by kernel_rfl) [0] (by kernel_rfl) ?_
  refine OJ.run [0] [] [0, 1, 5] (m2 := [(0, .pointer a0), (1, Sl.v a1), (5, .int .i64 0)]) (by kernel_rfl) (by kernel_rfl) ?_
  refine OJ.nil ?_
  refine SJ.block (id := 0) (by kernel_rfl) ?_
  exact SJ.loop (fun s_ : Int => [(0, .pointer a0), (1, Sl.v a1), (5, .int .i64 s_)]) (fun s_ : Int => []) [0, 1, 5] (by kernel_rfl) (by kernel_rfl) rfl (fun _ _ => rfl) (fun s_ => weirlaw18_Room_stand.L1_ok a0 a1 s_)
end Go.Proofs.Ytgddbpmfendaeaa.Lx
