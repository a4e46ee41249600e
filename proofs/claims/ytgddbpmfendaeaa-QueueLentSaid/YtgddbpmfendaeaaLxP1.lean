/- Programs of the M-world for Go functions, each with the proof that the Go text does what it says. Printed by lxgen.py. -/
import Derived.Test.YtgddbpmfendaeaaLxT
import Derived.Test.YtgddbpmfendaeaaLxP0
set_option linter.unusedVariables false
set_option linter.unusedSimpArgs false
namespace Go.Proofs.Ytgddbpmfendaeaa.Lx
open Go Go.Proofs
/-! ### weir/weirref18.put: function 61 -/
noncomputable def weirref18_put.B : Code := (Try.f61.body).getD .skip
noncomputable def weirref18_put.cx : Fx := ⟨Try.prog, 61, Try.f61⟩
noncomputable def weirref18_put.out (r_ : weirref18_Queue) : Value := c_weirref18_Queue.val r_
noncomputable def weirref18_put.F0 (r_ : weirref18_Queue) : Reach := .ret (weirref18_put.out r_)
noncomputable def weirref18_put (a0 : weirref18_Queue) (a1 : Int) (a2 : weirref18_Line) : M weirref18_Queue :=
  slot 71 >>= fun b1 =>
  slot 116 >>= fun b2 =>
  slot 71 >>= fun b3 =>
  appS c_weirref18_Line 116 80 z_weirref18_Line Sl.nil a0.L >>= fun r4 =>
  idx r4.a r4.len a1 8 >>= fun p5 =>
  st c_weirref18_Line p5 a2 >>= fun _ =>
  pure (⟨r4, a0.At, a0.Given⟩ : weirref18_Queue)
theorem weirref18_put_ok (a0 : weirref18_Queue) (a1 : Int) (a2 : weirref18_Line) : Ref Try.prog 61 [c_weirref18_Queue.val a0, .int .i64 a1, c_weirref18_Line.val a2] (weirref18_put a0 a1 a2) weirref18_put.out := by
  refine Ref.of (cd := weirref18_put.B) Try.func61 (by kernel_rfl) (by kernel_rfl) ?_
  show SJ weirref18_put.cx [.code weirref18_put.B] [(0, c_weirref18_Queue.val a0), (1, .int .i64 a1), (2, c_weirref18_Line.val a2)] [] (weirref18_put a0 a1 a2) weirref18_put.F0
  unfold weirref18_put
  refine SJ.seq (by kernel_rfl) ?_
  refine SJ.region (id := 0) (by kernel_rfl) [0, 1, 2] (by kernel_rfl) ?_
  refine OJ.slotOf (d := 3) (op := (.box 71 (.tmp 0))) (cd := c_weirref18_Queue) (u := a0) (owed := []) (by kernel_rfl) (box_run (by kernel_rfl)) (by kernel_rfl) (by kernel_rfl) (by kernel_rfl) (fun b1 => ?_)
  refine OW.nil ?_
  refine OJ.slotOf (d := 5) (op := (.box 116 (.tmp 2))) (cd := c_weirref18_Line) (u := a2) (owed := []) (by kernel_rfl) (box_run (by kernel_rfl)) (by kernel_rfl) (by kernel_rfl) (by kernel_rfl) (fun b2 => ?_)
  refine OW.nil ?_
  refine OJ.slotOf (d := 6) (op := (.alloc 71)) (cd := c_weirref18_Queue) (u := z_weirref18_Queue) (owed := []) (by kernel_rfl) (alloc_run Ty71) (by kernel_rfl) (by kernel_rfl) (by kernel_rfl) (fun b3 => ?_)
  refine OW.nil ?_
  refine OJ.nil ?_
  refine SJ.seq (by kernel_rfl) ?_
  refine SJ.region (id := 1) (by kernel_rfl) [0] (by kernel_rfl) ?_
  refine OJ.run [0] [] [1, 3, 5, 6, 7] (m2 := [(1, .int .i64 a1), (3, .pointer (some (pt b1 0))), (5, .pointer (some (pt b2 0))), (6, .pointer (some (pt b3 0))), (7, Sl.v Sl.nil)]) (by kernel_rfl) (by kernel_rfl) ?_
  refine OJ.nil ?_
  refine SJ.seq (by kernel_rfl) ?_
  refine SJ.region (id := 2) (by kernel_rfl) [0, 1, 2, 3, 4] (by kernel_rfl) ?_
  refine OJ.run [0, 1] [2, 3, 4] [1, 3, 5, 6, 7, 8, 9] (m2 := [(1, .int .i64 a1), (3, .pointer (some (pt b1 0))), (5, .pointer (some (pt b2 0))), (6, .pointer (some (pt b3 0))), (7, Sl.v Sl.nil), (8, Sl.v Sl.nil), (9, .pointer (some (pt b1 0)))]) (by kernel_rfl) (by kernel_rfl) ?_
  refine OJ.kld (d := 10) (T := 69) (y := .tmp 9) (cd := cL) (j := 2) (b := b1) (o := 0) a0.L (pend2 := []) (by kernel_rfl) (by kernel_rfl) Ty69 (by kernel_rfl) rfl (At_weirref18_Queue_L a0) (by kernel_rfl) rfl ?_
  refine OJ.appS (d := 11) (t := 69) (u := 69) (so := .tmp 8) (xo := .tmp 10) (owed := []) (by kernel_rfl) (by kernel_rfl) (by kernel_rfl) Ty116 (by kernel_rfl) (by kernel_rfl) (by kernel_rfl) (by kernel_rfl) (by kernel_rfl) (by kernel_rfl) (fun r4 => ?_)
  refine OW.nil ?_
  refine OJ.run [4] [] [1, 3, 5, 6, 7] (m2 := [(1, .int .i64 a1), (3, .pointer (some (pt b1 0))), (5, .pointer (some (pt b2 0))), (6, .pointer (some (pt b3 0))), (7, Sl.v r4)]) (by kernel_rfl) (by kernel_rfl) ?_
  refine OJ.nil ?_
  refine SJ.seq (by kernel_rfl) ?_
  refine SJ.region (id := 3) (by kernel_rfl) [0, 1, 2, 3, 4] (by kernel_rfl) ?_
  refine OJ.run [0, 1] [2, 3, 4] [3, 5, 6, 7, 12, 13] (m2 := [(3, .pointer (some (pt b1 0))), (5, .pointer (some (pt b2 0))), (6, .pointer (some (pt b3 0))), (7, Sl.v r4), (12, Sl.v r4), (13, .int .i64 a1)]) (by kernel_rfl) (by kernel_rfl) ?_
  refine OJ.kld (d := 14) (T := 116) (y := .tmp 5) (cd := c_weirref18_Line) (j := 1) (b := b2) (o := 0) a2 (pend2 := []) (by kernel_rfl) (by kernel_rfl) Ty116 (by kernel_rfl) rfl (At.whole _) (by kernel_rfl) rfl ?_
  refine OJ.idxS (d := 15) (T := 69) (y := .tmp 12) (j := .tmp 13) (E := 116) (cap := r4.cap) (k := .i64) (by kernel_rfl) (by kernel_rfl) (by kernel_rfl) (by kernel_rfl) (by kernel_rfl) (by kernel_rfl) (by kernel_rfl) (by kernel_rfl) (fun p5 => ?_)
  refine OJ.st (T := 116) (y := .tmp 15) (z := .tmp 14) (owed := []) (by kernel_rfl) (by kernel_rfl) (by kernel_rfl) Ty116 (by kernel_rfl) (by kernel_rfl) ?_
  refine OW.nil ?_
  refine OJ.nil ?_
  refine SJ.seq (by kernel_rfl) ?_
  refine SJ.region (id := 4) (by kernel_rfl) [0, 1, 2] (by kernel_rfl) ?_
  refine OJ.run [0, 1] [2] [3, 6, 16, 17] (m2 := [(3, .pointer (some (pt b1 0))), (6, .pointer (some (pt b3 0))), (16, Sl.v r4), (17, .pointer (some (pt b1 0)))]) (by kernel_rfl) (by kernel_rfl) ?_
  refine OJ.kst (T := 69) (y := .tmp 17) (z := .tmp 16) (cd := cL) (u := r4) (j := 2) (b := b1) (o := 0) (c_weirref18_Queue.enc (⟨r4, a0.At, a0.Given⟩ : weirref18_Queue)) (h2 := [(b3, c_weirref18_Queue.enc z_weirref18_Queue), (b2, c_weirref18_Line.enc a2), (b1, c_weirref18_Queue.enc (⟨r4, a0.At, a0.Given⟩ : weirref18_Queue))]) (owed := []) (by kernel_rfl) (by kernel_rfl) (by kernel_rfl) Ty69 rfl (Up_weirref18_Queue_L a0 r4) (by kernel_rfl) (by kernel_rfl) rfl ?_
  refine OW.nil ?_
  refine OJ.nil ?_
  refine SJ.seq (by kernel_rfl) ?_
  refine SJ.region (id := 5) (by kernel_rfl) [0, 1] (by kernel_rfl) ?_
  refine OJ.kld (d := 18) (T := 71) (y := .tmp 3) (cd := c_weirref18_Queue) (j := 2) (b := b1) (o := 0) (⟨r4, a0.At, a0.Given⟩ : weirref18_Queue) (pend2 := []) (by kernel_rfl) (by kernel_rfl) Ty71 (by kernel_rfl) rfl (At.whole _) (by kernel_rfl) rfl ?_
  refine OJ.kst (T := 71) (y := .tmp 6) (z := .tmp 18) (cd := c_weirref18_Queue) (u := (⟨r4, a0.At, a0.Given⟩ : weirref18_Queue)) (j := 0) (b := b3) (o := 0) (c_weirref18_Queue.enc (⟨r4, a0.At, a0.Given⟩ : weirref18_Queue)) (h2 := [(b3, c_weirref18_Queue.enc (⟨r4, a0.At, a0.Given⟩ : weirref18_Queue)), (b2, c_weirref18_Line.enc a2), (b1, c_weirref18_Queue.enc (⟨r4, a0.At, a0.Given⟩ : weirref18_Queue))]) (owed := []) (by kernel_rfl) (by kernel_rfl) (by kernel_rfl) Ty71 rfl (Upd.whole ((Cod.len _ _).trans (Cod.len _ _).symm)) (by kernel_rfl) (by kernel_rfl) rfl ?_
  refine OW.nil ?_
  refine OJ.nil ?_
  exact SJ.ret (by kernel_rfl) rfl (Res.run (ys := [c_weirref18_Queue.val (⟨r4, a0.At, a0.Given⟩ : weirref18_Queue)]) (.cell (j := 0) (b := b3) (cd := c_weirref18_Queue) (q := (⟨r4, a0.At, a0.Given⟩ : weirref18_Queue)) (by kernel_rfl) rfl Ty71 (At.whole _) .nil) rfl)

/-! ### weir/weirref18.Push: function 52 -/
noncomputable def weirref18_Push.B : Code := (Try.f52.body).getD .skip
noncomputable def weirref18_Push.cx : Fx := ⟨Try.prog, 52, Try.f52⟩
noncomputable def weirref18_Push.out (r_ : (weirref18_Queue × Int)) : Value := .tuple #[c_weirref18_Queue.val r_.1, .int .i64 r_.2]
noncomputable def weirref18_Push.F0 (r_ : (weirref18_Queue × Int)) : Reach := .ret (weirref18_Push.out r_)
noncomputable def weirref18_Push (a0 : weirref18_Queue) (a1 : Int) (a2 : Int) (a3 : Int) : M (weirref18_Queue × Int) :=
  slot 71 >>= fun b1 =>
  slot 71 >>= fun b2 =>
  weirref18_out a1 0 (IntKind.wrap .i64 ((a0.L.len : Int) - 1)) >>= fun r3 =>
  if r3 = true then
    pure (a0, 181)
  else
    weirref18_out a2 1 65535 >>= fun r4 =>
    if r4 = true then
      pure (a0, 182)
    else
      idx a0.L.a a0.L.len a1 8 >>= fun p5 =>
      ld c_weirref18_Line p5 >>= fun x6 =>
      slot 116 >>= fun b7 =>
      draw >>= fun _ =>
      (if (x6.L.len : Int) ≥ x6.C.Items then
          pure true
        else
          weirref18_Bytes a0 a1 >>= fun r8 =>
          pure (decide ((IntKind.wrap .i64 (r8 + a2)) > x6.C.Bytes))) >>= fun y9 =>
      if y9 = true then
        pure (a0, 183)
      else
        appS c_weirref18_Item 125 16 z_weirref18_Item Sl.nil x6.L >>= fun r10 =>
        slot 125 >>= fun b11 =>
        appl c_weirref18_Item 125 16 z_weirref18_Item r10 [(⟨a2, a3⟩ : weirref18_Item)] >>= fun r12 =>
        weirref18_put a0 a1 (⟨x6.C, r12, x6.Deficit, x6.Tokens⟩ : weirref18_Line) >>= fun r13 =>
        pure (r13, 0)
theorem weirref18_Push_ok (a0 : weirref18_Queue) (a1 : Int) (a2 : Int) (a3 : Int) : Ref Try.prog 52 [c_weirref18_Queue.val a0, .int .i64 a1, .int .i64 a2, .int .i64 a3] (weirref18_Push a0 a1 a2 a3) weirref18_Push.out := by
  refine Ref.of (cd := weirref18_Push.B) Try.func52 (by kernel_rfl) (by kernel_rfl) ?_
  show SJ weirref18_Push.cx [.code weirref18_Push.B] [(0, c_weirref18_Queue.val a0), (1, .int .i64 a1), (2, .int .i64 a2), (3, .int .i64 a3)] [] (weirref18_Push a0 a1 a2 a3) weirref18_Push.F0
  unfold weirref18_Push
  refine SJ.seq (by kernel_rfl) ?_
  refine SJ.region (id := 0) (by kernel_rfl) [0, 1, 2] (by kernel_rfl) ?_
  refine OJ.slotOf (d := 4) (op := (.box 71 (.tmp 0))) (cd := c_weirref18_Queue) (u := a0) (owed := []) (by kernel_rfl) (box_run (by kernel_rfl)) (by kernel_rfl) (by kernel_rfl) (by kernel_rfl) (fun b1 => ?_)
  refine OW.nil ?_
  refine OJ.slotOf (d := 8) (op := (.alloc 71)) (cd := c_weirref18_Queue) (u := z_weirref18_Queue) (owed := []) (by kernel_rfl) (alloc_run Ty71) (by kernel_rfl) (by kernel_rfl) (by kernel_rfl) (fun b2 => ?_)
  refine OW.nil ?_
  refine OJ.run [2] [] [1, 2, 3, 4, 8] (m2 := [(1, .int .i64 a1), (2, .int .i64 a2), (3, .int .i64 a3), (4, .pointer (some (pt b1 0))), (8, .pointer (some (pt b2 0)))]) (by kernel_rfl) (by kernel_rfl) ?_
  refine OJ.nil ?_
  refine SJ.seq (by kernel_rfl) ?_
  refine SJ.seq (by kernel_rfl) ?_
  refine SJ.region (id := 1) (by kernel_rfl) [0, 1, 2, 3, 4, 5] (by kernel_rfl) ?_
  refine OJ.run [0, 1] [2, 3, 4, 5] [1, 2, 3, 4, 8, 12, 13] (m2 := [(1, .int .i64 a1), (2, .int .i64 a2), (3, .int .i64 a3), (4, .pointer (some (pt b1 0))), (8, .pointer (some (pt b2 0))), (12, .int .i64 a1), (13, .pointer (some (pt b1 0)))]) (by kernel_rfl) (by kernel_rfl) ?_
  refine OJ.kld (d := 14) (T := 69) (y := .tmp 13) (cd := cL) (j := 1) (b := b1) (o := 0) a0.L (pend2 := []) (by kernel_rfl) (by kernel_rfl) Ty69 (by kernel_rfl) rfl (At_weirref18_Queue_L a0) (by kernel_rfl) rfl ?_
  refine OJ.run [3, 4] [5] [1, 2, 3, 4, 8, 12, 16] (m2 := [(1, .int .i64 a1), (2, .int .i64 a2), (3, .int .i64 a3), (4, .pointer (some (pt b1 0))), (8, .pointer (some (pt b2 0))), (12, .int .i64 a1), (16, .int .i64 (IntKind.wrap .i64 ((a0.L.len : Int) - 1)))]) (by kernel_rfl) (by kernel_rfl) ?_
  refine OJ.call (d := 17) (g := 51) (ats := #[3, 3, 3]) (args := [.tmp 12, .const (.int .i64 0), .tmp 16]) (vals := [.int .i64 a1, .int .i64 0, .int .i64 (IntKind.wrap .i64 ((a0.L.len : Int) - 1))]) (owed := []) (by kernel_rfl) F51 (by kernel_rfl) (weirref18_out_ok a1 0 (IntKind.wrap .i64 ((a0.L.len : Int) - 1))) (by kernel_rfl) (by kernel_rfl) (by kernel_rfl) (fun r3 => ?_)
  refine OW.nil ?_
  refine OJ.nil ?_
  refine SJ.cond (t := (.tmp 17)) (b := r3) (by kernel_rfl) (by kernel_rfl) Iff.rfl (fun hc16 => ?_) (fun hc16 => ?_)
  · refine SJ.seq (by kernel_rfl) ?_
    refine SJ.region (id := 2) (by kernel_rfl) [0, 1, 2] (by kernel_rfl) ?_
    refine OJ.kld (d := 18) (T := 71) (y := .tmp 4) (cd := c_weirref18_Queue) (j := 1) (b := b1) (o := 0) a0 (pend2 := []) (by kernel_rfl) (by kernel_rfl) Ty71 (by kernel_rfl) rfl (At.whole _) (by kernel_rfl) rfl ?_
    refine OJ.kst (T := 71) (y := .tmp 8) (z := .tmp 18) (cd := c_weirref18_Queue) (u := a0) (j := 0) (b := b2) (o := 0) (c_weirref18_Queue.enc a0) (h2 := [(b2, c_weirref18_Queue.enc a0), (b1, c_weirref18_Queue.enc a0)]) (owed := []) (by kernel_rfl) (by kernel_rfl) (by kernel_rfl) Ty71 rfl (Upd.whole ((Cod.len _ _).trans (Cod.len _ _).symm)) (by kernel_rfl) (by kernel_rfl) rfl ?_
    refine OW.nil ?_
    refine OJ.run [2] [] [8, 9] (m2 := [(8, .pointer (some (pt b2 0))), (9, .int .i64 181)]) (by kernel_rfl) (by kernel_rfl) ?_
    refine OJ.nil ?_
    exact SJ.ret (by kernel_rfl) rfl (Res.run (ys := [c_weirref18_Queue.val a0, .int .i64 181]) (.cell (j := 0) (b := b2) (cd := c_weirref18_Queue) (q := a0) (by kernel_rfl) rfl Ty71 (At.whole _) (.tmp (by kernel_rfl) .nil)) rfl)
  · refine SJ.skip (by kernel_rfl) ?_
    refine SJ.seq (by kernel_rfl) ?_
    refine SJ.seq (by kernel_rfl) ?_
    refine SJ.region (id := 3) (by kernel_rfl) [0, 1] (by kernel_rfl) ?_
    refine OJ.run [0] [1] [1, 2, 3, 4, 8, 19] (m2 := [(1, .int .i64 a1), (2, .int .i64 a2), (3, .int .i64 a3), (4, .pointer (some (pt b1 0))), (8, .pointer (some (pt b2 0))), (19, .int .i64 a2)]) (by kernel_rfl) (by kernel_rfl) ?_
    refine OJ.call (d := 20) (g := 51) (ats := #[3, 3, 3]) (args := [.tmp 19, .const (.int .i64 1), .const (.int .i64 65535)]) (vals := [.int .i64 a2, .int .i64 1, .int .i64 65535]) (owed := []) (by kernel_rfl) F51 (by kernel_rfl) (weirref18_out_ok a2 1 65535) (by kernel_rfl) (by kernel_rfl) (by kernel_rfl) (fun r4 => ?_)
    refine OW.nil ?_
    refine OJ.nil ?_
    refine SJ.cond (t := (.tmp 20)) (b := r4) (by kernel_rfl) (by kernel_rfl) Iff.rfl (fun hc15 => ?_) (fun hc15 => ?_)
    · refine SJ.seq (by kernel_rfl) ?_
      refine SJ.region (id := 4) (by kernel_rfl) [0, 1, 2] (by kernel_rfl) ?_
      refine OJ.kld (d := 21) (T := 71) (y := .tmp 4) (cd := c_weirref18_Queue) (j := 1) (b := b1) (o := 0) a0 (pend2 := []) (by kernel_rfl) (by kernel_rfl) Ty71 (by kernel_rfl) rfl (At.whole _) (by kernel_rfl) rfl ?_
      refine OJ.kst (T := 71) (y := .tmp 8) (z := .tmp 21) (cd := c_weirref18_Queue) (u := a0) (j := 0) (b := b2) (o := 0) (c_weirref18_Queue.enc a0) (h2 := [(b2, c_weirref18_Queue.enc a0), (b1, c_weirref18_Queue.enc a0)]) (owed := []) (by kernel_rfl) (by kernel_rfl) (by kernel_rfl) Ty71 rfl (Upd.whole ((Cod.len _ _).trans (Cod.len _ _).symm)) (by kernel_rfl) (by kernel_rfl) rfl ?_
      refine OW.nil ?_
      refine OJ.run [2] [] [8, 9] (m2 := [(8, .pointer (some (pt b2 0))), (9, .int .i64 182)]) (by kernel_rfl) (by kernel_rfl) ?_
      refine OJ.nil ?_
      exact SJ.ret (by kernel_rfl) rfl (Res.run (ys := [c_weirref18_Queue.val a0, .int .i64 182]) (.cell (j := 0) (b := b2) (cd := c_weirref18_Queue) (q := a0) (by kernel_rfl) rfl Ty71 (At.whole _) (.tmp (by kernel_rfl) .nil)) rfl)
    · refine SJ.skip (by kernel_rfl) ?_
      refine SJ.seq (by kernel_rfl) ?_
      refine SJ.region (id := 5) (by kernel_rfl) [0, 1, 2, 3, 4, 5, 6] (by kernel_rfl) ?_
      refine OJ.run [0] [1, 2, 3, 4, 5, 6] [1, 2, 3, 4, 8, 22] (m2 := [(1, .int .i64 a1), (2, .int .i64 a2), (3, .int .i64 a3), (4, .pointer (some (pt b1 0))), (8, .pointer (some (pt b2 0))), (22, .pointer (some (pt b1 0)))]) (by kernel_rfl) (by kernel_rfl) ?_
      refine OJ.kld (d := 23) (T := 69) (y := .tmp 22) (cd := cL) (j := 1) (b := b1) (o := 0) a0.L (pend2 := []) (by kernel_rfl) (by kernel_rfl) Ty69 (by kernel_rfl) rfl (At_weirref18_Queue_L a0) (by kernel_rfl) rfl ?_
      refine OJ.run [2] [3, 4, 5, 6] [1, 2, 3, 4, 8, 23, 24] (m2 := [(1, .int .i64 a1), (2, .int .i64 a2), (3, .int .i64 a3), (4, .pointer (some (pt b1 0))), (8, .pointer (some (pt b2 0))), (23, Sl.v a0.L), (24, .int .i64 a1)]) (by kernel_rfl) (by kernel_rfl) ?_
      refine OJ.idxS (d := 25) (T := 69) (y := .tmp 23) (j := .tmp 24) (E := 116) (cap := a0.L.cap) (k := .i64) (by kernel_rfl) (by kernel_rfl) (by kernel_rfl) (by kernel_rfl) (by kernel_rfl) (by kernel_rfl) (by kernel_rfl) (by kernel_rfl) (fun p5 => ?_)
      refine OJ.ld (d := 26) (T := 116) (y := .tmp 25) (pend2 := fun x6 => []) (by kernel_rfl) (by kernel_rfl) Ty116 (by kernel_rfl) (by kernel_rfl) (fun _ => rfl) (fun x6 => ?_)
      refine OJ.slotOf (d := 10) (op := (.alloc 116)) (cd := c_weirref18_Line) (u := z_weirref18_Line) (owed := []) (by kernel_rfl) (alloc_run Ty116) (by kernel_rfl) (by kernel_rfl) (by kernel_rfl) (fun b7 => ?_)
      refine OW.nil ?_
      refine OJ.kst (T := 116) (y := .tmp 10) (z := .tmp 26) (cd := c_weirref18_Line) (u := x6) (j := 0) (b := b7) (o := 0) (c_weirref18_Line.enc x6) (h2 := [(b7, c_weirref18_Line.enc x6), (b2, c_weirref18_Queue.enc z_weirref18_Queue), (b1, c_weirref18_Queue.enc a0)]) (owed := []) (by kernel_rfl) (by kernel_rfl) (by kernel_rfl) Ty116 rfl (Upd.whole ((Cod.len _ _).trans (Cod.len _ _).symm)) (by kernel_rfl) (by kernel_rfl) rfl ?_
      refine OW.nil ?_
      refine OJ.nil ?_
      refine SJ.seq (by kernel_rfl) ?_
      refine SJ.seq (by kernel_rfl) ?_
      refine SJ.draw (id := 6) (kd := [0, 1, 0, 0, 0, 1, 0, 0, 1, 0, 2, 0, 0, 0, 0, 1, 0, 0]) (bef := [0, 1, 3, 0, 8, 24, 63, 127, 255, 255, 1023, 255, 4095, 255, 8447, 24831, 65535, 131071]) (ord := [0, 1, 2, 3, 4, 5, 6, 7, 8, 9, 13, 14, 15, 10, 11, 12, 16, 17]) (by kernel_rfl) mixed (by kernel_rfl) ?_
      refine OJ.run [0] [1, 2, 3, 4, 5, 6, 7, 8, 9, 13, 14, 15, 10, 11, 12, 16, 17] [1, 2, 3, 4, 8, 10, 27] (m2 := [(1, .int .i64 a1), (2, .int .i64 a2), (3, .int .i64 a3), (4, .pointer (some (pt b1 0))), (8, .pointer (some (pt b2 0))), (10, .pointer (some (pt b7 0))), (27, .pointer (some (pt b7 5)))]) (by kernel_rfl) (by kernel_rfl) ?_
      refine OJ.kld (d := 28) (T := 114) (y := .tmp 27) (cd := cL) (j := 0) (b := b7) (o := 5) x6.L (pend2 := [⟨1, 114, (pt b7 5), cL.val x6.L⟩]) (by kernel_rfl) (by kernel_rfl) Ty114 (by kernel_rfl) rfl (At_weirref18_Line_L x6) (by kernel_rfl) rfl ?_
      refine OJ.run [2, 3, 4] [5, 6, 7, 8, 9, 13, 14, 15, 10, 11, 12, 16, 17] [1, 2, 3, 4, 8, 10, 29, 31] (m2 := [(1, .int .i64 a1), (2, .int .i64 a2), (3, .int .i64 a3), (4, .pointer (some (pt b1 0))), (8, .pointer (some (pt b2 0))), (10, .pointer (some (pt b7 0))), (29, .int .i64 (x6.L.len : Int)), (31, .pointer (some (pt b7 1)))]) (by kernel_rfl) (by kernel_rfl) ?_
      refine OJ.kld (d := 32) (T := 3) (y := .tmp 31) (cd := (cI .i64)) (j := 0) (b := b7) (o := 1) x6.C.Items (pend2 := [⟨5, 3, (pt b7 1), (cI .i64).val x6.C.Items⟩, ⟨1, 114, (pt b7 5), cL.val x6.L⟩]) (by kernel_rfl) (by kernel_rfl) Ty3 (by kernel_rfl) rfl (At.trans (At_weirref18_Line_C x6) (At_api_Class_Items x6.C)) (by kernel_rfl) rfl ?_
      refine OJ.run [6, 7] [8, 9, 13, 14, 15, 10, 11, 12, 16, 17] [1, 2, 3, 4, 8, 10, 34] (m2 := [(1, .int .i64 a1), (2, .int .i64 a2), (3, .int .i64 a3), (4, .pointer (some (pt b1 0))), (8, .pointer (some (pt b2 0))), (10, .pointer (some (pt b7 0))), (34, .bool (decide ((x6.L.len : Int) ≥ x6.C.Items)))]) (by kernel_rfl) (by kernel_rfl) ?_
      refine OJ.join (b := decide ((x6.L.len : Int) ≥ x6.C.Items)) [8, 9, 13, 14, 15, 10, 11, 12, 16, 17] [] [1, 2, 3, 4, 8, 10, 44] (fun y9 => [(1, .int .i64 a1), (2, .int .i64 a2), (3, .int .i64 a3), (4, .pointer (some (pt b1 0))), (8, .pointer (some (pt b2 0))), (10, .pointer (some (pt b7 0))), (44, .bool y9)]) [⟨15, 3, (pt b7 2), (cI .i64).val x6.C.Bytes⟩, ⟨8, 71, (pt b1 0), c_weirref18_Queue.val a0⟩, ⟨5, 3, (pt b7 1), (cI .i64).val x6.C.Items⟩, ⟨1, 114, (pt b7 5), cL.val x6.L⟩] [] (by kernel_rfl) (t := 34) (by kernel_rfl) decide_eq_true_iff (fun hp_ => ?_) (fun hp_ => ?_) (by kernel_rfl) (fun _ _ _ _ _ _ h_ => h_) (fun y9 => ?_)
      · refine OJ.run [8, 9, 13, 14, 15, 10, 11, 12, 16, 17] [] [1, 2, 3, 4, 8, 10, 44] (m2 := [(1, .int .i64 a1), (2, .int .i64 a2), (3, .int .i64 a3), (4, .pointer (some (pt b1 0))), (8, .pointer (some (pt b2 0))), (10, .pointer (some (pt b7 0))), (44, .bool true)]) (by kernel_rfl) (by kernel_rfl) ?_
        exact OJ.nil ⟨(Cov.mem (Cov.keep (List.mem_of_getElem? (i := 2) rfl) (Cov.keep (List.mem_of_getElem? (i := 3) rfl) Cov.nil))), rfl, _, rfl, by kernel_rfl⟩
      · refine OJ.kld (d := 35) (T := 71) (y := .tmp 4) (cd := c_weirref18_Queue) (j := 2) (b := b1) (o := 0) a0 (pend2 := [⟨8, 71, (pt b1 0), c_weirref18_Queue.val a0⟩, ⟨5, 3, (pt b7 1), (cI .i64).val x6.C.Items⟩, ⟨1, 114, (pt b7 5), cL.val x6.L⟩]) (by kernel_rfl) (by kernel_rfl) Ty71 (by kernel_rfl) rfl (At.whole _) (by kernel_rfl) rfl ?_
        refine OJ.run [9, 13, 14] [15, 10, 11, 12, 16, 17] [1, 2, 3, 4, 8, 10, 34, 35, 36, 41] (m2 := [(1, .int .i64 a1), (2, .int .i64 a2), (3, .int .i64 a3), (4, .pointer (some (pt b1 0))), (8, .pointer (some (pt b2 0))), (10, .pointer (some (pt b7 0))), (34, .bool false), (35, c_weirref18_Queue.val a0), (36, .int .i64 a1), (41, .pointer (some (pt b7 2)))]) (by kernel_rfl) (by kernel_rfl) ?_
        refine OJ.kld (d := 42) (T := 3) (y := .tmp 41) (cd := (cI .i64)) (j := 0) (b := b7) (o := 2) x6.C.Bytes (pend2 := [⟨15, 3, (pt b7 2), (cI .i64).val x6.C.Bytes⟩, ⟨8, 71, (pt b1 0), c_weirref18_Queue.val a0⟩, ⟨5, 3, (pt b7 1), (cI .i64).val x6.C.Items⟩, ⟨1, 114, (pt b7 5), cL.val x6.L⟩]) (by kernel_rfl) (by kernel_rfl) Ty3 (by kernel_rfl) rfl (At.trans (At_weirref18_Line_C x6) (At_api_Class_Bytes x6.C)) (by kernel_rfl) rfl ?_
        refine OJ.call (d := 37) (g := 57) (ats := #[71, 3]) (args := [.tmp 35, .tmp 36]) (vals := [c_weirref18_Queue.val a0, .int .i64 a1]) (owed := [⟨15, 3, (pt b7 2), (cI .i64).val x6.C.Bytes⟩]) (by kernel_rfl) F57 (by kernel_rfl) (weirref18_Bytes_ok a0 a1) (by kernel_rfl) (by kernel_rfl) (by kernel_rfl) (fun r8 => ?_)
        refine OW.known (j := 0) (q := x6.C.Bytes) Ty3 rfl (At.trans (At_weirref18_Line_C x6) (At_api_Class_Bytes x6.C)) ?_
        refine OW.nil ?_
        refine OJ.run [11, 12, 16, 17] [] [1, 2, 3, 4, 8, 10, 44] (m2 := [(1, .int .i64 a1), (2, .int .i64 a2), (3, .int .i64 a3), (4, .pointer (some (pt b1 0))), (8, .pointer (some (pt b2 0))), (10, .pointer (some (pt b7 0))), (44, .bool (decide ((IntKind.wrap .i64 (r8 + a2)) > x6.C.Bytes)))]) (by kernel_rfl) (by kernel_rfl) ?_
        exact OJ.nil ⟨(Cov.mem (Cov.keep (List.mem_of_getElem? (i := 0) rfl) (Cov.keep (List.mem_of_getElem? (i := 1) rfl) (Cov.keep (List.mem_of_getElem? (i := 2) rfl) (Cov.keep (List.mem_of_getElem? (i := 3) rfl) Cov.nil))))), rfl, _, rfl, by kernel_rfl⟩
      · refine OJ.nil ?_
        refine SJ.cond (t := (.tmp 44)) (b := y9) (by kernel_rfl) (by kernel_rfl) Iff.rfl (fun hc14 => ?_) (fun hc14 => ?_)
        · refine SJ.seq (by kernel_rfl) ?_
          refine SJ.region (id := 7) (by kernel_rfl) [0, 1, 2] (by kernel_rfl) ?_
          refine OJ.kld (d := 45) (T := 71) (y := .tmp 4) (cd := c_weirref18_Queue) (j := 2) (b := b1) (o := 0) a0 (pend2 := []) (by kernel_rfl) (by kernel_rfl) Ty71 (by kernel_rfl) rfl (At.whole _) (by kernel_rfl) rfl ?_
          refine OJ.kst (T := 71) (y := .tmp 8) (z := .tmp 45) (cd := c_weirref18_Queue) (u := a0) (j := 1) (b := b2) (o := 0) (c_weirref18_Queue.enc a0) (h2 := [(b7, c_weirref18_Line.enc x6), (b2, c_weirref18_Queue.enc a0), (b1, c_weirref18_Queue.enc a0)]) (owed := []) (by kernel_rfl) (by kernel_rfl) (by kernel_rfl) Ty71 rfl (Upd.whole ((Cod.len _ _).trans (Cod.len _ _).symm)) (by kernel_rfl) (by kernel_rfl) rfl ?_
          refine OW.nil ?_
          refine OJ.run [2] [] [8, 9] (m2 := [(8, .pointer (some (pt b2 0))), (9, .int .i64 183)]) (by kernel_rfl) (by kernel_rfl) ?_
          refine OJ.nil ?_
          exact SJ.ret (by kernel_rfl) rfl (Res.run (ys := [c_weirref18_Queue.val a0, .int .i64 183]) (.cell (j := 1) (b := b2) (cd := c_weirref18_Queue) (q := a0) (by kernel_rfl) rfl Ty71 (At.whole _) (.tmp (by kernel_rfl) .nil)) rfl)
        · refine SJ.skip (by kernel_rfl) ?_
          refine SJ.seq (by kernel_rfl) ?_
          refine SJ.region (id := 8) (by kernel_rfl) [0] (by kernel_rfl) ?_
          refine OJ.run [0] [] [1, 2, 3, 4, 8, 10, 11] (m2 := [(1, .int .i64 a1), (2, .int .i64 a2), (3, .int .i64 a3), (4, .pointer (some (pt b1 0))), (8, .pointer (some (pt b2 0))), (10, .pointer (some (pt b7 0))), (11, Sl.v Sl.nil)]) (by kernel_rfl) (by kernel_rfl) ?_
          refine OJ.nil ?_
          refine SJ.seq (by kernel_rfl) ?_
          refine SJ.region (id := 9) (by kernel_rfl) [0, 1, 2, 3, 4] (by kernel_rfl) ?_
          refine OJ.run [0, 1] [2, 3, 4] [1, 2, 3, 4, 8, 10, 11, 46, 47] (m2 := [(1, .int .i64 a1), (2, .int .i64 a2), (3, .int .i64 a3), (4, .pointer (some (pt b1 0))), (8, .pointer (some (pt b2 0))), (10, .pointer (some (pt b7 0))), (11, Sl.v Sl.nil), (46, Sl.v Sl.nil), (47, .pointer (some (pt b7 5)))]) (by kernel_rfl) (by kernel_rfl) ?_
          refine OJ.kld (d := 48) (T := 114) (y := .tmp 47) (cd := cL) (j := 0) (b := b7) (o := 5) x6.L (pend2 := []) (by kernel_rfl) (by kernel_rfl) Ty114 (by kernel_rfl) rfl (At_weirref18_Line_L x6) (by kernel_rfl) rfl ?_
          refine OJ.appS (d := 49) (t := 114) (u := 114) (so := .tmp 46) (xo := .tmp 48) (owed := []) (by kernel_rfl) (by kernel_rfl) (by kernel_rfl) Ty125 (by kernel_rfl) (by kernel_rfl) (by kernel_rfl) (by kernel_rfl) (by kernel_rfl) (by kernel_rfl) (fun r10 => ?_)
          refine OW.nil ?_
          refine OJ.run [4] [] [1, 2, 3, 4, 8, 10, 11] (m2 := [(1, .int .i64 a1), (2, .int .i64 a2), (3, .int .i64 a3), (4, .pointer (some (pt b1 0))), (8, .pointer (some (pt b2 0))), (10, .pointer (some (pt b7 0))), (11, Sl.v r10)]) (by kernel_rfl) (by kernel_rfl) ?_
          refine OJ.nil ?_
          refine SJ.seq (by kernel_rfl) ?_
          refine SJ.region (id := 10) (by kernel_rfl) [0, 1, 2, 3, 4, 5, 6] (by kernel_rfl) ?_
          refine OJ.run [0, 1, 2] [3, 4, 5, 6] [1, 4, 8, 10, 11, 50, 51, 52] (m2 := [(1, .int .i64 a1), (4, .pointer (some (pt b1 0))), (8, .pointer (some (pt b2 0))), (10, .pointer (some (pt b7 0))), (11, Sl.v r10), (50, Sl.v r10), (51, .int .i64 a2), (52, .int .i64 a3)]) (by kernel_rfl) (by kernel_rfl) ?_
          refine OJ.build (d := 53) (T := 125) (parts := [(0, .tmp 51), (1, .tmp 52)]) (ps := [(0, (cI .i64).val a2), (1, (cI .i64).val a3)]) (cd := c_weirref18_Item) (z0 := z_weirref18_Item) (⟨a2, a3⟩ : weirref18_Item) (by kernel_rfl) (by kernel_rfl) Ty125 rfl (by kernel_rfl) (Filled.cons (cd := (cI .i64)) (q := a2) (o := 0) (by kernel_rfl) (Up_weirref18_Item_Size z_weirref18_Item a2) (Filled.cons (cd := (cI .i64)) (q := a3) (o := 1) (by kernel_rfl) (Up_weirref18_Item_Item (⟨a2, z_weirref18_Item.Item⟩ : weirref18_Item) a3) Filled.nil)) (by kernel_rfl) (by kernel_rfl) (by kernel_rfl) ?_
          refine OJ.rowSlot (d := 54) (t := 114) (parts := [(0, .tmp 53)]) (ps := [(0, c_weirref18_Item.val (⟨a2, a3⟩ : weirref18_Item))]) (cd := c_weirref18_Item) (⟨[(⟨a2, a3⟩ : weirref18_Item)], rfl⟩ : Vec weirref18_Item 1) (owed := []) (by kernel_rfl) (by kernel_rfl) (by kernel_rfl) Ty125 (by kernel_rfl) (Filled.cons (cd := c_weirref18_Item) (q := (⟨a2, a3⟩ : weirref18_Item)) (o := 0) rfl (Upd.arr (i := 0) (by decide) (by decide)) Filled.nil) (by kernel_rfl) (by kernel_rfl) (by kernel_rfl) (fun b11 => ?_)
          refine OW.nil ?_
          refine OJ.appl (d := 55) (t := 114) (u := 114) (so := .tmp 50) (xo := .tmp 54) (j := 0) (b := b11) (l := (c_weirref18_Item.arr 1).enc (⟨[(⟨a2, a3⟩ : weirref18_Item)], rfl⟩ : Vec weirref18_Item 1)) (n := 1) (k := 1) [(⟨a2, a3⟩ : weirref18_Item)] (owed := []) (by kernel_rfl) (by kernel_rfl) (by kernel_rfl) Ty125 (by kernel_rfl) (by kernel_rfl) (by kernel_rfl) (by rfl) (Cod.arr_enc _ _ _) (by rfl) (by kernel_rfl) (by kernel_rfl) (by kernel_rfl) (fun r12 => ?_)
          refine OW.nil ?_
          refine OJ.run [6] [] [1, 4, 8, 10, 11] (m2 := [(1, .int .i64 a1), (4, .pointer (some (pt b1 0))), (8, .pointer (some (pt b2 0))), (10, .pointer (some (pt b7 0))), (11, Sl.v r12)]) (by kernel_rfl) (by kernel_rfl) ?_
          refine OJ.nil ?_
          refine SJ.seq (by kernel_rfl) ?_
          refine SJ.region (id := 11) (by kernel_rfl) [0, 1, 2] (by kernel_rfl) ?_
          refine OJ.run [0, 1] [2] [1, 4, 8, 10, 56, 57] (m2 := [(1, .int .i64 a1), (4, .pointer (some (pt b1 0))), (8, .pointer (some (pt b2 0))), (10, .pointer (some (pt b7 0))), (56, Sl.v r12), (57, .pointer (some (pt b7 5)))]) (by kernel_rfl) (by kernel_rfl) ?_
          refine OJ.kst (T := 114) (y := .tmp 57) (z := .tmp 56) (cd := cL) (u := r12) (j := 1) (b := b7) (o := 5) (c_weirref18_Line.enc (⟨x6.C, r12, x6.Deficit, x6.Tokens⟩ : weirref18_Line)) (h2 := [(b11, (c_weirref18_Item.arr 1).enc (⟨[(⟨a2, a3⟩ : weirref18_Item)], rfl⟩ : Vec weirref18_Item 1)), (b7, c_weirref18_Line.enc (⟨x6.C, r12, x6.Deficit, x6.Tokens⟩ : weirref18_Line)), (b2, c_weirref18_Queue.enc z_weirref18_Queue), (b1, c_weirref18_Queue.enc a0)]) (owed := []) (by kernel_rfl) (by kernel_rfl) (by kernel_rfl) Ty114 rfl (Up_weirref18_Line_L x6 r12) (by kernel_rfl) (by kernel_rfl) rfl ?_
          refine OW.nil ?_
          refine OJ.nil ?_
          refine SJ.seq (by kernel_rfl) ?_
          refine SJ.region (id := 12) (by kernel_rfl) [0, 1, 2, 3, 4, 5] (by kernel_rfl) ?_
          refine OJ.kld (d := 58) (T := 71) (y := .tmp 4) (cd := c_weirref18_Queue) (j := 3) (b := b1) (o := 0) a0 (pend2 := []) (by kernel_rfl) (by kernel_rfl) Ty71 (by kernel_rfl) rfl (At.whole _) (by kernel_rfl) rfl ?_
          refine OJ.run [1] [2, 3, 4, 5] [8, 10, 58, 59] (m2 := [(8, .pointer (some (pt b2 0))), (10, .pointer (some (pt b7 0))), (58, c_weirref18_Queue.val a0), (59, .int .i64 a1)]) (by kernel_rfl) (by kernel_rfl) ?_
          refine OJ.kld (d := 60) (T := 116) (y := .tmp 10) (cd := c_weirref18_Line) (j := 1) (b := b7) (o := 0) (⟨x6.C, r12, x6.Deficit, x6.Tokens⟩ : weirref18_Line) (pend2 := []) (by kernel_rfl) (by kernel_rfl) Ty116 (by kernel_rfl) rfl (At.whole _) (by kernel_rfl) rfl ?_
          refine OJ.call (d := 61) (g := 61) (ats := #[71, 3, 116]) (args := [.tmp 58, .tmp 59, .tmp 60]) (vals := [c_weirref18_Queue.val a0, .int .i64 a1, c_weirref18_Line.val (⟨x6.C, r12, x6.Deficit, x6.Tokens⟩ : weirref18_Line)]) (owed := []) (by kernel_rfl) F61 (by kernel_rfl) (weirref18_put_ok a0 a1 (⟨x6.C, r12, x6.Deficit, x6.Tokens⟩ : weirref18_Line)) (by kernel_rfl) (by kernel_rfl) (by kernel_rfl) (fun r13 => ?_)
          refine OW.nil ?_
          refine OJ.kst (T := 71) (y := .tmp 8) (z := .tmp 61) (cd := c_weirref18_Queue) (u := r13) (j := 2) (b := b2) (o := 0) (c_weirref18_Queue.enc r13) (h2 := [(b11, (c_weirref18_Item.arr 1).enc (⟨[(⟨a2, a3⟩ : weirref18_Item)], rfl⟩ : Vec weirref18_Item 1)), (b7, c_weirref18_Line.enc (⟨x6.C, r12, x6.Deficit, x6.Tokens⟩ : weirref18_Line)), (b2, c_weirref18_Queue.enc r13), (b1, c_weirref18_Queue.enc a0)]) (owed := []) (by kernel_rfl) (by kernel_rfl) (by kernel_rfl) Ty71 rfl (Upd.whole ((Cod.len _ _).trans (Cod.len _ _).symm)) (by kernel_rfl) (by kernel_rfl) rfl ?_
          refine OW.nil ?_
          refine OJ.run [5] [] [8, 9] (m2 := [(8, .pointer (some (pt b2 0))), (9, .int .i64 0)]) (by kernel_rfl) (by kernel_rfl) ?_
          refine OJ.nil ?_
          exact SJ.ret (by kernel_rfl) rfl (Res.run (ys := [c_weirref18_Queue.val r13, .int .i64 0]) (.cell (j := 2) (b := b2) (cd := c_weirref18_Queue) (q := r13) (by kernel_rfl) rfl Ty71 (At.whole _) (.tmp (by kernel_rfl) .nil)) rfl)

/-! ### (*weir/queue.line[weir/queue.item]).head: function 59 -/
noncomputable def queue_line_queue_item_head.B : Code := (Try.f59.body).getD .skip
noncomputable def queue_line_queue_item_head.cx : Fx := ⟨Try.prog, 59, Try.f59⟩
noncomputable def queue_line_queue_item_head.out (r_ : queue_item) : Value := c_queue_item.val r_
noncomputable def queue_line_queue_item_head.F0 (r_ : queue_item) : Reach := .ret (queue_line_queue_item_head.out r_)
noncomputable def queue_line_queue_item_head (a0 : (Option Addr)) : M queue_item :=
  slot 107 >>= fun b1 =>
  draw >>= fun _ =>
  nilck a0 >>= fun p2 =>
  ld cL p2 >>= fun x3 =>
  nilck a0 >>= fun p4 =>
  ld (cI .i64) (Addr.add p4 1) >>= fun x5 =>
  idx x3.a x3.len x5 2 >>= fun p6 =>
  ld c_queue_item p6 >>= fun x7 =>
  pure x7
theorem queue_line_queue_item_head_ok (a0 : (Option Addr)) : Ref Try.prog 59 [.pointer a0] (queue_line_queue_item_head a0) queue_line_queue_item_head.out := by
  refine Ref.of (cd := queue_line_queue_item_head.B) Try.func59 (by kernel_rfl) (by kernel_rfl) ?_
  show SJ queue_line_queue_item_head.cx [.code queue_line_queue_item_head.B] [(0, .pointer a0)] [] (queue_line_queue_item_head a0) queue_line_queue_item_head.F0
  unfold queue_line_queue_item_head
  refine SJ.seq (by kernel_rfl) ?_
  refine SJ.region (id := 0) (by kernel_rfl) [0] (by kernel_rfl) ?_
  refine OJ.slotOf (d := 2) (op := (.alloc 107)) (cd := c_queue_item) (u := z_queue_item) (owed := []) (by kernel_rfl) (alloc_run Ty107) (by kernel_rfl) (by kernel_rfl) (by kernel_rfl) (fun b1 => ?_)
  refine OW.nil ?_
  refine OJ.nil ?_
  refine SJ.seq (by kernel_rfl) ?_
  refine SJ.draw (id := 1) (kd := [0, 0, 0, 1, 0, 0, 0, 1, 0, 1, 2]) (bef := [0, 1, 3, 7, 0, 16, 48, 112, 255, 511, 1023]) (ord := [0, 1, 2, 3, 4, 5, 6, 7, 8, 9, 10]) (by kernel_rfl) mixed (by kernel_rfl) ?_
  refine OJ.run [0] [1, 2, 3, 4, 5, 6, 7, 8, 9, 10] [0, 2, 3] (m2 := [(0, .pointer a0), (2, .pointer (some (pt b1 0))), (3, .pointer a0)]) (by kernel_rfl) (by kernel_rfl) ?_
  refine OJ.nilck (d := 4) (y := .tmp 3) (by kernel_rfl) (by kernel_rfl) (by kernel_rfl) (by kernel_rfl) (by kernel_rfl) (fun p2 => ?_)
  refine OJ.run [2] [3, 4, 5, 6, 7, 8, 9, 10] [0, 2, 5] (m2 := [(0, .pointer a0), (2, .pointer (some (pt b1 0))), (5, .pointer (some p2))]) (by kernel_rfl) (by kernel_rfl) ?_
  refine OJ.ld (d := 6) (T := 100) (y := .tmp 5) (pend2 := fun x3 => [⟨3, 100, p2, cL.val x3⟩]) (by kernel_rfl) (by kernel_rfl) Ty100 (by kernel_rfl) (by kernel_rfl) (fun _ => rfl) (fun x3 => ?_)
  refine OJ.run [4] [5, 6, 7, 8, 9, 10] [2, 6, 7] (m2 := [(2, .pointer (some (pt b1 0))), (6, Sl.v x3), (7, .pointer a0)]) (by kernel_rfl) (by kernel_rfl) ?_
  refine OJ.nilck (d := 8) (y := .tmp 7) (by kernel_rfl) (by kernel_rfl) (by kernel_rfl) (by kernel_rfl) (by kernel_rfl) (fun p4 => ?_)
  refine OJ.run [6] [7, 8, 9, 10] [2, 6, 9] (m2 := [(2, .pointer (some (pt b1 0))), (6, Sl.v x3), (9, .pointer (some (Addr.add p4 1)))]) (by kernel_rfl) (by kernel_rfl) ?_
  refine OJ.ld (d := 10) (T := 3) (y := .tmp 9) (pend2 := fun x5 => [⟨7, 3, (Addr.add p4 1), (cI .i64).val x5⟩, ⟨3, 100, p2, cL.val x3⟩]) (by kernel_rfl) (by kernel_rfl) Ty3 (by kernel_rfl) (by kernel_rfl) (fun _ => rfl) (fun x5 => ?_)
  refine OJ.idxS (d := 11) (T := 100) (y := .tmp 6) (j := .tmp 10) (E := 107) (cap := x3.cap) (k := .i64) (by kernel_rfl) (by kernel_rfl) (by kernel_rfl) (by kernel_rfl) (by kernel_rfl) (by kernel_rfl) (by kernel_rfl) (by kernel_rfl) (fun p6 => ?_)
  refine OJ.ld (d := 12) (T := 107) (y := .tmp 11) (pend2 := fun x7 => [⟨9, 107, p6, c_queue_item.val x7⟩, ⟨7, 3, (Addr.add p4 1), (cI .i64).val x5⟩, ⟨3, 100, p2, cL.val x3⟩]) (by kernel_rfl) (by kernel_rfl) Ty107 (by kernel_rfl) (by kernel_rfl) (fun _ => rfl) (fun x7 => ?_)
  refine OJ.kst (T := 107) (y := .tmp 2) (z := .tmp 12) (cd := c_queue_item) (u := x7) (j := 0) (b := b1) (o := 0) (c_queue_item.enc x7) (h2 := [(b1, c_queue_item.enc x7)]) (owed := []) (by kernel_rfl) (by kernel_rfl) (by kernel_rfl) Ty107 rfl (Upd.whole ((Cod.len _ _).trans (Cod.len _ _).symm)) (by kernel_rfl) (by kernel_rfl) rfl ?_
  refine OW.nil ?_
  refine OJ.nil ?_
  exact SJ.ret (by kernel_rfl) rfl (Res.run (ys := [c_queue_item.val x7]) (.cell (j := 0) (b := b1) (cd := c_queue_item) (q := x7) (by kernel_rfl) rfl Ty107 (At.whole _) .nil) rfl)

/-! ### (*weir/queue.line[weir/queue.item]).leave: function 60 -/
noncomputable def queue_line_queue_item_leave.B : Code := (Try.f60.body).getD .skip
noncomputable def queue_line_queue_item_leave.cx : Fx := ⟨Try.prog, 60, Try.f60⟩
noncomputable def queue_line_queue_item_leave.out (r_ : Unit) : Value := .tuple #[]
noncomputable def queue_line_queue_item_leave.F0 (r_ : Unit) : Reach := .ret (queue_line_queue_item_leave.out r_)
noncomputable def queue_line_queue_item_leave (a0 : (Option Addr)) : M Unit :=
  draw >>= fun _ =>
  nilck a0 >>= fun p1 =>
  ld (cI .i64) (Addr.add p1 1) >>= fun x2 =>
  nilck a0 >>= fun p3 =>
  ld cL p3 >>= fun x4 =>
  chk ((x4.len : Int) ≠ 0) >>= fun _ =>
  nilck a0 >>= fun p5 =>
  st (cI .i64) (Addr.add p5 1) (Int.tmod (IntKind.wrap .i64 (x2 + 1)) (x4.len : Int)) >>= fun _ =>
  nilck a0 >>= fun p6 =>
  ld (cI .i64) (Addr.add p6 2) >>= fun x7 =>
  nilck a0 >>= fun p8 =>
  st (cI .i64) (Addr.add p8 2) (IntKind.wrap .i64 (x7 - 1)) >>= fun _ =>
  pure ()
theorem queue_line_queue_item_leave_ok (a0 : (Option Addr)) : Ref Try.prog 60 [.pointer a0] (queue_line_queue_item_leave a0) queue_line_queue_item_leave.out := by
  refine Ref.of (cd := queue_line_queue_item_leave.B) Try.func60 (by kernel_rfl) (by kernel_rfl) ?_
  show SJ queue_line_queue_item_leave.cx [.code queue_line_queue_item_leave.B] [(0, .pointer a0)] [] (queue_line_queue_item_leave a0) queue_line_queue_item_leave.F0
  unfold queue_line_queue_item_leave
  refine SJ.seq (by kernel_rfl) ?_
  refine SJ.draw (id := 0) (kd := [0, 0, 0, 0, 1, 0, 0, 0, 0, 1, 0, 0, 0, 0, 2]) (bef := [0, 0, 2, 6, 14, 30, 0, 64, 192, 448, 960, 2046, 4095, 8191, 16383]) (ord := [0, 1, 2, 3, 4, 5, 6, 7, 8, 9, 10, 11, 12, 13, 14]) (by kernel_rfl) mixed (by kernel_rfl) ?_
  refine OJ.run [0, 1] [2, 3, 4, 5, 6, 7, 8, 9, 10, 11, 12, 13, 14] [0, 2, 3] (m2 := [(0, .pointer a0), (2, .pointer a0), (3, .pointer a0)]) (by kernel_rfl) (by kernel_rfl) ?_
  refine OJ.nilck (d := 4) (y := .tmp 3) (by kernel_rfl) (by kernel_rfl) (by kernel_rfl) (by kernel_rfl) (by kernel_rfl) (fun p1 => ?_)
  refine OJ.run [3] [4, 5, 6, 7, 8, 9, 10, 11, 12, 13, 14] [0, 2, 5] (m2 := [(0, .pointer a0), (2, .pointer a0), (5, .pointer (some (Addr.add p1 1)))]) (by kernel_rfl) (by kernel_rfl) ?_
  refine OJ.ld (d := 6) (T := 3) (y := .tmp 5) (pend2 := fun x2 => [⟨4, 3, (Addr.add p1 1), (cI .i64).val x2⟩]) (by kernel_rfl) (by kernel_rfl) Ty3 (by kernel_rfl) (by kernel_rfl) (fun _ => rfl) (fun x2 => ?_)
  refine OJ.run [5, 6] [7, 8, 9, 10, 11, 12, 13, 14] [0, 2, 7, 8] (m2 := [(0, .pointer a0), (2, .pointer a0), (7, .int .i64 (IntKind.wrap .i64 (x2 + 1))), (8, .pointer a0)]) (by kernel_rfl) (by kernel_rfl) ?_
  refine OJ.nilck (d := 9) (y := .tmp 8) (by kernel_rfl) (by kernel_rfl) (by kernel_rfl) (by kernel_rfl) (by kernel_rfl) (fun p3 => ?_)
  refine OJ.run [8] [9, 10, 11, 12, 13, 14] [0, 2, 7, 10] (m2 := [(0, .pointer a0), (2, .pointer a0), (7, .int .i64 (IntKind.wrap .i64 (x2 + 1))), (10, .pointer (some p3))]) (by kernel_rfl) (by kernel_rfl) ?_
  refine OJ.ld (d := 11) (T := 100) (y := .tmp 10) (pend2 := fun x4 => [⟨9, 100, p3, cL.val x4⟩, ⟨4, 3, (Addr.add p1 1), (cI .i64).val x2⟩]) (by kernel_rfl) (by kernel_rfl) Ty100 (by kernel_rfl) (by kernel_rfl) (fun _ => rfl) (fun x4 => ?_)
  refine OJ.run [10] [11, 12, 13, 14] [0, 2, 7, 12] (m2 := [(0, .pointer a0), (2, .pointer a0), (7, .int .i64 (IntKind.wrap .i64 (x2 + 1))), (12, .int .i64 (x4.len : Int))]) (by kernel_rfl) (by kernel_rfl) ?_
  refine OJ.rem (d := 13) (T := 3) (yT := 3) (y := .tmp 7) (z := .tmp 12) (p := (IntKind.wrap .i64 (x2 + 1))) (q := (x4.len : Int)) (k := .i64) (by kernel_rfl) (by kernel_rfl) (by kernel_rfl) (by kernel_rfl) (by kernel_rfl) (by kernel_rfl) (fun hq9 => ?_)
  refine OJ.nilck (d := 14) (y := .tmp 2) (by kernel_rfl) (by kernel_rfl) (by kernel_rfl) (by kernel_rfl) (by kernel_rfl) (fun p5 => ?_)
  refine OJ.run [13] [14] [0, 13, 15] (m2 := [(0, .pointer a0), (13, .int .i64 (Int.tmod (IntKind.wrap .i64 (x2 + 1)) (x4.len : Int))), (15, .pointer (some (Addr.add p5 1)))]) (by kernel_rfl) (by kernel_rfl) ?_
  refine OJ.st (T := 3) (y := .tmp 15) (z := .tmp 13) (owed := []) (by kernel_rfl) (by kernel_rfl) (by kernel_rfl) Ty3 (by kernel_rfl) (by kernel_rfl) ?_
  refine OW.nil ?_
  refine OJ.nil ?_
  refine SJ.region (id := 1) (by kernel_rfl) [0, 1, 2, 3, 4, 5, 6, 7] (by kernel_rfl) ?_
  refine OJ.run [0] [1, 2, 3, 4, 5, 6, 7] [16] (m2 := [(16, .pointer a0)]) (by kernel_rfl) (by kernel_rfl) ?_
  refine OJ.nilck (d := 17) (y := .tmp 16) (by kernel_rfl) (by kernel_rfl) (by kernel_rfl) (by kernel_rfl) (by kernel_rfl) (fun p6 => ?_)
  refine OJ.run [2] [3, 4, 5, 6, 7] [16, 18] (m2 := [(16, .pointer a0), (18, .pointer (some (Addr.add p6 2)))]) (by kernel_rfl) (by kernel_rfl) ?_
  refine OJ.ld (d := 19) (T := 3) (y := .tmp 18) (pend2 := fun x7 => []) (by kernel_rfl) (by kernel_rfl) Ty3 (by kernel_rfl) (by kernel_rfl) (fun _ => rfl) (fun x7 => ?_)
  refine OJ.run [4] [5, 6, 7] [16, 20] (m2 := [(16, .pointer a0), (20, .int .i64 (IntKind.wrap .i64 (x7 - 1)))]) (by kernel_rfl) (by kernel_rfl) ?_
  refine OJ.nilck (d := 21) (y := .tmp 16) (by kernel_rfl) (by kernel_rfl) (by kernel_rfl) (by kernel_rfl) (by kernel_rfl) (fun p8 => ?_)
  refine OJ.run [6] [7] [20, 22] (m2 := [(20, .int .i64 (IntKind.wrap .i64 (x7 - 1))), (22, .pointer (some (Addr.add p8 2)))]) (by kernel_rfl) (by kernel_rfl) ?_
  refine OJ.st (T := 3) (y := .tmp 22) (z := .tmp 20) (owed := []) (by kernel_rfl) (by kernel_rfl) (by kernel_rfl) Ty3 (by kernel_rfl) (by kernel_rfl) ?_
  refine OW.nil ?_
  refine OJ.nil ?_
  exact SJ.end_ rfl (Res.run (ys := []) .nil rfl)

/-! ### (*weir/queue.Queue).take: function 47 -/
noncomputable def queue_Queue_take.B : Code := (Try.f47.body).getD .skip
noncomputable def queue_Queue_take.cx : Fx := ⟨Try.prog, 47, Try.f47⟩
noncomputable def queue_Queue_take.out (r_ : Unit) : Value := .tuple #[]
noncomputable def queue_Queue_take.F0 (r_ : Unit) : Reach := .ret (queue_Queue_take.out r_)
noncomputable def queue_Queue_take.K1 (a0 : (Option Addr)) (a1 : queue_turn) (p4 : Addr) (r5 : queue_item) : M Unit :=
  chk (0 ≤ a1.at_ ∧ a1.at_ < (8 : Nat)) >>= fun _ =>
  chk (0 ≤ a1.at_ ∧ a1.at_ < (8 : Nat)) >>= fun _ =>
  ld (cI .i64) (Addr.add (Addr.add p4 5) 2) >>= fun x14 =>
  if x14 = 0 then
    chk (0 ≤ a1.at_ ∧ a1.at_ < (8 : Nat)) >>= fun _ =>
    nilck a0 >>= fun p19 =>
    st c_queue_turn (Addr.add p19 1) (⟨(Vec.s (Vec.s a1.deficit a1.at_ (IntKind.wrap .i64 ((Vec.g a1.deficit a1.at_ 0) - r5.size))) a1.at_ 0), a1.at_, a1.given⟩ : queue_turn) >>= fun _ =>
    pure ()
  else
    nilck a0 >>= fun p20 =>
    st c_queue_turn (Addr.add p20 1) (⟨(Vec.s a1.deficit a1.at_ (IntKind.wrap .i64 ((Vec.g a1.deficit a1.at_ 0) - r5.size))), a1.at_, a1.given⟩ : queue_turn) >>= fun _ =>
    pure ()
theorem queue_Queue_take.K1_ok (a0 : (Option Addr)) (a1 : queue_turn) (b1 : Nat) (p4 : Addr) (r5 : queue_item) :
    SJ queue_Queue_take.cx [.code (c2 (c2 (c2 (c2 (c2 (c2 queue_Queue_take.B))))))] [(0, .pointer a0), (3, .pointer (some (pt b1 0))), (4, .pointer (some p4)), (5, .int .i64 r5.size)] [(b1, c_queue_turn.enc a1)] (queue_Queue_take.K1 a0 a1 p4 r5) queue_Queue_take.F0 := by
  unfold queue_Queue_take.K1
  refine SJ.seq (by kernel_rfl) ?_
  refine SJ.region (id := 7) (by kernel_rfl) [0, 1, 2, 3, 4, 5, 6, 7, 8, 9] (by kernel_rfl) ?_
  refine OJ.run [0] [1, 2, 3, 4, 5, 6, 7, 8, 9] [0, 3, 4, 5, 44] (m2 := [(0, .pointer a0), (3, .pointer (some (pt b1 0))), (4, .pointer (some p4)), (5, .int .i64 r5.size), (44, .pointer (some (pt b1 8)))]) (by kernel_rfl) (by kernel_rfl) ?_
  refine OJ.kld (d := 45) (T := 3) (y := .tmp 44) (cd := (cI .i64)) (j := 0) (b := b1) (o := 8) a1.at_ (pend2 := []) (by kernel_rfl) (by kernel_rfl) Ty3 (by kernel_rfl) rfl (At_queue_turn_at_ a1) (by kernel_rfl) rfl ?_
  refine OJ.run [2] [3, 4, 5, 6, 7, 8, 9] [0, 3, 4, 5, 45, 46] (m2 := [(0, .pointer a0), (3, .pointer (some (pt b1 0))), (4, .pointer (some p4)), (5, .int .i64 r5.size), (45, .int .i64 a1.at_), (46, .pointer (some (pt b1 0)))]) (by kernel_rfl) (by kernel_rfl) ?_
  refine OJ.idxK (d := 47) (T := 93) (y := .tmp 46) (j := .tmp 45) (E := 3) (sz := 1) (b := b1) (o := 0) (k := .i64) (by kernel_rfl) (by kernel_rfl) (by kernel_rfl) (by kernel_rfl) (by kernel_rfl) (by kernel_rfl) (by kernel_rfl) (by kernel_rfl) (fun hb10 hb11 => ?_)
  refine OJ.kld (d := 48) (T := 3) (y := .tmp 47) (cd := (cI .i64)) (j := 0) (b := b1) (o := (0 + a1.at_.toNat * 1)) (Vec.g a1.deficit a1.at_ 0) (pend2 := []) (by kernel_rfl) (by kernel_rfl) Ty3 (by kernel_rfl) rfl (At.trans (At_queue_turn_deficit a1) (At.arr (z := 0) hb10 hb11)) (by kernel_rfl) rfl ?_
  refine OJ.run [5, 6, 7] [8, 9] [0, 3, 4, 45, 50, 51] (m2 := [(0, .pointer a0), (3, .pointer (some (pt b1 0))), (4, .pointer (some p4)), (45, .int .i64 a1.at_), (50, .int .i64 (IntKind.wrap .i64 ((Vec.g a1.deficit a1.at_ 0) - r5.size))), (51, .pointer (some (pt b1 0)))]) (by kernel_rfl) (by kernel_rfl) ?_
  refine OJ.idxK (d := 52) (T := 93) (y := .tmp 51) (j := .tmp 45) (E := 3) (sz := 1) (b := b1) (o := 0) (k := .i64) (by kernel_rfl) (by kernel_rfl) (by kernel_rfl) (by kernel_rfl) (by kernel_rfl) (by kernel_rfl) (by kernel_rfl) (by kernel_rfl) (fun hb12 hb13 => ?_)
  refine OJ.kst (T := 3) (y := .tmp 52) (z := .tmp 50) (cd := (cI .i64)) (u := (IntKind.wrap .i64 ((Vec.g a1.deficit a1.at_ 0) - r5.size))) (j := 0) (b := b1) (o := (0 + a1.at_.toNat * 1)) (c_queue_turn.enc (⟨(Vec.s a1.deficit a1.at_ (IntKind.wrap .i64 ((Vec.g a1.deficit a1.at_ 0) - r5.size))), a1.at_, a1.given⟩ : queue_turn)) (h2 := [(b1, c_queue_turn.enc (⟨(Vec.s a1.deficit a1.at_ (IntKind.wrap .i64 ((Vec.g a1.deficit a1.at_ 0) - r5.size))), a1.at_, a1.given⟩ : queue_turn))]) (owed := []) (by kernel_rfl) (by kernel_rfl) (by kernel_rfl) Ty3 rfl (Upd.trans (At_queue_turn_deficit a1) (Upd.arr hb12 hb13) (Up_queue_turn_deficit a1 (Vec.s a1.deficit a1.at_ (IntKind.wrap .i64 ((Vec.g a1.deficit a1.at_ 0) - r5.size))))) (by kernel_rfl) (by kernel_rfl) rfl ?_
  refine OW.nil ?_
  refine OJ.nil ?_
  refine SJ.seq (by kernel_rfl) ?_
  refine SJ.seq (by kernel_rfl) ?_
  refine SJ.region (id := 8) (by kernel_rfl) [0, 1, 2, 3, 4, 5] (by kernel_rfl) ?_
  refine OJ.run [0, 1, 2, 3] [4, 5] [0, 3, 56] (m2 := [(0, .pointer a0), (3, .pointer (some (pt b1 0))), (56, .pointer (some (Addr.add (Addr.add p4 5) 2)))]) (by kernel_rfl) (by kernel_rfl) ?_
  refine OJ.ld (d := 57) (T := 3) (y := .tmp 56) (pend2 := fun x14 => []) (by kernel_rfl) (by kernel_rfl) Ty3 (by kernel_rfl) (by kernel_rfl) (fun _ => rfl) (fun x14 => ?_)
  refine OJ.run [5] [] [0, 3, 58] (m2 := [(0, .pointer a0), (3, .pointer (some (pt b1 0))), (58, .bool (x14 == 0))]) (by kernel_rfl) (by kernel_rfl) ?_
  refine OJ.nil ?_
  refine SJ.cond (t := (.tmp 58)) (b := (x14 == 0)) (by kernel_rfl) (by kernel_rfl) beq_iff_eq (fun hc21 => ?_) (fun hc21 => ?_)
  · refine SJ.region (id := 9) (by kernel_rfl) [0, 1, 2, 3, 4] (by kernel_rfl) ?_
    refine OJ.run [0] [1, 2, 3, 4] [0, 3, 59] (m2 := [(0, .pointer a0), (3, .pointer (some (pt b1 0))), (59, .pointer (some (pt b1 8)))]) (by kernel_rfl) (by kernel_rfl) ?_
    refine OJ.kld (d := 60) (T := 3) (y := .tmp 59) (cd := (cI .i64)) (j := 0) (b := b1) (o := 8) a1.at_ (pend2 := []) (by kernel_rfl) (by kernel_rfl) Ty3 (by kernel_rfl) rfl (At_queue_turn_at_ (⟨(Vec.s a1.deficit a1.at_ (IntKind.wrap .i64 ((Vec.g a1.deficit a1.at_ 0) - r5.size))), a1.at_, a1.given⟩ : queue_turn)) (by kernel_rfl) rfl ?_
    refine OJ.run [2] [3, 4] [0, 3, 60, 61] (m2 := [(0, .pointer a0), (3, .pointer (some (pt b1 0))), (60, .int .i64 a1.at_), (61, .pointer (some (pt b1 0)))]) (by kernel_rfl) (by kernel_rfl) ?_
    refine OJ.idxK (d := 62) (T := 93) (y := .tmp 61) (j := .tmp 60) (E := 3) (sz := 1) (b := b1) (o := 0) (k := .i64) (by kernel_rfl) (by kernel_rfl) (by kernel_rfl) (by kernel_rfl) (by kernel_rfl) (by kernel_rfl) (by kernel_rfl) (by kernel_rfl) (fun hb17 hb18 => ?_)
    refine OJ.kst (T := 3) (y := .tmp 62) (z := .const (.int .i64 0)) (cd := (cI .i64)) (u := 0) (j := 0) (b := b1) (o := (0 + a1.at_.toNat * 1)) (c_queue_turn.enc (⟨(Vec.s (Vec.s a1.deficit a1.at_ (IntKind.wrap .i64 ((Vec.g a1.deficit a1.at_ 0) - r5.size))) a1.at_ 0), a1.at_, a1.given⟩ : queue_turn)) (h2 := [(b1, c_queue_turn.enc (⟨(Vec.s (Vec.s a1.deficit a1.at_ (IntKind.wrap .i64 ((Vec.g a1.deficit a1.at_ 0) - r5.size))) a1.at_ 0), a1.at_, a1.given⟩ : queue_turn))]) (owed := []) (by kernel_rfl) (by kernel_rfl) (by kernel_rfl) Ty3 rfl (Upd.trans (At_queue_turn_deficit (⟨(Vec.s a1.deficit a1.at_ (IntKind.wrap .i64 ((Vec.g a1.deficit a1.at_ 0) - r5.size))), a1.at_, a1.given⟩ : queue_turn)) (Upd.arr hb17 hb18) (Up_queue_turn_deficit (⟨(Vec.s a1.deficit a1.at_ (IntKind.wrap .i64 ((Vec.g a1.deficit a1.at_ 0) - r5.size))), a1.at_, a1.given⟩ : queue_turn) (Vec.s (Vec.s a1.deficit a1.at_ (IntKind.wrap .i64 ((Vec.g a1.deficit a1.at_ 0) - r5.size))) a1.at_ 0))) (by kernel_rfl) (by kernel_rfl) rfl ?_
    refine OW.nil ?_
    refine OJ.nil ?_
    refine SJ.region (id := 10) (by kernel_rfl) [0, 1, 2, 3, 4] (by kernel_rfl) ?_
    refine OJ.run [0] [1, 2, 3, 4] [3, 63] (m2 := [(3, .pointer (some (pt b1 0))), (63, .pointer a0)]) (by kernel_rfl) (by kernel_rfl) ?_
    refine OJ.kld (d := 64) (T := 95) (y := .tmp 3) (cd := c_queue_turn) (j := 0) (b := b1) (o := 0) (⟨(Vec.s (Vec.s a1.deficit a1.at_ (IntKind.wrap .i64 ((Vec.g a1.deficit a1.at_ 0) - r5.size))) a1.at_ 0), a1.at_, a1.given⟩ : queue_turn) (pend2 := []) (by kernel_rfl) (by kernel_rfl) Ty95 (by kernel_rfl) rfl (At.whole _) (by kernel_rfl) rfl ?_
    refine OJ.nilck (d := 65) (y := .tmp 63) (by kernel_rfl) (by kernel_rfl) (by kernel_rfl) (by kernel_rfl) (by kernel_rfl) (fun p19 => ?_)
    refine OJ.run [3] [4] [64, 66] (m2 := [(64, c_queue_turn.val (⟨(Vec.s (Vec.s a1.deficit a1.at_ (IntKind.wrap .i64 ((Vec.g a1.deficit a1.at_ 0) - r5.size))) a1.at_ 0), a1.at_, a1.given⟩ : queue_turn)), (66, .pointer (some (Addr.add p19 1)))]) (by kernel_rfl) (by kernel_rfl) ?_
    refine OJ.st (T := 95) (y := .tmp 66) (z := .tmp 64) (owed := []) (by kernel_rfl) (by kernel_rfl) (by kernel_rfl) Ty95 (by kernel_rfl) (by kernel_rfl) ?_
    refine OW.nil ?_
    refine OJ.nil ?_
    exact SJ.end_ rfl (Res.run (ys := []) .nil rfl)
  · refine SJ.skip (by kernel_rfl) ?_
    refine SJ.region (id := 10) (by kernel_rfl) [0, 1, 2, 3, 4] (by kernel_rfl) ?_
    refine OJ.run [0] [1, 2, 3, 4] [3, 63] (m2 := [(3, .pointer (some (pt b1 0))), (63, .pointer a0)]) (by kernel_rfl) (by kernel_rfl) ?_
    refine OJ.kld (d := 64) (T := 95) (y := .tmp 3) (cd := c_queue_turn) (j := 0) (b := b1) (o := 0) (⟨(Vec.s a1.deficit a1.at_ (IntKind.wrap .i64 ((Vec.g a1.deficit a1.at_ 0) - r5.size))), a1.at_, a1.given⟩ : queue_turn) (pend2 := []) (by kernel_rfl) (by kernel_rfl) Ty95 (by kernel_rfl) rfl (At.whole _) (by kernel_rfl) rfl ?_
    refine OJ.nilck (d := 65) (y := .tmp 63) (by kernel_rfl) (by kernel_rfl) (by kernel_rfl) (by kernel_rfl) (by kernel_rfl) (fun p20 => ?_)
    refine OJ.run [3] [4] [64, 66] (m2 := [(64, c_queue_turn.val (⟨(Vec.s a1.deficit a1.at_ (IntKind.wrap .i64 ((Vec.g a1.deficit a1.at_ 0) - r5.size))), a1.at_, a1.given⟩ : queue_turn)), (66, .pointer (some (Addr.add p20 1)))]) (by kernel_rfl) (by kernel_rfl) ?_
    refine OJ.st (T := 95) (y := .tmp 66) (z := .tmp 64) (owed := []) (by kernel_rfl) (by kernel_rfl) (by kernel_rfl) Ty95 (by kernel_rfl) (by kernel_rfl) ?_
    refine OW.nil ?_
    refine OJ.nil ?_
    exact SJ.end_ rfl (Res.run (ys := []) .nil rfl)
noncomputable def queue_Queue_take (a0 : (Option Addr)) (a1 : queue_turn) : M Unit :=
  slot 95 >>= fun b1 =>
  draw >>= fun _ =>
  nilck a0 >>= fun p2 =>
  ld cL p2 >>= fun x3 =>
  idx x3.a x3.len a1.at_ 10 >>= fun p4 =>
  queue_line_queue_item_head (some (Addr.add p4 5)) >>= fun r5 =>
  queue_line_queue_item_leave (some (Addr.add p4 5)) >>= fun r6 =>
  ld (cI .i64) (Addr.add p4 8) >>= fun x7 =>
  st (cI .i64) (Addr.add p4 8) (IntKind.wrap .i64 (x7 - r5.size)) >>= fun _ =>
  ld (cI .i64) (Addr.add p4 3) >>= fun x8 =>
  if x8 > 0 then
    ld (cI .i64) (Addr.add p4 9) >>= fun x22 =>
    st (cI .i64) (Addr.add p4 9) (IntKind.wrap .i64 (x22 - r5.size)) >>= fun _ =>
    queue_Queue_take.K1 a0 a1 p4 r5
  else
    queue_Queue_take.K1 a0 a1 p4 r5
theorem queue_Queue_take_ok (a0 : (Option Addr)) (a1 : queue_turn) : Ref Try.prog 47 [.pointer a0, c_queue_turn.val a1] (queue_Queue_take a0 a1) queue_Queue_take.out := by
  refine Ref.of (cd := queue_Queue_take.B) Try.func47 (by kernel_rfl) (by kernel_rfl) ?_
  show SJ queue_Queue_take.cx [.code queue_Queue_take.B] [(0, .pointer a0), (1, c_queue_turn.val a1)] [] (queue_Queue_take a0 a1) queue_Queue_take.F0
  unfold queue_Queue_take
  refine SJ.seq (by kernel_rfl) ?_
  refine SJ.region (id := 0) (by kernel_rfl) [0] (by kernel_rfl) ?_
  refine OJ.slotOf (d := 3) (op := (.box 95 (.tmp 1))) (cd := c_queue_turn) (u := a1) (owed := []) (by kernel_rfl) (box_run (by kernel_rfl)) (by kernel_rfl) (by kernel_rfl) (by kernel_rfl) (fun b1 => ?_)
  refine OW.nil ?_
  refine OJ.nil ?_
  refine SJ.seq (by kernel_rfl) ?_
  refine SJ.draw (id := 1) (kd := [0, 0, 0, 1, 0, 1, 0, 0]) (bef := [0, 1, 3, 7, 0, 16, 63, 127]) (ord := [0, 1, 2, 3, 4, 5, 6, 7]) (by kernel_rfl) mixed (by kernel_rfl) ?_
  refine OJ.run [0] [1, 2, 3, 4, 5, 6, 7] [0, 3, 6] (m2 := [(0, .pointer a0), (3, .pointer (some (pt b1 0))), (6, .pointer a0)]) (by kernel_rfl) (by kernel_rfl) ?_
  refine OJ.nilck (d := 7) (y := .tmp 6) (by kernel_rfl) (by kernel_rfl) (by kernel_rfl) (by kernel_rfl) (by kernel_rfl) (fun p2 => ?_)
  refine OJ.run [2] [3, 4, 5, 6, 7] [0, 3, 8] (m2 := [(0, .pointer a0), (3, .pointer (some (pt b1 0))), (8, .pointer (some p2))]) (by kernel_rfl) (by kernel_rfl) ?_
  refine OJ.ld (d := 9) (T := 92) (y := .tmp 8) (pend2 := fun x3 => [⟨3, 92, p2, cL.val x3⟩]) (by kernel_rfl) (by kernel_rfl) Ty92 (by kernel_rfl) (by kernel_rfl) (fun _ => rfl) (fun x3 => ?_)
  refine OJ.run [4] [5, 6, 7] [0, 3, 9, 10] (m2 := [(0, .pointer a0), (3, .pointer (some (pt b1 0))), (9, Sl.v x3), (10, .pointer (some (pt b1 8)))]) (by kernel_rfl) (by kernel_rfl) ?_
  refine OJ.kld (d := 11) (T := 3) (y := .tmp 10) (cd := (cI .i64)) (j := 0) (b := b1) (o := 8) a1.at_ (pend2 := [⟨5, 3, (pt b1 8), (cI .i64).val a1.at_⟩, ⟨3, 92, p2, cL.val x3⟩]) (by kernel_rfl) (by kernel_rfl) Ty3 (by kernel_rfl) rfl (At_queue_turn_at_ a1) (by kernel_rfl) rfl ?_
  refine OJ.idxS (d := 12) (T := 92) (y := .tmp 9) (j := .tmp 11) (E := 104) (cap := x3.cap) (k := .i64) (by kernel_rfl) (by kernel_rfl) (by kernel_rfl) (by kernel_rfl) (by kernel_rfl) (by kernel_rfl) (by kernel_rfl) (by kernel_rfl) (fun p4 => ?_)
  refine OJ.run [7] [] [0, 3, 4] (m2 := [(0, .pointer a0), (3, .pointer (some (pt b1 0))), (4, .pointer (some p4))]) (by kernel_rfl) (by kernel_rfl) ?_
  refine OJ.nil ?_
  refine SJ.seq (by kernel_rfl) ?_
  refine SJ.region (id := 2) (by kernel_rfl) [0, 1, 2, 3, 4, 5] (by kernel_rfl) ?_
  refine OJ.run [0, 1, 2] [3, 4, 5] [0, 3, 4, 15] (m2 := [(0, .pointer a0), (3, .pointer (some (pt b1 0))), (4, .pointer (some p4)), (15, .pointer (some (Addr.add p4 5)))]) (by kernel_rfl) (by kernel_rfl) ?_
  refine OJ.call (d := 16) (g := 59) (ats := #[102]) (args := [.tmp 15]) (vals := [.pointer (some (Addr.add p4 5))]) (owed := []) (by kernel_rfl) F59 (by kernel_rfl) (queue_line_queue_item_head_ok (some (Addr.add p4 5))) (by kernel_rfl) (by kernel_rfl) (by kernel_rfl) (fun r5 => ?_)
  refine OW.nil ?_
  refine OJ.field (d := 17) (S := 107) (f := 0) (T := 3) (y := .tmp 16) (o := 0) (l := c_queue_item.enc r5) (cd := (cI .i64)) r5.size (by kernel_rfl) (by kernel_rfl) (by kernel_rfl) Ty3 (At_queue_item_size r5) (by kernel_rfl) (by kernel_rfl) (by kernel_rfl) ?_
  refine OJ.run [5] [] [0, 3, 4, 5] (m2 := [(0, .pointer a0), (3, .pointer (some (pt b1 0))), (4, .pointer (some p4)), (5, .int .i64 r5.size)]) (by kernel_rfl) (by kernel_rfl) ?_
  refine OJ.nil ?_
  refine SJ.seq (by kernel_rfl) ?_
  refine SJ.region (id := 3) (by kernel_rfl) [0, 1, 2, 3] (by kernel_rfl) ?_
  refine OJ.run [0, 1, 2] [3] [0, 3, 4, 5, 20] (m2 := [(0, .pointer a0), (3, .pointer (some (pt b1 0))), (4, .pointer (some p4)), (5, .int .i64 r5.size), (20, .pointer (some (Addr.add p4 5)))]) (by kernel_rfl) (by kernel_rfl) ?_
  refine OJ.call (d := 21) (g := 60) (ats := #[102]) (args := [.tmp 20]) (vals := [.pointer (some (Addr.add p4 5))]) (owed := []) (by kernel_rfl) F60 (by kernel_rfl) (queue_line_queue_item_leave_ok (some (Addr.add p4 5))) (by kernel_rfl) (by kernel_rfl) (by kernel_rfl) (fun r6 => ?_)
  refine OW.nil ?_
  refine OJ.nil ?_
  refine SJ.seq (by kernel_rfl) ?_
  refine SJ.region (id := 4) (by kernel_rfl) [0, 1, 2, 3, 4, 5, 6, 7, 8] (by kernel_rfl) ?_
  refine OJ.run [0, 1, 2] [3, 4, 5, 6, 7, 8] [0, 3, 4, 5, 22, 24] (m2 := [(0, .pointer a0), (3, .pointer (some (pt b1 0))), (4, .pointer (some p4)), (5, .int .i64 r5.size), (22, .pointer (some p4)), (24, .pointer (some (Addr.add p4 8)))]) (by kernel_rfl) (by kernel_rfl) ?_
  refine OJ.ld (d := 25) (T := 3) (y := .tmp 24) (pend2 := fun x7 => []) (by kernel_rfl) (by kernel_rfl) Ty3 (by kernel_rfl) (by kernel_rfl) (fun _ => rfl) (fun x7 => ?_)
  refine OJ.run [4, 5, 6, 7] [8] [0, 3, 4, 5, 27, 29] (m2 := [(0, .pointer a0), (3, .pointer (some (pt b1 0))), (4, .pointer (some p4)), (5, .int .i64 r5.size), (27, .int .i64 (IntKind.wrap .i64 (x7 - r5.size))), (29, .pointer (some (Addr.add p4 8)))]) (by kernel_rfl) (by kernel_rfl) ?_
  refine OJ.st (T := 3) (y := .tmp 29) (z := .tmp 27) (owed := []) (by kernel_rfl) (by kernel_rfl) (by kernel_rfl) Ty3 (by kernel_rfl) (by kernel_rfl) ?_
  refine OW.nil ?_
  refine OJ.nil ?_
  refine SJ.seq (by kernel_rfl) ?_
  refine SJ.seq (by kernel_rfl) ?_
  refine SJ.region (id := 5) (by kernel_rfl) [0, 1, 2, 3, 4, 5] (by kernel_rfl) ?_
  refine OJ.run [0, 1, 2, 3] [4, 5] [0, 3, 4, 5, 33] (m2 := [(0, .pointer a0), (3, .pointer (some (pt b1 0))), (4, .pointer (some p4)), (5, .int .i64 r5.size), (33, .pointer (some (Addr.add p4 3)))]) (by kernel_rfl) (by kernel_rfl) ?_
  refine OJ.ld (d := 34) (T := 3) (y := .tmp 33) (pend2 := fun x8 => []) (by kernel_rfl) (by kernel_rfl) Ty3 (by kernel_rfl) (by kernel_rfl) (fun _ => rfl) (fun x8 => ?_)
  refine OJ.run [5] [] [0, 3, 4, 5, 35] (m2 := [(0, .pointer a0), (3, .pointer (some (pt b1 0))), (4, .pointer (some p4)), (5, .int .i64 r5.size), (35, .bool (decide (x8 > 0)))]) (by kernel_rfl) (by kernel_rfl) ?_
  refine OJ.nil ?_
  refine SJ.cond (t := (.tmp 35)) (b := decide (x8 > 0)) (by kernel_rfl) (by kernel_rfl) decide_eq_true_iff (fun hc23 => ?_) (fun hc23 => ?_)
  · refine SJ.region (id := 6) (by kernel_rfl) [0, 1, 2, 3, 4, 5, 6, 7, 8] (by kernel_rfl) ?_
    refine OJ.run [0, 1, 2] [3, 4, 5, 6, 7, 8] [0, 3, 4, 5, 36, 38] (m2 := [(0, .pointer a0), (3, .pointer (some (pt b1 0))), (4, .pointer (some p4)), (5, .int .i64 r5.size), (36, .pointer (some p4)), (38, .pointer (some (Addr.add p4 9)))]) (by kernel_rfl) (by kernel_rfl) ?_
    refine OJ.ld (d := 39) (T := 3) (y := .tmp 38) (pend2 := fun x22 => []) (by kernel_rfl) (by kernel_rfl) Ty3 (by kernel_rfl) (by kernel_rfl) (fun _ => rfl) (fun x22 => ?_)
    refine OJ.run [4, 5, 6, 7] [8] [0, 3, 4, 5, 41, 43] (m2 := [(0, .pointer a0), (3, .pointer (some (pt b1 0))), (4, .pointer (some p4)), (5, .int .i64 r5.size), (41, .int .i64 (IntKind.wrap .i64 (x22 - r5.size))), (43, .pointer (some (Addr.add p4 9)))]) (by kernel_rfl) (by kernel_rfl) ?_
    refine OJ.st (T := 3) (y := .tmp 43) (z := .tmp 41) (owed := []) (by kernel_rfl) (by kernel_rfl) (by kernel_rfl) Ty3 (by kernel_rfl) (by kernel_rfl) ?_
    refine OW.nil ?_
    refine OJ.nil ?_
    refine SJ.less [0, 3, 4, 5] (m' := [(0, .pointer a0), (3, .pointer (some (pt b1 0))), (4, .pointer (some p4)), (5, .int .i64 r5.size)]) (by kernel_rfl) ?_
    exact queue_Queue_take.K1_ok a0 a1 b1 p4 r5
  · refine SJ.skip (by kernel_rfl) ?_
    refine SJ.less [0, 3, 4, 5] (m' := [(0, .pointer a0), (3, .pointer (some (pt b1 0))), (4, .pointer (some p4)), (5, .int .i64 r5.size)]) (by kernel_rfl) ?_
    exact queue_Queue_take.K1_ok a0 a1 b1 p4 r5

/-! ### (*weir/queue.class).ready: function 58 -/
noncomputable def queue_class_ready.B : Code := (Try.f58.body).getD .skip
noncomputable def queue_class_ready.cx : Fx := ⟨Try.prog, 58, Try.f58⟩
noncomputable def queue_class_ready.out (r_ : Bool) : Value := .bool r_
noncomputable def queue_class_ready.F0 (r_ : Bool) : Reach := .ret (queue_class_ready.out r_)
noncomputable def queue_class_ready (a0 : (Option Addr)) : M Bool :=
  draw >>= fun _ =>
  nilck a0 >>= fun p1 =>
  ld (cI .i64) (Addr.add (Addr.add p1 5) 2) >>= fun x2 =>
  (if x2 > 0 then
      nilck a0 >>= fun p3 =>
      ld (cI .i64) (Addr.add p3 3) >>= fun x4 =>
      (if x4 = 0 then
          pure true
        else
          nilck a0 >>= fun p5 =>
          ld (cI .i64) (Addr.add p5 9) >>= fun x6 =>
          nilck a0 >>= fun p7 =>
          queue_line_queue_item_head (some (Addr.add p7 5)) >>= fun r8 =>
          same (cI .i64) (Addr.add p5 9) x6 >>= fun _ =>
          pure (decide (x6 ≥ r8.size))) >>= fun y9 =>
      pure y9
    else
      pure false) >>= fun y10 =>
  pure y10
theorem queue_class_ready_ok (a0 : (Option Addr)) : Ref Try.prog 58 [.pointer a0] (queue_class_ready a0) queue_class_ready.out := by
  refine Ref.of (cd := queue_class_ready.B) Try.func58 (by kernel_rfl) (by kernel_rfl) ?_
  show SJ queue_class_ready.cx [.code queue_class_ready.B] [(0, .pointer a0)] [] (queue_class_ready a0) queue_class_ready.F0
  unfold queue_class_ready
  refine SJ.seq (by kernel_rfl) ?_
  refine SJ.region (id := 0) (by kernel_rfl) [0] (by kernel_rfl) ?_
  refine OJ.run [0] [] [0] (m2 := [(0, .pointer a0)]) (by kernel_rfl) (by kernel_rfl) ?_
  refine OJ.nil ?_
  refine SJ.seq (by kernel_rfl) ?_
  refine SJ.draw (id := 1) (kd := [0, 0, 0, 0, 1, 0, 0, 0, 0, 0, 0, 1, 0, 0, 0, 0, 0, 1, 0, 0, 0, 2, 0, 0, 0, 0, 0]) (bef := [0, 1, 3, 7, 15, 31, 63, 127, 255, 511, 1023, 2047, 4095, 8191, 16383, 32767, 65535, 131071, 16383, 278527, 802815, 1851391, 3948543, 8388607, 16777215, 33554431, 67108863]) (ord := [0, 1, 2, 3, 4, 5, 6, 7, 8, 9, 10, 11, 12, 13, 14, 15, 16, 17, 18, 19, 20, 21, 22, 23, 24, 25, 26]) (by kernel_rfl) mixed (by kernel_rfl) ?_
  refine OJ.run [0] [1, 2, 3, 4, 5, 6, 7, 8, 9, 10, 11, 12, 13, 14, 15, 16, 17, 18, 19, 20, 21, 22, 23, 24, 25, 26] [0, 3] (m2 := [(0, .pointer a0), (3, .pointer a0)]) (by kernel_rfl) (by kernel_rfl) ?_
  refine OJ.nilck (d := 4) (y := .tmp 3) (by kernel_rfl) (by kernel_rfl) (by kernel_rfl) (by kernel_rfl) (by kernel_rfl) (fun p1 => ?_)
  refine OJ.run [2, 3] [4, 5, 6, 7, 8, 9, 10, 11, 12, 13, 14, 15, 16, 17, 18, 19, 20, 21, 22, 23, 24, 25, 26] [0, 6] (m2 := [(0, .pointer a0), (6, .pointer (some (Addr.add (Addr.add p1 5) 2)))]) (by kernel_rfl) (by kernel_rfl) ?_
  refine OJ.ld (d := 7) (T := 3) (y := .tmp 6) (pend2 := fun x2 => [⟨4, 3, (Addr.add (Addr.add p1 5) 2), (cI .i64).val x2⟩]) (by kernel_rfl) (by kernel_rfl) Ty3 (by kernel_rfl) (by kernel_rfl) (fun _ => rfl) (fun x2 => ?_)
  refine OJ.run [5, 6] [7, 8, 9, 10, 11, 12, 13, 14, 15, 16, 17, 18, 19, 20, 21, 22, 23, 24, 25, 26] [0, 9] (m2 := [(0, .pointer a0), (9, .bool (decide (x2 > 0)))]) (by kernel_rfl) (by kernel_rfl) ?_
  refine OJ.join (b := decide (x2 > 0)) [7, 8, 9, 10, 11, 12, 13, 14, 15, 16, 17, 18, 19, 20, 21, 22, 23, 24, 25] [26] [28] (fun y10 => [(28, .bool y10)]) [⟨4, 3, (Addr.add (Addr.add p1 5) 2), (cI .i64).val x2⟩] [11, 17] (by kernel_rfl) (t := 9) (by kernel_rfl) decide_eq_true_iff (fun hp_ => ?_) (fun hp_ => ?_) (by kernel_rfl) (fun _ _ _ _ _ _ h_ => h_) (fun y10 => ?_)
  · refine OJ.run [7] [8, 9, 10, 11, 12, 13, 14, 15, 16, 17, 18, 19, 20, 21, 22, 23, 24, 25] [0, 9, 10] (m2 := [(0, .pointer a0), (9, .bool true), (10, .pointer a0)]) (by kernel_rfl) (by kernel_rfl) ?_
    refine OJ.nilck (d := 11) (y := .tmp 10) (by kernel_rfl) (by kernel_rfl) (by kernel_rfl) (by kernel_rfl) (by kernel_rfl) (fun p3 => ?_)
    refine OJ.run [9, 10] [11, 12, 13, 14, 15, 16, 17, 18, 19, 20, 21, 22, 23, 24, 25] [0, 9, 13] (m2 := [(0, .pointer a0), (9, .bool true), (13, .pointer (some (Addr.add p3 3)))]) (by kernel_rfl) (by kernel_rfl) ?_
    refine OJ.ld (d := 14) (T := 3) (y := .tmp 13) (pend2 := fun x4 => [⟨11, 3, (Addr.add p3 3), (cI .i64).val x4⟩, ⟨4, 3, (Addr.add (Addr.add p1 5) 2), (cI .i64).val x2⟩]) (by kernel_rfl) (by kernel_rfl) Ty3 (by kernel_rfl) (by kernel_rfl) (fun _ => rfl) (fun x4 => ?_)
    refine OJ.run [12, 13] [14, 15, 16, 17, 18, 19, 20, 21, 22, 23, 24, 25] [0, 9, 16] (m2 := [(0, .pointer a0), (9, .bool true), (16, .bool (x4 == 0))]) (by kernel_rfl) (by kernel_rfl) ?_
    refine OJ.join (b := (x4 == 0)) [14, 15, 16, 17, 18, 19, 20, 21, 22, 23, 24] [25] [9, 27] (fun y9 => [(9, .bool true), (27, .bool y9)]) [⟨11, 3, (Addr.add p3 3), (cI .i64).val x4⟩, ⟨4, 3, (Addr.add (Addr.add p1 5) 2), (cI .i64).val x2⟩] [17] (by kernel_rfl) (t := 16) (by kernel_rfl) beq_iff_eq (fun hp_ => ?_) (fun hp_ => ?_) (by kernel_rfl) (fun _ _ _ _ _ hq_ h_ => ⟨fun e_ he_ => by rcases hq_ e_ he_ with h | h; exact h_.1 e_ h; exact .inr ((by decide : ∀ i ∈ [17], i ∈ [11, 17]) _ h), h_.2⟩) (fun y9 => ?_)
    · refine OJ.run [14, 15, 16, 17, 18, 19, 20, 21, 22, 23, 24] [] [9, 27] (m2 := [(9, .bool true), (27, .bool true)]) (by kernel_rfl) (by kernel_rfl) ?_
      exact OJ.nil ⟨(Cov.mem (Cov.keep (List.mem_of_getElem? (i := 0) rfl) (Cov.keep (List.mem_of_getElem? (i := 1) rfl) Cov.nil))), rfl, _, rfl, by kernel_rfl⟩
    · refine OJ.run [14] [15, 16, 17, 18, 19, 20, 21, 22, 23, 24] [0, 9, 16, 17] (m2 := [(0, .pointer a0), (9, .bool true), (16, .bool false), (17, .pointer a0)]) (by kernel_rfl) (by kernel_rfl) ?_
      refine OJ.nilck (d := 18) (y := .tmp 17) (by kernel_rfl) (by kernel_rfl) (by kernel_rfl) (by kernel_rfl) (by kernel_rfl) (fun p5 => ?_)
      refine OJ.run [16] [17, 18, 19, 20, 21, 22, 23, 24] [0, 9, 16, 19] (m2 := [(0, .pointer a0), (9, .bool true), (16, .bool false), (19, .pointer (some (Addr.add p5 9)))]) (by kernel_rfl) (by kernel_rfl) ?_
      refine OJ.ld (d := 20) (T := 3) (y := .tmp 19) (pend2 := fun x6 => [⟨17, 3, (Addr.add p5 9), (cI .i64).val x6⟩, ⟨11, 3, (Addr.add p3 3), (cI .i64).val x4⟩, ⟨4, 3, (Addr.add (Addr.add p1 5) 2), (cI .i64).val x2⟩]) (by kernel_rfl) (by kernel_rfl) Ty3 (by kernel_rfl) (by kernel_rfl) (fun _ => rfl) (fun x6 => ?_)
      refine OJ.run [18] [19, 20, 21, 22, 23, 24] [9, 16, 20, 21] (m2 := [(9, .bool true), (16, .bool false), (20, .int .i64 x6), (21, .pointer a0)]) (by kernel_rfl) (by kernel_rfl) ?_
      refine OJ.nilck (d := 22) (y := .tmp 21) (by kernel_rfl) (by kernel_rfl) (by kernel_rfl) (by kernel_rfl) (by kernel_rfl) (fun p7 => ?_)
      refine OJ.run [20] [21, 22, 23, 24] [9, 16, 20, 23] (m2 := [(9, .bool true), (16, .bool false), (20, .int .i64 x6), (23, .pointer (some (Addr.add p7 5)))]) (by kernel_rfl) (by kernel_rfl) ?_
      refine OJ.call (d := 24) (g := 59) (ats := #[102]) (args := [.tmp 23]) (vals := [.pointer (some (Addr.add p7 5))]) (owed := [⟨17, 3, (Addr.add p5 9), (cI .i64).val x6⟩]) (by kernel_rfl) F59 (by kernel_rfl) (queue_line_queue_item_head_ok (some (Addr.add p7 5))) (by kernel_rfl) (by kernel_rfl) (by kernel_rfl) (fun r8 => ?_)
      refine OW.same Ty3 ?_
      refine OW.nil ?_
      refine OJ.field (d := 25) (S := 107) (f := 0) (T := 3) (y := .tmp 24) (o := 0) (l := c_queue_item.enc r8) (cd := (cI .i64)) r8.size (by kernel_rfl) (by kernel_rfl) (by kernel_rfl) Ty3 (At_queue_item_size r8) (by kernel_rfl) (by kernel_rfl) (by kernel_rfl) ?_
      refine OJ.run [23, 24] [] [9, 27] (m2 := [(9, .bool true), (27, .bool (decide (x6 ≥ r8.size)))]) (by kernel_rfl) (by kernel_rfl) ?_
      exact OJ.nil ⟨(Cov.mem (Cov.drop (List.mem_of_getElem? (i := 0) rfl) (Cov.keep (List.mem_of_getElem? (i := 0) rfl) (Cov.keep (List.mem_of_getElem? (i := 1) rfl) Cov.nil)))), rfl, _, rfl, by kernel_rfl⟩
    · refine OJ.run [25] [] [28] (m2 := [(28, .bool y9)]) (by kernel_rfl) (by kernel_rfl) ?_
      exact OJ.nil ⟨(Cov.mem (Cov.drop (List.mem_of_getElem? (i := 0) rfl) (Cov.keep (List.mem_of_getElem? (i := 0) rfl) Cov.nil))), rfl, _, rfl, by kernel_rfl⟩
  · refine OJ.run [7, 8, 9, 10, 11, 12, 13, 14, 15, 16, 17, 18, 19, 20, 21, 22, 23, 24, 25] [] [28] (m2 := [(28, .bool false)]) (by kernel_rfl) (by kernel_rfl) ?_
    exact OJ.nil ⟨(Cov.mem (Cov.keep (List.mem_of_getElem? (i := 0) rfl) Cov.nil)), rfl, _, rfl, by kernel_rfl⟩
  · refine OJ.run [26] [] [2] (m2 := [(2, .bool y10)]) (by kernel_rfl) (by kernel_rfl) ?_
    refine OJ.nil ?_
    exact SJ.ret (by kernel_rfl) rfl (Res.run (ys := [.bool y10]) (.tmp (by kernel_rfl) .nil) rfl)

/-! ### (*weir/queue.Queue).next: function 46 -/
noncomputable def queue_Queue_next.B : Code := (Try.f46.body).getD .skip
noncomputable def queue_Queue_next.cx : Fx := ⟨Try.prog, 46, Try.f46⟩
noncomputable def queue_Queue_next.out (r_ : (Int × Int × Bool)) : Value := .tuple #[.int .i64 r_.1, .int .i64 r_.2.1, .bool r_.2.2]
noncomputable def queue_Queue_next.F0 (r_ : (Int × Int × Bool)) : Reach := .ret (queue_Queue_next.out r_)
noncomputable def queue_Queue_next.F1 (a0 : (Option Addr)) (a1v : Any) (b13 : Nat) : (LS queue_turn (Int × Int × Bool)) → Reach := loopF [.inLoop (c1 (c1 (c2 (c2 (c2 (c2 (c2 queue_Queue_next.B))))))), .inBlock 2] (fun s_ : queue_turn => [(0, .pointer a0), (1, a1v.v), (9, .pointer (some (pt b13 0)))]) (fun s_ : queue_turn => [(b13, c_queue_turn.enc s_)]) queue_Queue_next.F0
noncomputable def queue_Queue_next.K1 (a0 : (Option Addr)) (j47 : queue_turn) : M (LS queue_turn (Int × Int × Bool)) :=
  draw >>= fun _ =>
  nilck a0 >>= fun p48 =>
  ld cL p48 >>= fun x49 =>
  chk ((x49.len : Int) ≠ 0) >>= fun _ =>
  pure (LS.next (⟨j47.deficit, Int.tmod (IntKind.wrap .i64 (j47.at_ + 1)) (x49.len : Int), false⟩ : queue_turn))
theorem queue_Queue_next.K1_ok (a0 : (Option Addr)) (a1v : Any) (b13 : Nat) (j47 : queue_turn) :
    SJ queue_Queue_next.cx [.code (c2 (c2 (c2 (c1 (c1 (c1 (c2 (c2 (c2 (c2 (c2 queue_Queue_next.B))))))))))), .inBlock 3, .inLoop (c1 (c1 (c2 (c2 (c2 (c2 (c2 queue_Queue_next.B))))))), .inBlock 2] [(0, .pointer a0), (1, a1v.v), (9, .pointer (some (pt b13 0)))] [(b13, c_queue_turn.enc j47)] (queue_Queue_next.K1 a0 j47) (queue_Queue_next.F1 a0 a1v b13) := by
  unfold queue_Queue_next.K1
  refine SJ.seq (by kernel_rfl) ?_
  refine SJ.draw (id := 22) (kd := [0, 1, 0, 0, 0, 0, 1, 0, 0, 0, 2]) (bef := [0, 1, 3, 0, 8, 24, 56, 120, 255, 511, 1023]) (ord := [0, 1, 2, 3, 4, 5, 6, 7, 8, 9, 10]) (by kernel_rfl) mixed (by kernel_rfl) ?_
  refine OJ.run [0] [1, 2, 3, 4, 5, 6, 7, 8, 9, 10] [0, 1, 9, 110] (m2 := [(0, .pointer a0), (1, a1v.v), (9, .pointer (some (pt b13 0))), (110, .pointer (some (pt b13 8)))]) (by kernel_rfl) (by kernel_rfl) ?_
  refine OJ.kld (d := 111) (T := 3) (y := .tmp 110) (cd := (cI .i64)) (j := 0) (b := b13) (o := 8) j47.at_ (pend2 := [⟨1, 3, (pt b13 8), (cI .i64).val j47.at_⟩]) (by kernel_rfl) (by kernel_rfl) Ty3 (by kernel_rfl) rfl (At_queue_turn_at_ j47) (by kernel_rfl) rfl ?_
  refine OJ.run [2, 3] [4, 5, 6, 7, 8, 9, 10] [0, 1, 9, 112, 113] (m2 := [(0, .pointer a0), (1, a1v.v), (9, .pointer (some (pt b13 0))), (112, .int .i64 (IntKind.wrap .i64 (j47.at_ + 1))), (113, .pointer a0)]) (by kernel_rfl) (by kernel_rfl) ?_
  refine OJ.nilck (d := 114) (y := .tmp 113) (by kernel_rfl) (by kernel_rfl) (by kernel_rfl) (by kernel_rfl) (by kernel_rfl) (fun p48 => ?_)
  refine OJ.run [5] [6, 7, 8, 9, 10] [0, 1, 9, 112, 115] (m2 := [(0, .pointer a0), (1, a1v.v), (9, .pointer (some (pt b13 0))), (112, .int .i64 (IntKind.wrap .i64 (j47.at_ + 1))), (115, .pointer (some p48))]) (by kernel_rfl) (by kernel_rfl) ?_
  refine OJ.ld (d := 116) (T := 92) (y := .tmp 115) (pend2 := fun x49 => [⟨6, 92, p48, cL.val x49⟩, ⟨1, 3, (pt b13 8), (cI .i64).val j47.at_⟩]) (by kernel_rfl) (by kernel_rfl) Ty92 (by kernel_rfl) (by kernel_rfl) (fun _ => rfl) (fun x49 => ?_)
  refine OJ.run [7] [8, 9, 10] [0, 1, 9, 112, 117] (m2 := [(0, .pointer a0), (1, a1v.v), (9, .pointer (some (pt b13 0))), (112, .int .i64 (IntKind.wrap .i64 (j47.at_ + 1))), (117, .int .i64 (x49.len : Int))]) (by kernel_rfl) (by kernel_rfl) ?_
  refine OJ.rem (d := 118) (T := 3) (yT := 3) (y := .tmp 112) (z := .tmp 117) (p := (IntKind.wrap .i64 (j47.at_ + 1))) (q := (x49.len : Int)) (k := .i64) (by kernel_rfl) (by kernel_rfl) (by kernel_rfl) (by kernel_rfl) (by kernel_rfl) (by kernel_rfl) (fun hq50 => ?_)
  refine OJ.run [9] [10] [0, 1, 9, 118, 119] (m2 := [(0, .pointer a0), (1, a1v.v), (9, .pointer (some (pt b13 0))), (118, .int .i64 (Int.tmod (IntKind.wrap .i64 (j47.at_ + 1)) (x49.len : Int))), (119, .pointer (some (pt b13 8)))]) (by kernel_rfl) (by kernel_rfl) ?_
  refine OJ.kst (T := 3) (y := .tmp 119) (z := .tmp 118) (cd := (cI .i64)) (u := (Int.tmod (IntKind.wrap .i64 (j47.at_ + 1)) (x49.len : Int))) (j := 0) (b := b13) (o := 8) (c_queue_turn.enc (⟨j47.deficit, Int.tmod (IntKind.wrap .i64 (j47.at_ + 1)) (x49.len : Int), j47.given⟩ : queue_turn)) (h2 := [(b13, c_queue_turn.enc (⟨j47.deficit, Int.tmod (IntKind.wrap .i64 (j47.at_ + 1)) (x49.len : Int), j47.given⟩ : queue_turn))]) (owed := []) (by kernel_rfl) (by kernel_rfl) (by kernel_rfl) Ty3 rfl (Up_queue_turn_at_ j47 (Int.tmod (IntKind.wrap .i64 (j47.at_ + 1)) (x49.len : Int))) (by kernel_rfl) (by kernel_rfl) rfl ?_
  refine OW.nil ?_
  refine OJ.nil ?_
  refine SJ.region (id := 23) (by kernel_rfl) [0, 1] (by kernel_rfl) ?_
  refine OJ.run [0] [1] [0, 1, 9, 120] (m2 := [(0, .pointer a0), (1, a1v.v), (9, .pointer (some (pt b13 0))), (120, .pointer (some (pt b13 9)))]) (by kernel_rfl) (by kernel_rfl) ?_
  refine OJ.kst (T := 4) (y := .tmp 120) (z := .const (.bool false)) (cd := cB) (u := false) (j := 0) (b := b13) (o := 9) (c_queue_turn.enc (⟨j47.deficit, Int.tmod (IntKind.wrap .i64 (j47.at_ + 1)) (x49.len : Int), false⟩ : queue_turn)) (h2 := [(b13, c_queue_turn.enc (⟨j47.deficit, Int.tmod (IntKind.wrap .i64 (j47.at_ + 1)) (x49.len : Int), false⟩ : queue_turn))]) (owed := []) (by kernel_rfl) (by kernel_rfl) (by kernel_rfl) Ty4 rfl (Up_queue_turn_given (⟨j47.deficit, Int.tmod (IntKind.wrap .i64 (j47.at_ + 1)) (x49.len : Int), j47.given⟩ : queue_turn) false) (by kernel_rfl) (by kernel_rfl) rfl ?_
  refine OW.nil ?_
  refine OJ.nil ?_
  refine SJ.inBlock ?_
  exact SJ.at_ [0, 1, 9] rfl (by kernel_rfl)
noncomputable def queue_Queue_next.K2 (a0 : (Option Addr)) (p17 : Addr) (j38 : queue_turn) : M (LS queue_turn (Int × Int × Bool)) :=
  ld (cI .i64) (Addr.add (Addr.add p17 5) 2) >>= fun x39 =>
  (if x39 > 0 then
      queue_class_ready (some p17) >>= fun r40 =>
      pure (!r40)
    else
      pure false) >>= fun y41 =>
  if y41 = true then
    draw >>= fun _ =>
    chk (0 ≤ j38.at_ ∧ j38.at_ < (8 : Nat)) >>= fun _ =>
    queue_line_queue_item_head (some (Addr.add p17 5)) >>= fun r53 =>
    chk (0 ≤ j38.at_ ∧ j38.at_ < (8 : Nat)) >>= fun _ =>
    queue_Queue_next.K1 a0 (⟨(Vec.s j38.deficit j38.at_ (if r53.size < (Vec.g j38.deficit j38.at_ 0) then r53.size else (Vec.g j38.deficit j38.at_ 0))), j38.at_, j38.given⟩ : queue_turn)
  else
    queue_Queue_next.K1 a0 j38
theorem queue_Queue_next.K2_ok (a0 : (Option Addr)) (a1v : Any) (b13 : Nat) (p17 : Addr) (j38 : queue_turn) :
    SJ queue_Queue_next.cx [.code (c2 (c2 (c1 (c1 (c1 (c2 (c2 (c2 (c2 (c2 queue_Queue_next.B)))))))))), .inBlock 3, .inLoop (c1 (c1 (c2 (c2 (c2 (c2 (c2 queue_Queue_next.B))))))), .inBlock 2] [(0, .pointer a0), (1, a1v.v), (9, .pointer (some (pt b13 0))), (10, .pointer (some p17))] [(b13, c_queue_turn.enc j38)] (queue_Queue_next.K2 a0 p17 j38) (queue_Queue_next.F1 a0 a1v b13) := by
  unfold queue_Queue_next.K2
  refine SJ.seq (by kernel_rfl) ?_
  refine SJ.seq (by kernel_rfl) ?_
  refine SJ.region (id := 20) (by kernel_rfl) [0, 1, 2, 3, 4, 5, 6, 7, 8, 9, 10] (by kernel_rfl) ?_
  refine OJ.run [0, 1, 2, 3] [4, 5, 6, 7, 8, 9, 10] [0, 1, 9, 10, 87] (m2 := [(0, .pointer a0), (1, a1v.v), (9, .pointer (some (pt b13 0))), (10, .pointer (some p17)), (87, .pointer (some (Addr.add (Addr.add p17 5) 2)))]) (by kernel_rfl) (by kernel_rfl) ?_
  refine OJ.ld (d := 88) (T := 3) (y := .tmp 87) (pend2 := fun x39 => []) (by kernel_rfl) (by kernel_rfl) Ty3 (by kernel_rfl) (by kernel_rfl) (fun _ => rfl) (fun x39 => ?_)
  refine OJ.run [5, 6] [7, 8, 9, 10] [0, 1, 9, 10, 90] (m2 := [(0, .pointer a0), (1, a1v.v), (9, .pointer (some (pt b13 0))), (10, .pointer (some p17)), (90, .bool (decide (x39 > 0)))]) (by kernel_rfl) (by kernel_rfl) ?_
  refine OJ.join (b := decide (x39 > 0)) [7, 8, 9, 10] [] [0, 1, 9, 10, 94] (fun y41 => [(0, .pointer a0), (1, a1v.v), (9, .pointer (some (pt b13 0))), (10, .pointer (some p17)), (94, .bool y41)]) [] [] (by kernel_rfl) (t := 90) (by kernel_rfl) decide_eq_true_iff (fun hp_ => ?_) (fun hp_ => ?_) (by kernel_rfl) (fun _ _ _ _ _ _ h_ => h_) (fun y41 => ?_)
  · refine OJ.run [7] [8, 9, 10] [0, 1, 9, 10, 90, 91] (m2 := [(0, .pointer a0), (1, a1v.v), (9, .pointer (some (pt b13 0))), (10, .pointer (some p17)), (90, .bool true), (91, .pointer (some p17))]) (by kernel_rfl) (by kernel_rfl) ?_
    refine OJ.call (d := 92) (g := 58) (ats := #[99]) (args := [.tmp 91]) (vals := [.pointer (some p17)]) (owed := []) (by kernel_rfl) F58 (by kernel_rfl) (queue_class_ready_ok (some p17)) (by kernel_rfl) (by kernel_rfl) (by kernel_rfl) (fun r40 => ?_)
    refine OW.nil ?_
    refine OJ.run [9, 10] [] [0, 1, 9, 10, 94] (m2 := [(0, .pointer a0), (1, a1v.v), (9, .pointer (some (pt b13 0))), (10, .pointer (some p17)), (94, .bool (!r40))]) (by kernel_rfl) (by kernel_rfl) ?_
    exact OJ.nil ⟨(Cov.mem Cov.nil), rfl, _, rfl, by kernel_rfl⟩
  · refine OJ.run [7, 8, 9, 10] [] [0, 1, 9, 10, 94] (m2 := [(0, .pointer a0), (1, a1v.v), (9, .pointer (some (pt b13 0))), (10, .pointer (some p17)), (94, .bool false)]) (by kernel_rfl) (by kernel_rfl) ?_
    exact OJ.nil ⟨(Cov.mem Cov.nil), rfl, _, rfl, by kernel_rfl⟩
  · refine OJ.nil ?_
    refine SJ.cond (t := (.tmp 94)) (b := y41) (by kernel_rfl) (by kernel_rfl) Iff.rfl (fun hc56 => ?_) (fun hc56 => ?_)
    · refine SJ.draw (id := 21) (kd := [0, 1, 0, 1, 0, 0, 1, 0, 0, 0, 2, 0, 0, 0, 0, 2]) (bef := [0, 1, 0, 4, 0, 28, 60, 0, 128, 384, 896, 1920, 4092, 0, 16383, 32767]) (ord := [0, 1, 2, 3, 4, 5, 6, 7, 8, 9, 10, 11, 12, 13, 14, 15]) (by kernel_rfl) mixed (by kernel_rfl) ?_
      refine OJ.run [0] [1, 2, 3, 4, 5, 6, 7, 8, 9, 10, 11, 12, 13, 14, 15] [0, 1, 9, 10, 95] (m2 := [(0, .pointer a0), (1, a1v.v), (9, .pointer (some (pt b13 0))), (10, .pointer (some p17)), (95, .pointer (some (pt b13 8)))]) (by kernel_rfl) (by kernel_rfl) ?_
      refine OJ.kld (d := 96) (T := 3) (y := .tmp 95) (cd := (cI .i64)) (j := 0) (b := b13) (o := 8) j38.at_ (pend2 := [⟨1, 3, (pt b13 8), (cI .i64).val j38.at_⟩]) (by kernel_rfl) (by kernel_rfl) Ty3 (by kernel_rfl) rfl (At_queue_turn_at_ j38) (by kernel_rfl) rfl ?_
      refine OJ.run [2] [3, 4, 5, 6, 7, 8, 9, 10, 11, 12, 13, 14, 15] [0, 1, 9, 10, 96, 97] (m2 := [(0, .pointer a0), (1, a1v.v), (9, .pointer (some (pt b13 0))), (10, .pointer (some p17)), (96, .int .i64 j38.at_), (97, .pointer (some (pt b13 8)))]) (by kernel_rfl) (by kernel_rfl) ?_
      refine OJ.kld (d := 98) (T := 3) (y := .tmp 97) (cd := (cI .i64)) (j := 0) (b := b13) (o := 8) j38.at_ (pend2 := [⟨3, 3, (pt b13 8), (cI .i64).val j38.at_⟩, ⟨1, 3, (pt b13 8), (cI .i64).val j38.at_⟩]) (by kernel_rfl) (by kernel_rfl) Ty3 (by kernel_rfl) rfl (At_queue_turn_at_ j38) (by kernel_rfl) rfl ?_
      refine OJ.run [4] [5, 6, 7, 8, 9, 10, 11, 12, 13, 14, 15] [0, 1, 9, 10, 96, 98, 99] (m2 := [(0, .pointer a0), (1, a1v.v), (9, .pointer (some (pt b13 0))), (10, .pointer (some p17)), (96, .int .i64 j38.at_), (98, .int .i64 j38.at_), (99, .pointer (some (pt b13 0)))]) (by kernel_rfl) (by kernel_rfl) ?_
      refine OJ.idxK (d := 100) (T := 93) (y := .tmp 99) (j := .tmp 98) (E := 3) (sz := 1) (b := b13) (o := 0) (k := .i64) (by kernel_rfl) (by kernel_rfl) (by kernel_rfl) (by kernel_rfl) (by kernel_rfl) (by kernel_rfl) (by kernel_rfl) (by kernel_rfl) (fun hb51 hb52 => ?_)
      refine OJ.kld (d := 101) (T := 3) (y := .tmp 100) (cd := (cI .i64)) (j := 0) (b := b13) (o := (0 + j38.at_.toNat * 1)) (Vec.g j38.deficit j38.at_ 0) (pend2 := [⟨6, 3, (pt b13 (0 + j38.at_.toNat * 1)), (cI .i64).val (Vec.g j38.deficit j38.at_ 0)⟩, ⟨3, 3, (pt b13 8), (cI .i64).val j38.at_⟩, ⟨1, 3, (pt b13 8), (cI .i64).val j38.at_⟩]) (by kernel_rfl) (by kernel_rfl) Ty3 (by kernel_rfl) rfl (At.trans (At_queue_turn_deficit j38) (At.arr (z := 0) hb51 hb52)) (by kernel_rfl) rfl ?_
      refine OJ.run [7, 8, 9] [10, 11, 12, 13, 14, 15] [0, 1, 9, 96, 101, 104] (m2 := [(0, .pointer a0), (1, a1v.v), (9, .pointer (some (pt b13 0))), (96, .int .i64 j38.at_), (101, .int .i64 (Vec.g j38.deficit j38.at_ 0)), (104, .pointer (some (Addr.add p17 5)))]) (by kernel_rfl) (by kernel_rfl) ?_
      refine OJ.call (d := 105) (g := 59) (ats := #[102]) (args := [.tmp 104]) (vals := [.pointer (some (Addr.add p17 5))]) (owed := [⟨6, 3, (pt b13 (0 + j38.at_.toNat * 1)), (cI .i64).val (Vec.g j38.deficit j38.at_ 0)⟩, ⟨3, 3, (pt b13 8), (cI .i64).val j38.at_⟩, ⟨1, 3, (pt b13 8), (cI .i64).val j38.at_⟩]) (by kernel_rfl) F59 (by kernel_rfl) (queue_line_queue_item_head_ok (some (Addr.add p17 5))) (by kernel_rfl) (by kernel_rfl) (by kernel_rfl) (fun r53 => ?_)
      refine OW.known (j := 0) (q := (Vec.g j38.deficit j38.at_ 0)) Ty3 rfl (At.trans (At_queue_turn_deficit j38) (At.arr (z := 0) hb51 hb52)) ?_
      refine OW.known (j := 0) (q := j38.at_) Ty3 rfl (At_queue_turn_at_ j38) ?_
      refine OW.known (j := 0) (q := j38.at_) Ty3 rfl (At_queue_turn_at_ j38) ?_
      refine OW.nil ?_
      refine OJ.field (d := 106) (S := 107) (f := 0) (T := 3) (y := .tmp 105) (o := 0) (l := c_queue_item.enc r53) (cd := (cI .i64)) r53.size (by kernel_rfl) (by kernel_rfl) (by kernel_rfl) Ty3 (At_queue_item_size r53) (by kernel_rfl) (by kernel_rfl) (by kernel_rfl) ?_
      refine OJ.min (d := 107) (t := 3) (u := 3) (so := .tmp 101) (xo := .tmp 106) (k := .i64) (p := (Vec.g j38.deficit j38.at_ 0)) (q := r53.size) (by kernel_rfl) (by kernel_rfl) (by kernel_rfl) (by kernel_rfl) (by kernel_rfl) (by kernel_rfl) ?_
      refine OJ.run [13] [14, 15] [0, 1, 9, 96, 107, 108] (m2 := [(0, .pointer a0), (1, a1v.v), (9, .pointer (some (pt b13 0))), (96, .int .i64 j38.at_), (107, .int .i64 (if r53.size < (Vec.g j38.deficit j38.at_ 0) then r53.size else (Vec.g j38.deficit j38.at_ 0))), (108, .pointer (some (pt b13 0)))]) (by kernel_rfl) (by kernel_rfl) ?_
      refine OJ.idxK (d := 109) (T := 93) (y := .tmp 108) (j := .tmp 96) (E := 3) (sz := 1) (b := b13) (o := 0) (k := .i64) (by kernel_rfl) (by kernel_rfl) (by kernel_rfl) (by kernel_rfl) (by kernel_rfl) (by kernel_rfl) (by kernel_rfl) (by kernel_rfl) (fun hb54 hb55 => ?_)
      refine OJ.kst (T := 3) (y := .tmp 109) (z := .tmp 107) (cd := (cI .i64)) (u := (if r53.size < (Vec.g j38.deficit j38.at_ 0) then r53.size else (Vec.g j38.deficit j38.at_ 0))) (j := 0) (b := b13) (o := (0 + j38.at_.toNat * 1)) (c_queue_turn.enc (⟨(Vec.s j38.deficit j38.at_ (if r53.size < (Vec.g j38.deficit j38.at_ 0) then r53.size else (Vec.g j38.deficit j38.at_ 0))), j38.at_, j38.given⟩ : queue_turn)) (h2 := [(b13, c_queue_turn.enc (⟨(Vec.s j38.deficit j38.at_ (if r53.size < (Vec.g j38.deficit j38.at_ 0) then r53.size else (Vec.g j38.deficit j38.at_ 0))), j38.at_, j38.given⟩ : queue_turn))]) (owed := []) (by kernel_rfl) (by kernel_rfl) (by kernel_rfl) Ty3 rfl (Upd.trans (At_queue_turn_deficit j38) (Upd.arr hb54 hb55) (Up_queue_turn_deficit j38 (Vec.s j38.deficit j38.at_ (if r53.size < (Vec.g j38.deficit j38.at_ 0) then r53.size else (Vec.g j38.deficit j38.at_ 0))))) (by kernel_rfl) (by kernel_rfl) rfl ?_
      refine OW.nil ?_
      refine OJ.nil ?_
      refine SJ.less [0, 1, 9] (m' := [(0, .pointer a0), (1, a1v.v), (9, .pointer (some (pt b13 0)))]) (by kernel_rfl) ?_
      exact queue_Queue_next.K1_ok a0 a1v b13 (⟨(Vec.s j38.deficit j38.at_ (if r53.size < (Vec.g j38.deficit j38.at_ 0) then r53.size else (Vec.g j38.deficit j38.at_ 0))), j38.at_, j38.given⟩ : queue_turn)
    · refine SJ.skip (by kernel_rfl) ?_
      refine SJ.less [0, 1, 9] (m' := [(0, .pointer a0), (1, a1v.v), (9, .pointer (some (pt b13 0)))]) (by kernel_rfl) ?_
      exact queue_Queue_next.K1_ok a0 a1v b13 j38
noncomputable def queue_Queue_next.K3 (a0 : (Option Addr)) (a1 : queue_turn → M Unit) (p17 : Addr) (j62 : queue_turn) : M (LS queue_turn (Int × Int × Bool)) :=
  queue_line_queue_item_head (some (Addr.add p17 5)) >>= fun r63 =>
  slot 107 >>= fun b64 =>
  draw >>= fun _ =>
  chk (0 ≤ j62.at_ ∧ j62.at_ < (8 : Nat)) >>= fun _ =>
  if r63.size ≤ (Vec.g j62.deficit j62.at_ 0) then
    a1 j62 >>= fun r68 =>
    pure (LS.done (r63.id, j62.at_, true))
  else
    queue_Queue_next.K2 a0 p17 j62
theorem queue_Queue_next.K3_ok (a0 : (Option Addr)) (a1v : Any) (a1 : queue_turn → M Unit) (h_a1 : ∀ (x0_ : queue_turn), RefV Try.prog a1v.v [c_queue_turn.val x0_] (a1 x0_) (fun r_ : Unit => .tuple #[])) (b13 : Nat) (p17 : Addr) (j62 : queue_turn) :
    SJ queue_Queue_next.cx [.code (c2 (c1 (c2 (c1 (c2 (c1 (c1 (c1 (c2 (c2 (c2 (c2 (c2 queue_Queue_next.B))))))))))))), .code (c2 (c2 (c1 (c1 (c1 (c2 (c2 (c2 (c2 (c2 queue_Queue_next.B)))))))))), .inBlock 3, .inLoop (c1 (c1 (c2 (c2 (c2 (c2 (c2 queue_Queue_next.B))))))), .inBlock 2] [(0, .pointer a0), (1, a1v.v), (9, .pointer (some (pt b13 0))), (10, .pointer (some p17))] [(b13, c_queue_turn.enc j62)] (queue_Queue_next.K3 a0 a1 p17 j62) (queue_Queue_next.F1 a0 a1v b13) := by
  unfold queue_Queue_next.K3
  refine SJ.seq (by kernel_rfl) ?_
  refine SJ.region (id := 15) (by kernel_rfl) [0, 1, 2, 3, 4, 5] (by kernel_rfl) ?_
  refine OJ.run [0, 1, 2] [3, 4, 5] [0, 1, 9, 10, 66] (m2 := [(0, .pointer a0), (1, a1v.v), (9, .pointer (some (pt b13 0))), (10, .pointer (some p17)), (66, .pointer (some (Addr.add p17 5)))]) (by kernel_rfl) (by kernel_rfl) ?_
  refine OJ.call (d := 67) (g := 59) (ats := #[102]) (args := [.tmp 66]) (vals := [.pointer (some (Addr.add p17 5))]) (owed := []) (by kernel_rfl) F59 (by kernel_rfl) (queue_line_queue_item_head_ok (some (Addr.add p17 5))) (by kernel_rfl) (by kernel_rfl) (by kernel_rfl) (fun r63 => ?_)
  refine OW.nil ?_
  refine OJ.slotOf (d := 11) (op := (.alloc 107)) (cd := c_queue_item) (u := z_queue_item) (owed := []) (by kernel_rfl) (alloc_run Ty107) (by kernel_rfl) (by kernel_rfl) (by kernel_rfl) (fun b64 => ?_)
  refine OW.nil ?_
  refine OJ.kst (T := 107) (y := .tmp 11) (z := .tmp 67) (cd := c_queue_item) (u := r63) (j := 0) (b := b64) (o := 0) (c_queue_item.enc r63) (h2 := [(b64, c_queue_item.enc r63), (b13, c_queue_turn.enc j62)]) (owed := []) (by kernel_rfl) (by kernel_rfl) (by kernel_rfl) Ty107 rfl (Upd.whole ((Cod.len _ _).trans (Cod.len _ _).symm)) (by kernel_rfl) (by kernel_rfl) rfl ?_
  refine OW.nil ?_
  refine OJ.nil ?_
  refine SJ.seq (by kernel_rfl) ?_
  refine SJ.draw (id := 16) (kd := [0, 1, 0, 1, 0, 0, 1, 0]) (bef := [0, 1, 0, 4, 0, 28, 60, 127]) (ord := [0, 1, 2, 3, 4, 5, 6, 7]) (by kernel_rfl) mixed (by kernel_rfl) ?_
  refine OJ.run [0] [1, 2, 3, 4, 5, 6, 7] [0, 1, 9, 10, 11, 68] (m2 := [(0, .pointer a0), (1, a1v.v), (9, .pointer (some (pt b13 0))), (10, .pointer (some p17)), (11, .pointer (some (pt b64 0))), (68, .pointer (some (pt b64 0)))]) (by kernel_rfl) (by kernel_rfl) ?_
  refine OJ.kld (d := 69) (T := 3) (y := .tmp 68) (cd := (cI .i64)) (j := 0) (b := b64) (o := 0) r63.size (pend2 := [⟨1, 3, (pt b64 0), (cI .i64).val r63.size⟩]) (by kernel_rfl) (by kernel_rfl) Ty3 (by kernel_rfl) rfl (At_queue_item_size r63) (by kernel_rfl) rfl ?_
  refine OJ.run [2] [3, 4, 5, 6, 7] [0, 1, 9, 10, 11, 69, 70] (m2 := [(0, .pointer a0), (1, a1v.v), (9, .pointer (some (pt b13 0))), (10, .pointer (some p17)), (11, .pointer (some (pt b64 0))), (69, .int .i64 r63.size), (70, .pointer (some (pt b13 8)))]) (by kernel_rfl) (by kernel_rfl) ?_
  refine OJ.kld (d := 71) (T := 3) (y := .tmp 70) (cd := (cI .i64)) (j := 1) (b := b13) (o := 8) j62.at_ (pend2 := [⟨3, 3, (pt b13 8), (cI .i64).val j62.at_⟩, ⟨1, 3, (pt b64 0), (cI .i64).val r63.size⟩]) (by kernel_rfl) (by kernel_rfl) Ty3 (by kernel_rfl) rfl (At_queue_turn_at_ j62) (by kernel_rfl) rfl ?_
  refine OJ.run [4] [5, 6, 7] [0, 1, 9, 10, 11, 69, 71, 72] (m2 := [(0, .pointer a0), (1, a1v.v), (9, .pointer (some (pt b13 0))), (10, .pointer (some p17)), (11, .pointer (some (pt b64 0))), (69, .int .i64 r63.size), (71, .int .i64 j62.at_), (72, .pointer (some (pt b13 0)))]) (by kernel_rfl) (by kernel_rfl) ?_
  refine OJ.idxK (d := 73) (T := 93) (y := .tmp 72) (j := .tmp 71) (E := 3) (sz := 1) (b := b13) (o := 0) (k := .i64) (by kernel_rfl) (by kernel_rfl) (by kernel_rfl) (by kernel_rfl) (by kernel_rfl) (by kernel_rfl) (by kernel_rfl) (by kernel_rfl) (fun hb65 hb66 => ?_)
  refine OJ.kld (d := 74) (T := 3) (y := .tmp 73) (cd := (cI .i64)) (j := 1) (b := b13) (o := (0 + j62.at_.toNat * 1)) (Vec.g j62.deficit j62.at_ 0) (pend2 := [⟨6, 3, (pt b13 (0 + j62.at_.toNat * 1)), (cI .i64).val (Vec.g j62.deficit j62.at_ 0)⟩, ⟨3, 3, (pt b13 8), (cI .i64).val j62.at_⟩, ⟨1, 3, (pt b64 0), (cI .i64).val r63.size⟩]) (by kernel_rfl) (by kernel_rfl) Ty3 (by kernel_rfl) rfl (At.trans (At_queue_turn_deficit j62) (At.arr (z := 0) hb65 hb66)) (by kernel_rfl) rfl ?_
  refine OJ.run [7] [] [0, 1, 9, 10, 11, 75] (m2 := [(0, .pointer a0), (1, a1v.v), (9, .pointer (some (pt b13 0))), (10, .pointer (some p17)), (11, .pointer (some (pt b64 0))), (75, .bool (decide (r63.size ≤ (Vec.g j62.deficit j62.at_ 0))))]) (by kernel_rfl) (by kernel_rfl) ?_
  refine OJ.nil ?_
  refine SJ.cond (t := (.tmp 75)) (b := decide (r63.size ≤ (Vec.g j62.deficit j62.at_ 0))) (by kernel_rfl) (by kernel_rfl) decide_eq_true_iff (fun hc69 => ?_) (fun hc69 => ?_)
  · refine SJ.seq (by kernel_rfl) ?_
    refine SJ.region (id := 17) (by kernel_rfl) [0, 1, 2] (by kernel_rfl) ?_
    refine OJ.run [0] [1, 2] [1, 9, 11, 76] (m2 := [(1, a1v.v), (9, .pointer (some (pt b13 0))), (11, .pointer (some (pt b64 0))), (76, .pointer (some (pt b13 8)))]) (by kernel_rfl) (by kernel_rfl) ?_
    refine OJ.kld (d := 77) (T := 3) (y := .tmp 76) (cd := (cI .i64)) (j := 1) (b := b13) (o := 8) j62.at_ (pend2 := []) (by kernel_rfl) (by kernel_rfl) Ty3 (by kernel_rfl) rfl (At_queue_turn_at_ j62) (by kernel_rfl) rfl ?_
    refine OJ.run [2] [] [1, 9, 11, 12] (m2 := [(1, a1v.v), (9, .pointer (some (pt b13 0))), (11, .pointer (some (pt b64 0))), (12, .int .i64 j62.at_)]) (by kernel_rfl) (by kernel_rfl) ?_
    refine OJ.nil ?_
    refine SJ.seq (by kernel_rfl) ?_
    refine SJ.region (id := 18) (by kernel_rfl) [0, 1, 2] (by kernel_rfl) ?_
    refine OJ.run [0] [1, 2] [9, 11, 12, 78] (m2 := [(9, .pointer (some (pt b13 0))), (11, .pointer (some (pt b64 0))), (12, .int .i64 j62.at_), (78, a1v.v)]) (by kernel_rfl) (by kernel_rfl) ?_
    refine OJ.kld (d := 79) (T := 95) (y := .tmp 9) (cd := c_queue_turn) (j := 1) (b := b13) (o := 0) j62 (pend2 := []) (by kernel_rfl) (by kernel_rfl) Ty95 (by kernel_rfl) rfl (At.whole _) (by kernel_rfl) rfl ?_
    refine OJ.callV1 (d := 80) (ats := #[95]) (args := [.tmp 79]) (fo := .tmp 78) (vals := [c_queue_turn.val j62]) (owed := []) (by kernel_rfl) (by kernel_rfl) (by kernel_rfl) (h_a1 j62) (by kernel_rfl) (by kernel_rfl) (by kernel_rfl) (fun r68 => ?_)
    refine OW.nil ?_
    refine OJ.nil ?_
    refine SJ.seq (by kernel_rfl) ?_
    refine SJ.region (id := 19) (by kernel_rfl) [0, 1, 2, 3, 4, 5] (by kernel_rfl) ?_
    refine OJ.run [0] [1, 2, 3, 4, 5] [12, 81] (m2 := [(12, .int .i64 j62.at_), (81, .pointer (some (pt b64 1)))]) (by kernel_rfl) (by kernel_rfl) ?_
    refine OJ.kld (d := 82) (T := 3) (y := .tmp 81) (cd := (cI .i64)) (j := 0) (b := b64) (o := 1) r63.id (pend2 := []) (by kernel_rfl) (by kernel_rfl) Ty3 (by kernel_rfl) rfl (At_queue_item_id r63) (by kernel_rfl) rfl ?_
    refine OJ.run [2, 3, 4, 5] [] [4, 5, 6] (m2 := [(4, .int .i64 r63.id), (5, .int .i64 j62.at_), (6, .bool true)]) (by kernel_rfl) (by kernel_rfl) ?_
    refine OJ.nil ?_
    exact SJ.ret (by kernel_rfl) rfl (Res.run (ys := [.int .i64 r63.id, .int .i64 j62.at_, .bool true]) (.tmp (by kernel_rfl) (.tmp (by kernel_rfl) (.tmp (by kernel_rfl) .nil))) rfl)
  · refine SJ.skip (by kernel_rfl) ?_
    refine SJ.forget (List.Sublist.cons _ (List.Sublist.cons_cons _ List.Sublist.slnil)) ?_
    refine SJ.less [0, 1, 9, 10] (m' := [(0, .pointer a0), (1, a1v.v), (9, .pointer (some (pt b13 0))), (10, .pointer (some p17))]) (by kernel_rfl) ?_
    exact queue_Queue_next.K2_ok a0 a1v b13 p17 j62
noncomputable def queue_Queue_next.L1 (a0 : (Option Addr)) (a1 : queue_turn → M Unit) (s14 : queue_turn) : M (LS queue_turn (Int × Int × Bool)) :=
  draw >>= fun _ =>
  nilck a0 >>= fun p15 =>
  ld cL p15 >>= fun x16 =>
  idx x16.a x16.len s14.at_ 10 >>= fun p17 =>
  queue_class_ready (some p17) >>= fun r18 =>
  if r18 = true then
    if ¬ (s14.given = true) then
      draw >>= fun _ =>
      chk (0 ≤ s14.at_ ∧ s14.at_ < (8 : Nat)) >>= fun _ =>
      ld (cI .i64) p17 >>= fun x72 =>
      chk (0 ≤ s14.at_ ∧ s14.at_ < (8 : Nat)) >>= fun _ =>
      queue_Queue_next.K3 a0 a1 p17 (⟨(Vec.s s14.deficit s14.at_ (IntKind.wrap .i64 ((Vec.g s14.deficit s14.at_ 0) + x72))), s14.at_, true⟩ : queue_turn)
    else
      queue_Queue_next.K3 a0 a1 p17 s14
  else
    queue_Queue_next.K2 a0 p17 s14
theorem queue_Queue_next.L1_ok (a0 : (Option Addr)) (a1v : Any) (a1 : queue_turn → M Unit) (h_a1 : ∀ (x0_ : queue_turn), RefV Try.prog a1v.v [c_queue_turn.val x0_] (a1 x0_) (fun r_ : Unit => .tuple #[])) (b13 : Nat) (s14 : queue_turn) :
    SJ queue_Queue_next.cx [.code (c1 (c1 (c2 (c2 (c2 (c2 (c2 queue_Queue_next.B))))))), .inLoop (c1 (c1 (c2 (c2 (c2 (c2 (c2 queue_Queue_next.B))))))), .inBlock 2] [(0, .pointer a0), (1, a1v.v), (9, .pointer (some (pt b13 0)))] [(b13, c_queue_turn.enc s14)] (queue_Queue_next.L1 a0 a1 s14) (queue_Queue_next.F1 a0 a1v b13) := by
  unfold queue_Queue_next.L1
  refine SJ.block (id := 3) (by kernel_rfl) ?_
  refine SJ.seq (by kernel_rfl) ?_
  refine SJ.draw (id := 10) (kd := [0, 0, 0, 1, 0, 1, 0, 0]) (bef := [0, 1, 3, 7, 0, 16, 63, 127]) (ord := [0, 1, 2, 3, 4, 5, 6, 7]) (by kernel_rfl) mixed (by kernel_rfl) ?_
  refine OJ.run [0] [1, 2, 3, 4, 5, 6, 7] [0, 1, 9, 38] (m2 := [(0, .pointer a0), (1, a1v.v), (9, .pointer (some (pt b13 0))), (38, .pointer a0)]) (by kernel_rfl) (by kernel_rfl) ?_
  refine OJ.nilck (d := 39) (y := .tmp 38) (by kernel_rfl) (by kernel_rfl) (by kernel_rfl) (by kernel_rfl) (by kernel_rfl) (fun p15 => ?_)
  refine OJ.run [2] [3, 4, 5, 6, 7] [0, 1, 9, 40] (m2 := [(0, .pointer a0), (1, a1v.v), (9, .pointer (some (pt b13 0))), (40, .pointer (some p15))]) (by kernel_rfl) (by kernel_rfl) ?_
  refine OJ.ld (d := 41) (T := 92) (y := .tmp 40) (pend2 := fun x16 => [⟨3, 92, p15, cL.val x16⟩]) (by kernel_rfl) (by kernel_rfl) Ty92 (by kernel_rfl) (by kernel_rfl) (fun _ => rfl) (fun x16 => ?_)
  refine OJ.run [4] [5, 6, 7] [0, 1, 9, 41, 42] (m2 := [(0, .pointer a0), (1, a1v.v), (9, .pointer (some (pt b13 0))), (41, Sl.v x16), (42, .pointer (some (pt b13 8)))]) (by kernel_rfl) (by kernel_rfl) ?_
  refine OJ.kld (d := 43) (T := 3) (y := .tmp 42) (cd := (cI .i64)) (j := 0) (b := b13) (o := 8) s14.at_ (pend2 := [⟨5, 3, (pt b13 8), (cI .i64).val s14.at_⟩, ⟨3, 92, p15, cL.val x16⟩]) (by kernel_rfl) (by kernel_rfl) Ty3 (by kernel_rfl) rfl (At_queue_turn_at_ s14) (by kernel_rfl) rfl ?_
  refine OJ.idxS (d := 44) (T := 92) (y := .tmp 41) (j := .tmp 43) (E := 104) (cap := x16.cap) (k := .i64) (by kernel_rfl) (by kernel_rfl) (by kernel_rfl) (by kernel_rfl) (by kernel_rfl) (by kernel_rfl) (by kernel_rfl) (by kernel_rfl) (fun p17 => ?_)
  refine OJ.run [7] [] [0, 1, 9, 10] (m2 := [(0, .pointer a0), (1, a1v.v), (9, .pointer (some (pt b13 0))), (10, .pointer (some p17))]) (by kernel_rfl) (by kernel_rfl) ?_
  refine OJ.nil ?_
  refine SJ.seq (by kernel_rfl) ?_
  refine SJ.seq (by kernel_rfl) ?_
  refine SJ.region (id := 11) (by kernel_rfl) [0, 1] (by kernel_rfl) ?_
  refine OJ.run [0] [1] [0, 1, 9, 10, 45] (m2 := [(0, .pointer a0), (1, a1v.v), (9, .pointer (some (pt b13 0))), (10, .pointer (some p17)), (45, .pointer (some p17))]) (by kernel_rfl) (by kernel_rfl) ?_
  refine OJ.call (d := 46) (g := 58) (ats := #[99]) (args := [.tmp 45]) (vals := [.pointer (some p17)]) (owed := []) (by kernel_rfl) F58 (by kernel_rfl) (queue_class_ready_ok (some p17)) (by kernel_rfl) (by kernel_rfl) (by kernel_rfl) (fun r18 => ?_)
  refine OW.nil ?_
  refine OJ.nil ?_
  refine SJ.cond (t := (.tmp 46)) (b := r18) (by kernel_rfl) (by kernel_rfl) Iff.rfl (fun hc76 => ?_) (fun hc76 => ?_)
  · refine SJ.seq (by kernel_rfl) ?_
    refine SJ.seq (by kernel_rfl) ?_
    refine SJ.region (id := 12) (by kernel_rfl) [0, 1, 2] (by kernel_rfl) ?_
    refine OJ.run [0] [1, 2] [0, 1, 9, 10, 47] (m2 := [(0, .pointer a0), (1, a1v.v), (9, .pointer (some (pt b13 0))), (10, .pointer (some p17)), (47, .pointer (some (pt b13 9)))]) (by kernel_rfl) (by kernel_rfl) ?_
    refine OJ.kld (d := 48) (T := 4) (y := .tmp 47) (cd := cB) (j := 0) (b := b13) (o := 9) s14.given (pend2 := []) (by kernel_rfl) (by kernel_rfl) Ty4 (by kernel_rfl) rfl (At_queue_turn_given s14) (by kernel_rfl) rfl ?_
    refine OJ.run [2] [] [0, 1, 9, 10, 49] (m2 := [(0, .pointer a0), (1, a1v.v), (9, .pointer (some (pt b13 0))), (10, .pointer (some p17)), (49, .bool (!s14.given))]) (by kernel_rfl) (by kernel_rfl) ?_
    refine OJ.nil ?_
    refine SJ.cond (t := (.tmp 49)) (b := (!s14.given)) (by kernel_rfl) (by kernel_rfl) (bnot_iff Iff.rfl) (fun hc75 => ?_) (fun hc75 => ?_)
    · refine SJ.seq (by kernel_rfl) ?_
      refine SJ.draw (id := 13) (kd := [0, 1, 0, 0, 1, 0, 0, 0, 0, 1, 0, 0, 0, 2]) (bef := [0, 1, 0, 7, 15, 0, 32, 96, 224, 480, 1023, 0, 4095, 8191]) (ord := [0, 1, 2, 3, 4, 5, 6, 7, 8, 9, 10, 11, 12, 13]) (by kernel_rfl) mixed (by kernel_rfl) ?_
      refine OJ.run [0] [1, 2, 3, 4, 5, 6, 7, 8, 9, 10, 11, 12, 13] [0, 1, 9, 10, 50] (m2 := [(0, .pointer a0), (1, a1v.v), (9, .pointer (some (pt b13 0))), (10, .pointer (some p17)), (50, .pointer (some (pt b13 8)))]) (by kernel_rfl) (by kernel_rfl) ?_
      refine OJ.kld (d := 51) (T := 3) (y := .tmp 50) (cd := (cI .i64)) (j := 0) (b := b13) (o := 8) s14.at_ (pend2 := [⟨1, 3, (pt b13 8), (cI .i64).val s14.at_⟩]) (by kernel_rfl) (by kernel_rfl) Ty3 (by kernel_rfl) rfl (At_queue_turn_at_ s14) (by kernel_rfl) rfl ?_
      refine OJ.run [2] [3, 4, 5, 6, 7, 8, 9, 10, 11, 12, 13] [0, 1, 9, 10, 51, 52] (m2 := [(0, .pointer a0), (1, a1v.v), (9, .pointer (some (pt b13 0))), (10, .pointer (some p17)), (51, .int .i64 s14.at_), (52, .pointer (some (pt b13 0)))]) (by kernel_rfl) (by kernel_rfl) ?_
      refine OJ.idxK (d := 53) (T := 93) (y := .tmp 52) (j := .tmp 51) (E := 3) (sz := 1) (b := b13) (o := 0) (k := .i64) (by kernel_rfl) (by kernel_rfl) (by kernel_rfl) (by kernel_rfl) (by kernel_rfl) (by kernel_rfl) (by kernel_rfl) (by kernel_rfl) (fun hb70 hb71 => ?_)
      refine OJ.kld (d := 54) (T := 3) (y := .tmp 53) (cd := (cI .i64)) (j := 0) (b := b13) (o := (0 + s14.at_.toNat * 1)) (Vec.g s14.deficit s14.at_ 0) (pend2 := [⟨4, 3, (pt b13 (0 + s14.at_.toNat * 1)), (cI .i64).val (Vec.g s14.deficit s14.at_ 0)⟩, ⟨1, 3, (pt b13 8), (cI .i64).val s14.at_⟩]) (by kernel_rfl) (by kernel_rfl) Ty3 (by kernel_rfl) rfl (At.trans (At_queue_turn_deficit s14) (At.arr (z := 0) hb70 hb71)) (by kernel_rfl) rfl ?_
      refine OJ.run [5, 6, 7, 8] [9, 10, 11, 12, 13] [0, 1, 9, 10, 51, 54, 58] (m2 := [(0, .pointer a0), (1, a1v.v), (9, .pointer (some (pt b13 0))), (10, .pointer (some p17)), (51, .int .i64 s14.at_), (54, .int .i64 (Vec.g s14.deficit s14.at_ 0)), (58, .pointer (some p17))]) (by kernel_rfl) (by kernel_rfl) ?_
      refine OJ.ld (d := 59) (T := 3) (y := .tmp 58) (pend2 := fun x72 => [⟨9, 3, p17, (cI .i64).val x72⟩, ⟨4, 3, (pt b13 (0 + s14.at_.toNat * 1)), (cI .i64).val (Vec.g s14.deficit s14.at_ 0)⟩, ⟨1, 3, (pt b13 8), (cI .i64).val s14.at_⟩]) (by kernel_rfl) (by kernel_rfl) Ty3 (by kernel_rfl) (by kernel_rfl) (fun _ => rfl) (fun x72 => ?_)
      refine OJ.run [10, 11] [12, 13] [0, 1, 9, 10, 51, 60, 61] (m2 := [(0, .pointer a0), (1, a1v.v), (9, .pointer (some (pt b13 0))), (10, .pointer (some p17)), (51, .int .i64 s14.at_), (60, .int .i64 (IntKind.wrap .i64 ((Vec.g s14.deficit s14.at_ 0) + x72))), (61, .pointer (some (pt b13 0)))]) (by kernel_rfl) (by kernel_rfl) ?_
      refine OJ.idxK (d := 62) (T := 93) (y := .tmp 61) (j := .tmp 51) (E := 3) (sz := 1) (b := b13) (o := 0) (k := .i64) (by kernel_rfl) (by kernel_rfl) (by kernel_rfl) (by kernel_rfl) (by kernel_rfl) (by kernel_rfl) (by kernel_rfl) (by kernel_rfl) (fun hb73 hb74 => ?_)
      refine OJ.kst (T := 3) (y := .tmp 62) (z := .tmp 60) (cd := (cI .i64)) (u := (IntKind.wrap .i64 ((Vec.g s14.deficit s14.at_ 0) + x72))) (j := 0) (b := b13) (o := (0 + s14.at_.toNat * 1)) (c_queue_turn.enc (⟨(Vec.s s14.deficit s14.at_ (IntKind.wrap .i64 ((Vec.g s14.deficit s14.at_ 0) + x72))), s14.at_, s14.given⟩ : queue_turn)) (h2 := [(b13, c_queue_turn.enc (⟨(Vec.s s14.deficit s14.at_ (IntKind.wrap .i64 ((Vec.g s14.deficit s14.at_ 0) + x72))), s14.at_, s14.given⟩ : queue_turn))]) (owed := []) (by kernel_rfl) (by kernel_rfl) (by kernel_rfl) Ty3 rfl (Upd.trans (At_queue_turn_deficit s14) (Upd.arr hb73 hb74) (Up_queue_turn_deficit s14 (Vec.s s14.deficit s14.at_ (IntKind.wrap .i64 ((Vec.g s14.deficit s14.at_ 0) + x72))))) (by kernel_rfl) (by kernel_rfl) rfl ?_
      refine OW.nil ?_
      refine OJ.nil ?_
      refine SJ.region (id := 14) (by kernel_rfl) [0, 1] (by kernel_rfl) ?_
      refine OJ.run [0] [1] [0, 1, 9, 10, 63] (m2 := [(0, .pointer a0), (1, a1v.v), (9, .pointer (some (pt b13 0))), (10, .pointer (some p17)), (63, .pointer (some (pt b13 9)))]) (by kernel_rfl) (by kernel_rfl) ?_
      refine OJ.kst (T := 4) (y := .tmp 63) (z := .const (.bool true)) (cd := cB) (u := true) (j := 0) (b := b13) (o := 9) (c_queue_turn.enc (⟨(Vec.s s14.deficit s14.at_ (IntKind.wrap .i64 ((Vec.g s14.deficit s14.at_ 0) + x72))), s14.at_, true⟩ : queue_turn)) (h2 := [(b13, c_queue_turn.enc (⟨(Vec.s s14.deficit s14.at_ (IntKind.wrap .i64 ((Vec.g s14.deficit s14.at_ 0) + x72))), s14.at_, true⟩ : queue_turn))]) (owed := []) (by kernel_rfl) (by kernel_rfl) (by kernel_rfl) Ty4 rfl (Up_queue_turn_given (⟨(Vec.s s14.deficit s14.at_ (IntKind.wrap .i64 ((Vec.g s14.deficit s14.at_ 0) + x72))), s14.at_, s14.given⟩ : queue_turn) true) (by kernel_rfl) (by kernel_rfl) rfl ?_
      refine OW.nil ?_
      refine OJ.nil ?_
      refine SJ.less [0, 1, 9, 10] (m' := [(0, .pointer a0), (1, a1v.v), (9, .pointer (some (pt b13 0))), (10, .pointer (some p17))]) (by kernel_rfl) ?_
      exact queue_Queue_next.K3_ok a0 a1v a1 h_a1 b13 p17 (⟨(Vec.s s14.deficit s14.at_ (IntKind.wrap .i64 ((Vec.g s14.deficit s14.at_ 0) + x72))), s14.at_, true⟩ : queue_turn)
    · refine SJ.skip (by kernel_rfl) ?_
      refine SJ.less [0, 1, 9, 10] (m' := [(0, .pointer a0), (1, a1v.v), (9, .pointer (some (pt b13 0))), (10, .pointer (some p17))]) (by kernel_rfl) ?_
      exact queue_Queue_next.K3_ok a0 a1v a1 h_a1 b13 p17 s14
  · refine SJ.skip (by kernel_rfl) ?_
    refine SJ.less [0, 1, 9, 10] (m' := [(0, .pointer a0), (1, a1v.v), (9, .pointer (some (pt b13 0))), (10, .pointer (some p17))]) (by kernel_rfl) ?_
    exact queue_Queue_next.K2_ok a0 a1v b13 p17 s14
noncomputable def queue_Queue_next.K4 (a0 : (Option Addr)) (a1 : queue_turn → M Unit) (s3 : Bool) : M (Int × Int × Bool) :=
  if ¬ (s3 = true) then
    pure (0, 0, false)
  else
    nilck a0 >>= fun p11 =>
    ld c_queue_turn (Addr.add p11 1) >>= fun x12 =>
    slot 95 >>= fun b13 =>
    loopM (fun s_ : queue_turn => queue_Queue_next.L1 a0 a1 s_) x12
theorem queue_Queue_next.K4_ok (a0 : (Option Addr)) (a1v : Any) (a1 : queue_turn → M Unit) (h_a1 : ∀ (x0_ : queue_turn), RefV Try.prog a1v.v [c_queue_turn.val x0_] (a1 x0_) (fun r_ : Unit => .tuple #[])) (s3 : Bool) :
    SJ queue_Queue_next.cx [.code (c2 (c2 (c2 queue_Queue_next.B)))] [(0, .pointer a0), (1, a1v.v), (7, .bool s3)] [] (queue_Queue_next.K4 a0 a1 s3) queue_Queue_next.F0 := by
  unfold queue_Queue_next.K4
  refine SJ.seq (by kernel_rfl) ?_
  refine SJ.seq (by kernel_rfl) ?_
  refine SJ.region (id := 7) (by kernel_rfl) [0, 1] (by kernel_rfl) ?_
  refine OJ.run [0, 1] [] [0, 1, 33] (m2 := [(0, .pointer a0), (1, a1v.v), (33, .bool (!s3))]) (by kernel_rfl) (by kernel_rfl) ?_
  refine OJ.nil ?_
  refine SJ.cond (t := (.tmp 33)) (b := (!s3)) (by kernel_rfl) (by kernel_rfl) (bnot_iff Iff.rfl) (fun hc77 => ?_) (fun hc77 => ?_)
  · refine SJ.seq (by kernel_rfl) ?_
    refine SJ.region (id := 8) (by kernel_rfl) [0, 1, 2] (by kernel_rfl) ?_
    refine OJ.run [0, 1, 2] [] [4, 5, 6] (m2 := [(4, .int .i64 0), (5, .int .i64 0), (6, .bool false)]) (by kernel_rfl) (by kernel_rfl) ?_
    refine OJ.nil ?_
    exact SJ.ret (by kernel_rfl) rfl (Res.run (ys := [.int .i64 0, .int .i64 0, .bool false]) (.tmp (by kernel_rfl) (.tmp (by kernel_rfl) (.tmp (by kernel_rfl) .nil))) rfl)
  · refine SJ.skip (by kernel_rfl) ?_
    refine SJ.seq (by kernel_rfl) ?_
    refine SJ.region (id := 9) (by kernel_rfl) [0, 1, 2, 3, 4, 5] (by kernel_rfl) ?_
    refine OJ.run [0] [1, 2, 3, 4, 5] [0, 1, 34] (m2 := [(0, .pointer a0), (1, a1v.v), (34, .pointer a0)]) (by kernel_rfl) (by kernel_rfl) ?_
    refine OJ.nilck (d := 35) (y := .tmp 34) (by kernel_rfl) (by kernel_rfl) (by kernel_rfl) (by kernel_rfl) (by kernel_rfl) (fun p11 => ?_)
    refine OJ.run [2] [3, 4, 5] [0, 1, 36] (m2 := [(0, .pointer a0), (1, a1v.v), (36, .pointer (some (Addr.add p11 1)))]) (by kernel_rfl) (by kernel_rfl) ?_
    refine OJ.ld (d := 37) (T := 95) (y := .tmp 36) (pend2 := fun x12 => []) (by kernel_rfl) (by kernel_rfl) Ty95 (by kernel_rfl) (by kernel_rfl) (fun _ => rfl) (fun x12 => ?_)
    refine OJ.slotOf (d := 9) (op := (.alloc 95)) (cd := c_queue_turn) (u := z_queue_turn) (owed := []) (by kernel_rfl) (alloc_run Ty95) (by kernel_rfl) (by kernel_rfl) (by kernel_rfl) (fun b13 => ?_)
    refine OW.nil ?_
    refine OJ.kst (T := 95) (y := .tmp 9) (z := .tmp 37) (cd := c_queue_turn) (u := x12) (j := 0) (b := b13) (o := 0) (c_queue_turn.enc x12) (h2 := [(b13, c_queue_turn.enc x12)]) (owed := []) (by kernel_rfl) (by kernel_rfl) (by kernel_rfl) Ty95 rfl (Upd.whole ((Cod.len _ _).trans (Cod.len _ _).symm)) (by kernel_rfl) (by kernel_rfl) rfl ?_
    refine OW.nil ?_
    refine OJ.nil ?_
    refine SJ.block (id := 2) (by kernel_rfl) ?_
    exact SJ.loop (fun s_ : queue_turn => [(0, .pointer a0), (1, a1v.v), (9, .pointer (some (pt b13 0)))]) (fun s_ : queue_turn => [(b13, c_queue_turn.enc s_)]) [0, 1, 9] (by kernel_rfl) (by kernel_rfl) rfl (fun _ _ => rfl) (fun s_ => queue_Queue_next.L1_ok a0 a1v a1 h_a1 b13 s_)
noncomputable def queue_Queue_next.F2 (a0 : (Option Addr)) (a1v : Any) (x2 : Sl) : (LS (Bool × Int) (Int × Int × Bool)) → Reach := loopF [.inLoop (c1 (c1 (c2 (c1 (c2 (c2 queue_Queue_next.B)))))), .inBlock 0, .code (c2 (c2 (c2 queue_Queue_next.B)))] (fun s_ : (Bool × Int) => [(0, .pointer a0), (1, a1v.v), (7, .bool s_.1), (17, .int .i64 (x2.len : Int)), (18, .int .i64 s_.2)]) (fun s_ : (Bool × Int) => []) queue_Queue_next.F0
noncomputable def queue_Queue_next.L2 (a0 : (Option Addr)) (a1 : queue_turn → M Unit) (x2 : Sl) (s3 : Bool) (s4 : Int) : M (LS (Bool × Int) (Int × Int × Bool)) :=
  if s4 < (x2.len : Int) then
    (if s3 = true then
        pure true
      else
        nilck a0 >>= fun p78 =>
        ld cL p78 >>= fun x79 =>
        idx x79.a x79.len s4 10 >>= fun p80 =>
        queue_class_ready (some p80) >>= fun r81 =>
        pure r81) >>= fun y82 =>
    pure (LS.next (y82, IntKind.wrap .i64 (s4 + 1)))
  else
    (queue_Queue_next.K4 a0 a1 s3) >>= fun b => pure (LS.done b)
theorem queue_Queue_next.L2_ok (a0 : (Option Addr)) (a1v : Any) (a1 : queue_turn → M Unit) (h_a1 : ∀ (x0_ : queue_turn), RefV Try.prog a1v.v [c_queue_turn.val x0_] (a1 x0_) (fun r_ : Unit => .tuple #[])) (x2 : Sl) (s3 : Bool) (s4 : Int) :
    SJ queue_Queue_next.cx [.code (c1 (c1 (c2 (c1 (c2 (c2 queue_Queue_next.B)))))), .inLoop (c1 (c1 (c2 (c1 (c2 (c2 queue_Queue_next.B)))))), .inBlock 0, .code (c2 (c2 (c2 queue_Queue_next.B)))] [(0, .pointer a0), (1, a1v.v), (7, .bool s3), (17, .int .i64 (x2.len : Int)), (18, .int .i64 s4)] [] (queue_Queue_next.L2 a0 a1 x2 s3 s4) (queue_Queue_next.F2 a0 a1v x2) := by
  unfold queue_Queue_next.L2
  refine SJ.seq (by kernel_rfl) ?_
  refine SJ.region (id := 3) (by kernel_rfl) [0] (by kernel_rfl) ?_
  refine OJ.run [0] [] [0, 1, 7, 17, 18, 19] (m2 := [(0, .pointer a0), (1, a1v.v), (7, .bool s3), (17, .int .i64 (x2.len : Int)), (18, .int .i64 s4), (19, .bool (decide (s4 < (x2.len : Int))))]) (by kernel_rfl) (by kernel_rfl) ?_
  refine OJ.nil ?_
  refine SJ.seq (by kernel_rfl) ?_
  refine SJ.cond (t := (.tmp 19)) (b := decide (s4 < (x2.len : Int))) (by kernel_rfl) (by kernel_rfl) decide_eq_true_iff (fun hc83 => ?_) (fun hc83 => ?_)
  · refine SJ.skip (by kernel_rfl) ?_
    refine SJ.seq (by kernel_rfl) ?_
    refine SJ.block (id := 1) (by kernel_rfl) ?_
    refine SJ.seq (by kernel_rfl) ?_
    refine SJ.region (id := 4) (by kernel_rfl) [0, 1] (by kernel_rfl) ?_
    refine OJ.run [0, 1] [] [0, 1, 7, 17, 18, 8] (m2 := [(0, .pointer a0), (1, a1v.v), (7, .bool s3), (17, .int .i64 (x2.len : Int)), (18, .int .i64 s4), (8, .int .i64 s4)]) (by kernel_rfl) (by kernel_rfl) ?_
    refine OJ.nil ?_
    refine SJ.region (id := 5) (by kernel_rfl) [0, 1, 2, 3, 4, 5, 6, 7, 8, 9, 10] (by kernel_rfl) ?_
    refine OJ.run [0, 1] [2, 3, 4, 5, 6, 7, 8, 9, 10] [0, 1, 7, 17, 18, 8, 22] (m2 := [(0, .pointer a0), (1, a1v.v), (7, .bool s3), (17, .int .i64 (x2.len : Int)), (18, .int .i64 s4), (8, .int .i64 s4), (22, .bool s3)]) (by kernel_rfl) (by kernel_rfl) ?_
    refine OJ.join (b := s3) [2, 3, 4, 5, 6, 7, 8, 9] [10] [0, 1, 7, 17, 18, 30] (fun y82 => [(0, .pointer a0), (1, a1v.v), (7, .bool s3), (17, .int .i64 (x2.len : Int)), (18, .int .i64 s4), (30, .bool y82)]) [] [] (by kernel_rfl) (t := 22) (by kernel_rfl) Iff.rfl (fun hp_ => ?_) (fun hp_ => ?_) (by kernel_rfl) (fun _ _ _ _ _ _ h_ => h_) (fun y82 => ?_)
    · refine OJ.run [2, 3, 4, 5, 6, 7, 8, 9] [] [0, 1, 7, 17, 18, 30] (m2 := [(0, .pointer a0), (1, a1v.v), (7, .bool s3), (17, .int .i64 (x2.len : Int)), (18, .int .i64 s4), (30, .bool true)]) (by kernel_rfl) (by kernel_rfl) ?_
      exact OJ.nil ⟨(Cov.mem Cov.nil), rfl, _, rfl, by kernel_rfl⟩
    · refine OJ.run [2] [3, 4, 5, 6, 7, 8, 9] [0, 1, 7, 17, 18, 8, 22, 23] (m2 := [(0, .pointer a0), (1, a1v.v), (7, .bool s3), (17, .int .i64 (x2.len : Int)), (18, .int .i64 s4), (8, .int .i64 s4), (22, .bool false), (23, .pointer a0)]) (by kernel_rfl) (by kernel_rfl) ?_
      refine OJ.nilck (d := 24) (y := .tmp 23) (by kernel_rfl) (by kernel_rfl) (by kernel_rfl) (by kernel_rfl) (by kernel_rfl) (fun p78 => ?_)
      refine OJ.run [4] [5, 6, 7, 8, 9] [0, 1, 7, 17, 18, 8, 22, 25] (m2 := [(0, .pointer a0), (1, a1v.v), (7, .bool s3), (17, .int .i64 (x2.len : Int)), (18, .int .i64 s4), (8, .int .i64 s4), (22, .bool false), (25, .pointer (some p78))]) (by kernel_rfl) (by kernel_rfl) ?_
      refine OJ.ld (d := 26) (T := 92) (y := .tmp 25) (pend2 := fun x79 => []) (by kernel_rfl) (by kernel_rfl) Ty92 (by kernel_rfl) (by kernel_rfl) (fun _ => rfl) (fun x79 => ?_)
      refine OJ.run [6] [7, 8, 9] [0, 1, 7, 17, 18, 22, 26, 27] (m2 := [(0, .pointer a0), (1, a1v.v), (7, .bool s3), (17, .int .i64 (x2.len : Int)), (18, .int .i64 s4), (22, .bool false), (26, Sl.v x79), (27, .int .i64 s4)]) (by kernel_rfl) (by kernel_rfl) ?_
      refine OJ.idxS (d := 28) (T := 92) (y := .tmp 26) (j := .tmp 27) (E := 104) (cap := x79.cap) (k := .i64) (by kernel_rfl) (by kernel_rfl) (by kernel_rfl) (by kernel_rfl) (by kernel_rfl) (by kernel_rfl) (by kernel_rfl) (by kernel_rfl) (fun p80 => ?_)
      refine OJ.call (d := 29) (g := 58) (ats := #[104]) (args := [.tmp 28]) (vals := [.pointer (some p80)]) (owed := []) (by kernel_rfl) F58 (by kernel_rfl) (queue_class_ready_ok (some p80)) (by kernel_rfl) (by kernel_rfl) (by kernel_rfl) (fun r81 => ?_)
      refine OW.nil ?_
      refine OJ.run [9] [] [0, 1, 7, 17, 18, 30] (m2 := [(0, .pointer a0), (1, a1v.v), (7, .bool s3), (17, .int .i64 (x2.len : Int)), (18, .int .i64 s4), (30, .bool r81)]) (by kernel_rfl) (by kernel_rfl) ?_
      exact OJ.nil ⟨(Cov.mem Cov.nil), rfl, _, rfl, by kernel_rfl⟩
    · refine OJ.run [10] [] [0, 1, 7, 17, 18] (m2 := [(0, .pointer a0), (1, a1v.v), (7, .bool y82), (17, .int .i64 (x2.len : Int)), (18, .int .i64 s4)]) (by kernel_rfl) (by kernel_rfl) ?_
      refine OJ.nil ?_
      refine SJ.inBlock ?_
      refine SJ.region (id := 6) (by kernel_rfl) [0, 1] (by kernel_rfl) ?_
      refine OJ.run [0, 1] [] [0, 1, 7, 17, 18] (m2 := [(0, .pointer a0), (1, a1v.v), (7, .bool y82), (17, .int .i64 (x2.len : Int)), (18, .int .i64 (IntKind.wrap .i64 (s4 + 1)))]) (by kernel_rfl) (by kernel_rfl) ?_
      refine OJ.nil ?_
      exact SJ.at_ [0, 1, 7, 17, 18] rfl (by kernel_rfl)
  · refine SJ.exit (id := 0) (by kernel_rfl) (by rfl) ?_
    refine SJ.less [0, 1, 7] (m' := [(0, .pointer a0), (1, a1v.v), (7, .bool s3)]) (by kernel_rfl) ?_
    refine SJ.done ?_
    exact queue_Queue_next.K4_ok a0 a1v a1 h_a1 s3
noncomputable def queue_Queue_next (a0 : (Option Addr)) (a1 : queue_turn → M Unit) : M (Int × Int × Bool) :=
  nilck a0 >>= fun p1 =>
  ld cL p1 >>= fun x2 =>
  loopM (fun s_ : (Bool × Int) => queue_Queue_next.L2 a0 a1 x2 s_.1 s_.2) (false, 0)
theorem queue_Queue_next_ok (a0 : (Option Addr)) (a1v : Any) (a1 : queue_turn → M Unit) (h_a1 : ∀ (x0_ : queue_turn), RefV Try.prog a1v.v [c_queue_turn.val x0_] (a1 x0_) (fun r_ : Unit => .tuple #[])) : Ref Try.prog 46 [.pointer a0, a1v.v] (queue_Queue_next a0 a1) queue_Queue_next.out := by
  refine Ref.of (cd := queue_Queue_next.B) Try.func46 (by kernel_rfl) (by kernel_rfl) ?_
  show SJ queue_Queue_next.cx [.code queue_Queue_next.B] [(0, .pointer a0), (1, a1v.v)] [] (queue_Queue_next a0 a1) queue_Queue_next.F0
  unfold queue_Queue_next
  refine SJ.seq (by kernel_rfl) ?_
  refine SJ.region (id := 0) (by kernel_rfl) [0, 1, 2] (by kernel_rfl) ?_
  refine OJ.run [0, 1, 2] [] [0, 1] (m2 := [(0, .pointer a0), (1, a1v.v)]) (by kernel_rfl) (by kernel_rfl) ?_
  refine OJ.nil ?_
  refine SJ.seq (by kernel_rfl) ?_
  refine SJ.region (id := 1) (by kernel_rfl) [0] (by kernel_rfl) ?_
  refine OJ.run [0] [] [0, 1, 7] (m2 := [(0, .pointer a0), (1, a1v.v), (7, .bool false)]) (by kernel_rfl) (by kernel_rfl) ?_
  refine OJ.nil ?_
  refine SJ.seq (by kernel_rfl) ?_
  refine SJ.seq (by kernel_rfl) ?_
  refine SJ.region (id := 2) (by kernel_rfl) [0, 1, 2, 3, 4, 5] (by kernel_rfl) ?_
  refine OJ.run [0] [1, 2, 3, 4, 5] [0, 1, 7, 13] (m2 := [(0, .pointer a0), (1, a1v.v), (7, .bool false), (13, .pointer a0)]) (by kernel_rfl) (by kernel_rfl) ?_
  refine OJ.nilck (d := 14) (y := .tmp 13) (by kernel_rfl) (by kernel_rfl) (by kernel_rfl) (by kernel_rfl) (by kernel_rfl) (fun p1 => ?_)
  refine OJ.run [2] [3, 4, 5] [0, 1, 7, 15] (m2 := [(0, .pointer a0), (1, a1v.v), (7, .bool false), (15, .pointer (some p1))]) (by kernel_rfl) (by kernel_rfl) ?_
  refine OJ.ld (d := 16) (T := 92) (y := .tmp 15) (pend2 := fun x2 => []) (by kernel_rfl) (by kernel_rfl) Ty92 (by kernel_rfl) (by kernel_rfl) (fun _ => rfl) (fun x2 => ?_)
  refine OJ.run [4, 5] [] [0, 1, 7, 17, 18] (m2 := [(0, .pointer a0), (1, a1v.v), (7, .bool false), (17, .int .i64 (x2.len : Int)), (18, .int .i64 0)]) (by kernel_rfl) (by kernel_rfl) ?_
  refine OJ.nil ?_
  refine SJ.block (id := 0) (by kernel_rfl) ?_
  exact SJ.loop (fun s_ : (Bool × Int) => [(0, .pointer a0), (1, a1v.v), (7, .bool s_.1), (17, .int .i64 (x2.len : Int)), (18, .int .i64 s_.2)]) (fun s_ : (Bool × Int) => []) [0, 1, 7, 17, 18] (by kernel_rfl) (by kernel_rfl) rfl (fun _ _ => rfl) (fun s_ => queue_Queue_next.L2_ok a0 a1v a1 h_a1 x2 s_.1 s_.2)

/-! ### (*weir/queue.Queue).Pop: function 19 -/
noncomputable def queue_Queue_Pop.B : Code := (Try.f19.body).getD .skip
noncomputable def queue_Queue_Pop.cx : Fx := ⟨Try.prog, 19, Try.f19⟩
noncomputable def queue_Queue_Pop.out (r_ : (Int × Int × Bool)) : Value := .tuple #[.int .i64 r_.1, .int .i64 r_.2.1, .bool r_.2.2]
noncomputable def queue_Queue_Pop.F0 (r_ : (Int × Int × Bool)) : Reach := .ret (queue_Queue_Pop.out r_)
noncomputable def queue_Queue_Pop (a0 : (Option Addr)) : M (Int × Int × Bool) :=
  queue_Queue_next a0 (fun (q1 : queue_turn) => queue_Queue_take a0 q1) >>= fun r2 =>
  pure (r2.1, r2.2.1, r2.2.2)
theorem queue_Queue_Pop_ok (a0 : (Option Addr)) : Ref Try.prog 19 [.pointer a0] (queue_Queue_Pop a0) queue_Queue_Pop.out := by
  refine Ref.of (cd := queue_Queue_Pop.B) Try.func19 (by kernel_rfl) (by kernel_rfl) ?_
  show SJ queue_Queue_Pop.cx [.code queue_Queue_Pop.B] [(0, .pointer a0)] [] (queue_Queue_Pop a0) queue_Queue_Pop.F0
  unfold queue_Queue_Pop
  refine SJ.seq (by kernel_rfl) ?_
  refine SJ.region (id := 0) (by kernel_rfl) [0, 1, 2] (by kernel_rfl) ?_
  refine OJ.run [0, 1, 2] [] [0] (m2 := [(0, .pointer a0)]) (by kernel_rfl) (by kernel_rfl) ?_
  refine OJ.nil ?_
  refine SJ.seq (by kernel_rfl) ?_
  refine SJ.region (id := 1) (by kernel_rfl) [0, 1, 2, 3, 4, 5, 6, 7, 8, 9] (by kernel_rfl) ?_
  refine OJ.run [0, 1, 2] [3, 4, 5, 6, 7, 8, 9] [5, 7] (m2 := [(5, .pointer a0), (7, .func (.func 47) #[.pointer a0] #[])]) (by kernel_rfl) (by kernel_rfl) ?_
  refine OJ.call (d := 8) (g := 46) (ats := #[29, 109]) (args := [.tmp 5, .tmp 7]) (vals := [.pointer a0, .func (.func 47) #[.pointer a0] #[]]) (owed := []) (by kernel_rfl) F46 (by kernel_rfl) (queue_Queue_next_ok a0 ⟨.func (.func 47) #[.pointer a0] #[], rfl⟩ (fun (q1 : queue_turn) => queue_Queue_take a0 q1) (fun q1 => RefV.of (first := [.pointer a0]) (cap := []) F47 (queue_Queue_take_ok a0 q1))) (by kernel_rfl) (by kernel_rfl) (by kernel_rfl) (fun r2 => ?_)
  refine OW.nil ?_
  refine OJ.run [4, 5, 6, 7, 8, 9] [] [2, 3, 4] (m2 := [(2, .int .i64 r2.1), (3, .int .i64 r2.2.1), (4, .bool r2.2.2)]) (by kernel_rfl) (by kernel_rfl) ?_
  refine OJ.nil ?_
  exact SJ.ret (by kernel_rfl) rfl (Res.run (ys := [.int .i64 r2.1, .int .i64 r2.2.1, .bool r2.2.2]) (.tmp (by kernel_rfl) (.tmp (by kernel_rfl) (.tmp (by kernel_rfl) .nil))) rfl)

/-! ### weir/weirref18.held: function 65 -/
noncomputable def weirref18_held.B : Code := (Try.f65.body).getD .skip
noncomputable def weirref18_held.cx : Fx := ⟨Try.prog, 65, Try.f65⟩
noncomputable def weirref18_held.out (r_ : Bool) : Value := .bool r_
noncomputable def weirref18_held.F0 (r_ : Bool) : Reach := .ret (weirref18_held.out r_)
noncomputable def weirref18_held (a0 : weirref18_Line) : M Bool :=
  slot 116 >>= fun b1 =>
  draw >>= fun _ =>
  (if a0.C.Rate > 0 then
      idx a0.L.a a0.L.len 0 2 >>= fun p2 =>
      ld (cI .i64) p2 >>= fun x3 =>
      pure (decide (a0.Tokens < x3))
    else
      pure false) >>= fun y4 =>
  pure y4
theorem weirref18_held_ok (a0 : weirref18_Line) : Ref Try.prog 65 [c_weirref18_Line.val a0] (weirref18_held a0) weirref18_held.out := by
  refine Ref.of (cd := weirref18_held.B) Try.func65 (by kernel_rfl) (by kernel_rfl) ?_
  show SJ weirref18_held.cx [.code weirref18_held.B] [(0, c_weirref18_Line.val a0)] [] (weirref18_held a0) weirref18_held.F0
  unfold weirref18_held
  refine SJ.seq (by kernel_rfl) ?_
  refine SJ.region (id := 0) (by kernel_rfl) [0, 1] (by kernel_rfl) ?_
  refine OJ.slotOf (d := 1) (op := (.box 116 (.tmp 0))) (cd := c_weirref18_Line) (u := a0) (owed := []) (by kernel_rfl) (box_run (by kernel_rfl)) (by kernel_rfl) (by kernel_rfl) (by kernel_rfl) (fun b1 => ?_)
  refine OW.nil ?_
  refine OJ.run [1] [] [1] (m2 := [(1, .pointer (some (pt b1 0)))]) (by kernel_rfl) (by kernel_rfl) ?_
  refine OJ.nil ?_
  refine SJ.seq (by kernel_rfl) ?_
  refine SJ.draw (id := 1) (kd := [0, 0, 1, 0, 0, 0, 1, 0, 1, 0, 0, 1, 0, 0, 0]) (bef := [0, 1, 3, 7, 15, 31, 63, 31, 159, 415, 927, 1951, 4095, 8191, 16383]) (ord := [0, 1, 2, 3, 4, 5, 6, 7, 8, 9, 10, 11, 12, 13, 14]) (by kernel_rfl) mixed (by kernel_rfl) ?_
  refine OJ.run [0, 1] [2, 3, 4, 5, 6, 7, 8, 9, 10, 11, 12, 13, 14] [1, 4] (m2 := [(1, .pointer (some (pt b1 0))), (4, .pointer (some (pt b1 3)))]) (by kernel_rfl) (by kernel_rfl) ?_
  refine OJ.kld (d := 5) (T := 3) (y := .tmp 4) (cd := (cI .i64)) (j := 0) (b := b1) (o := 3) a0.C.Rate (pend2 := [⟨2, 3, (pt b1 3), (cI .i64).val a0.C.Rate⟩]) (by kernel_rfl) (by kernel_rfl) Ty3 (by kernel_rfl) rfl (At.trans (At_weirref18_Line_C a0) (At_api_Class_Rate a0.C)) (by kernel_rfl) rfl ?_
  refine OJ.run [3, 4] [5, 6, 7, 8, 9, 10, 11, 12, 13, 14] [1, 7] (m2 := [(1, .pointer (some (pt b1 0))), (7, .bool (decide (a0.C.Rate > 0)))]) (by kernel_rfl) (by kernel_rfl) ?_
  refine OJ.join (b := decide (a0.C.Rate > 0)) [5, 6, 7, 8, 9, 10, 11, 12, 13] [14] [16] (fun y4 => [(16, .bool y4)]) [⟨8, 114, (pt b1 5), cL.val a0.L⟩, ⟨6, 3, (pt b1 7), (cI .i64).val a0.Tokens⟩, ⟨2, 3, (pt b1 3), (cI .i64).val a0.C.Rate⟩] [11] (by kernel_rfl) (t := 7) (by kernel_rfl) decide_eq_true_iff (fun hp_ => ?_) (fun hp_ => ?_) (by kernel_rfl) (fun _ _ _ _ _ _ h_ => h_) (fun y4 => ?_)
  · refine OJ.run [5] [6, 7, 8, 9, 10, 11, 12, 13] [1, 7, 8] (m2 := [(1, .pointer (some (pt b1 0))), (7, .bool true), (8, .pointer (some (pt b1 7)))]) (by kernel_rfl) (by kernel_rfl) ?_
    refine OJ.kld (d := 9) (T := 3) (y := .tmp 8) (cd := (cI .i64)) (j := 0) (b := b1) (o := 7) a0.Tokens (pend2 := [⟨6, 3, (pt b1 7), (cI .i64).val a0.Tokens⟩, ⟨2, 3, (pt b1 3), (cI .i64).val a0.C.Rate⟩]) (by kernel_rfl) (by kernel_rfl) Ty3 (by kernel_rfl) rfl (At_weirref18_Line_Tokens a0) (by kernel_rfl) rfl ?_
    refine OJ.run [7] [8, 9, 10, 11, 12, 13] [7, 9, 10] (m2 := [(7, .bool true), (9, .int .i64 a0.Tokens), (10, .pointer (some (pt b1 5)))]) (by kernel_rfl) (by kernel_rfl) ?_
    refine OJ.kld (d := 11) (T := 114) (y := .tmp 10) (cd := cL) (j := 0) (b := b1) (o := 5) a0.L (pend2 := [⟨8, 114, (pt b1 5), cL.val a0.L⟩, ⟨6, 3, (pt b1 7), (cI .i64).val a0.Tokens⟩, ⟨2, 3, (pt b1 3), (cI .i64).val a0.C.Rate⟩]) (by kernel_rfl) (by kernel_rfl) Ty114 (by kernel_rfl) rfl (At_weirref18_Line_L a0) (by kernel_rfl) rfl ?_
    refine OJ.idxS (d := 12) (T := 114) (y := .tmp 11) (j := .const (.int .i64 0)) (E := 125) (cap := a0.L.cap) (k := .i64) (by kernel_rfl) (by kernel_rfl) (by kernel_rfl) (by kernel_rfl) (by kernel_rfl) (by kernel_rfl) (by kernel_rfl) (by kernel_rfl) (fun p2 => ?_)
    refine OJ.run [10] [11, 12, 13] [7, 9, 13] (m2 := [(7, .bool true), (9, .int .i64 a0.Tokens), (13, .pointer (some p2))]) (by kernel_rfl) (by kernel_rfl) ?_
    refine OJ.ld (d := 14) (T := 3) (y := .tmp 13) (pend2 := fun x3 => [⟨11, 3, p2, (cI .i64).val x3⟩, ⟨8, 114, (pt b1 5), cL.val a0.L⟩, ⟨6, 3, (pt b1 7), (cI .i64).val a0.Tokens⟩, ⟨2, 3, (pt b1 3), (cI .i64).val a0.C.Rate⟩]) (by kernel_rfl) (by kernel_rfl) Ty3 (by kernel_rfl) (by kernel_rfl) (fun _ => rfl) (fun x3 => ?_)
    refine OJ.run [12, 13] [] [16] (m2 := [(16, .bool (decide (a0.Tokens < x3)))]) (by kernel_rfl) (by kernel_rfl) ?_
    exact OJ.nil ⟨(Cov.mem (Cov.drop (List.mem_of_getElem? (i := 0) rfl) (Cov.keep (List.mem_of_getElem? (i := 0) rfl) (Cov.keep (List.mem_of_getElem? (i := 1) rfl) (Cov.keep (List.mem_of_getElem? (i := 2) rfl) Cov.nil))))), rfl, _, rfl, by kernel_rfl⟩
  · refine OJ.run [5, 6, 7, 8, 9, 10, 11, 12, 13] [] [16] (m2 := [(16, .bool false)]) (by kernel_rfl) (by kernel_rfl) ?_
    exact OJ.nil ⟨(Cov.mem (Cov.keep (List.mem_of_getElem? (i := 2) rfl) Cov.nil)), rfl, _, rfl, by kernel_rfl⟩
  · refine OJ.run [14] [] [2] (m2 := [(2, .bool y4)]) (by kernel_rfl) (by kernel_rfl) ?_
    refine OJ.nil ?_
    exact SJ.ret (by kernel_rfl) rfl (Res.run (ys := [.bool y4]) (.tmp (by kernel_rfl) .nil) rfl)

/-! ### weir/weirref18.ready: function 63 -/
noncomputable def weirref18_ready.B : Code := (Try.f63.body).getD .skip
noncomputable def weirref18_ready.cx : Fx := ⟨Try.prog, 63, Try.f63⟩
noncomputable def weirref18_ready.out (r_ : Bool) : Value := .bool r_
noncomputable def weirref18_ready.F0 (r_ : Bool) : Reach := .ret (weirref18_ready.out r_)
noncomputable def weirref18_ready (a0 : weirref18_Line) : M Bool :=
  slot 116 >>= fun b1 =>
  (if (a0.L.len : Int) > 0 then
      weirref18_held a0 >>= fun r2 =>
      pure (!r2)
    else
      pure false) >>= fun y3 =>
  pure y3
theorem weirref18_ready_ok (a0 : weirref18_Line) : Ref Try.prog 63 [c_weirref18_Line.val a0] (weirref18_ready a0) weirref18_ready.out := by
  refine Ref.of (cd := weirref18_ready.B) Try.func63 (by kernel_rfl) (by kernel_rfl) ?_
  show SJ weirref18_ready.cx [.code weirref18_ready.B] [(0, c_weirref18_Line.val a0)] [] (weirref18_ready a0) weirref18_ready.F0
  unfold weirref18_ready
  refine SJ.seq (by kernel_rfl) ?_
  refine SJ.region (id := 0) (by kernel_rfl) [0, 1] (by kernel_rfl) ?_
  refine OJ.slotOf (d := 1) (op := (.box 116 (.tmp 0))) (cd := c_weirref18_Line) (u := a0) (owed := []) (by kernel_rfl) (box_run (by kernel_rfl)) (by kernel_rfl) (by kernel_rfl) (by kernel_rfl) (fun b1 => ?_)
  refine OW.nil ?_
  refine OJ.run [1] [] [1] (m2 := [(1, .pointer (some (pt b1 0)))]) (by kernel_rfl) (by kernel_rfl) ?_
  refine OJ.nil ?_
  refine SJ.seq (by kernel_rfl) ?_
  refine SJ.region (id := 1) (by kernel_rfl) [0, 1, 2, 3, 4, 5, 6, 7, 8, 9] (by kernel_rfl) ?_
  refine OJ.run [0] [1, 2, 3, 4, 5, 6, 7, 8, 9] [1, 3] (m2 := [(1, .pointer (some (pt b1 0))), (3, .pointer (some (pt b1 5)))]) (by kernel_rfl) (by kernel_rfl) ?_
  refine OJ.kld (d := 4) (T := 114) (y := .tmp 3) (cd := cL) (j := 0) (b := b1) (o := 5) a0.L (pend2 := []) (by kernel_rfl) (by kernel_rfl) Ty114 (by kernel_rfl) rfl (At_weirref18_Line_L a0) (by kernel_rfl) rfl ?_
  refine OJ.run [2, 3, 4] [5, 6, 7, 8, 9] [1, 7] (m2 := [(1, .pointer (some (pt b1 0))), (7, .bool (decide ((a0.L.len : Int) > 0)))]) (by kernel_rfl) (by kernel_rfl) ?_
  refine OJ.join (b := decide ((a0.L.len : Int) > 0)) [5, 6, 7, 8] [9] [11] (fun y3 => [(11, .bool y3)]) [] [] (by kernel_rfl) (t := 7) (by kernel_rfl) decide_eq_true_iff (fun hp_ => ?_) (fun hp_ => ?_) (by kernel_rfl) (fun _ _ _ _ _ _ h_ => h_) (fun y3 => ?_)
  · refine OJ.kld (d := 8) (T := 116) (y := .tmp 1) (cd := c_weirref18_Line) (j := 0) (b := b1) (o := 0) a0 (pend2 := []) (by kernel_rfl) (by kernel_rfl) Ty116 (by kernel_rfl) rfl (At.whole _) (by kernel_rfl) rfl ?_
    refine OJ.call (d := 9) (g := 65) (ats := #[116]) (args := [.tmp 8]) (vals := [c_weirref18_Line.val a0]) (owed := []) (by kernel_rfl) F65 (by kernel_rfl) (weirref18_held_ok a0) (by kernel_rfl) (by kernel_rfl) (by kernel_rfl) (fun r2 => ?_)
    refine OW.nil ?_
    refine OJ.run [7, 8] [] [11] (m2 := [(11, .bool (!r2))]) (by kernel_rfl) (by kernel_rfl) ?_
    exact OJ.nil ⟨(Cov.mem Cov.nil), rfl, _, rfl, by kernel_rfl⟩
  · refine OJ.run [5, 6, 7, 8] [] [11] (m2 := [(11, .bool false)]) (by kernel_rfl) (by kernel_rfl) ?_
    exact OJ.nil ⟨(Cov.mem Cov.nil), rfl, _, rfl, by kernel_rfl⟩
  · refine OJ.run [9] [] [2] (m2 := [(2, .bool y3)]) (by kernel_rfl) (by kernel_rfl) ?_
    refine OJ.nil ?_
    exact SJ.ret (by kernel_rfl) rfl (Res.run (ys := [.bool y3]) (.tmp (by kernel_rfl) .nil) rfl)

/-! ### weir/weirref18.some: function 62 -/
noncomputable def weirref18_some.B : Code := (Try.f62.body).getD .skip
noncomputable def weirref18_some.cx : Fx := ⟨Try.prog, 62, Try.f62⟩
noncomputable def weirref18_some.out (r_ : Bool) : Value := .bool r_
noncomputable def weirref18_some.F0 (r_ : Bool) : Reach := .ret (weirref18_some.out r_)
noncomputable def weirref18_some.F1 (a0 : weirref18_Queue) (b1 : Nat) : (LS Int Bool) → Reach := loopF [.inLoop (c1 (c1 (c2 (c1 (c2 weirref18_some.B))))), .inBlock 0, .code (c2 (c2 weirref18_some.B))] (fun s_ : Int => [(1, .pointer (some (pt b1 0))), (3, .int .i64 s_)]) (fun s_ : Int => [(b1, c_weirref18_Queue.enc a0)]) weirref18_some.F0
noncomputable def weirref18_some.L1 (a0 : weirref18_Queue) (s2 : Int) : M (LS Int Bool) :=
  if s2 < (a0.L.len : Int) then
    idx a0.L.a a0.L.len s2 8 >>= fun p8 =>
    ld c_weirref18_Line p8 >>= fun x9 =>
    weirref18_ready x9 >>= fun r10 =>
    if r10 = true then
      pure (LS.done true)
    else
      pure (LS.next (IntKind.wrap .i64 (s2 + 1)))
  else
    pure (LS.done false)
theorem weirref18_some.L1_ok (a0 : weirref18_Queue) (b1 : Nat) (s2 : Int) :
    SJ weirref18_some.cx [.code (c1 (c1 (c2 (c1 (c2 weirref18_some.B))))), .inLoop (c1 (c1 (c2 (c1 (c2 weirref18_some.B))))), .inBlock 0, .code (c2 (c2 weirref18_some.B))] [(1, .pointer (some (pt b1 0))), (3, .int .i64 s2)] [(b1, c_weirref18_Queue.enc a0)] (weirref18_some.L1 a0 s2) (weirref18_some.F1 a0 b1) := by
  unfold weirref18_some.L1
  refine SJ.seq (by kernel_rfl) ?_
  refine SJ.seq (by kernel_rfl) ?_
  refine SJ.region (id := 2) (by kernel_rfl) [0, 1, 2, 3, 4] (by kernel_rfl) ?_
  refine OJ.run [0, 1] [2, 3, 4] [1, 3, 5, 6] (m2 := [(1, .pointer (some (pt b1 0))), (3, .int .i64 s2), (5, .int .i64 s2), (6, .pointer (some (pt b1 0)))]) (by kernel_rfl) (by kernel_rfl) ?_
  refine OJ.kld (d := 7) (T := 69) (y := .tmp 6) (cd := cL) (j := 0) (b := b1) (o := 0) a0.L (pend2 := []) (by kernel_rfl) (by kernel_rfl) Ty69 (by kernel_rfl) rfl (At_weirref18_Queue_L a0) (by kernel_rfl) rfl ?_
  refine OJ.run [3, 4] [] [1, 3, 9] (m2 := [(1, .pointer (some (pt b1 0))), (3, .int .i64 s2), (9, .bool (decide (s2 < (a0.L.len : Int))))]) (by kernel_rfl) (by kernel_rfl) ?_
  refine OJ.nil ?_
  refine SJ.cond (t := (.tmp 9)) (b := decide (s2 < (a0.L.len : Int))) (by kernel_rfl) (by kernel_rfl) decide_eq_true_iff (fun hc12 => ?_) (fun hc12 => ?_)
  · refine SJ.skip (by kernel_rfl) ?_
    refine SJ.seq (by kernel_rfl) ?_
    refine SJ.block (id := 1) (by kernel_rfl) ?_
    refine SJ.seq (by kernel_rfl) ?_
    refine SJ.region (id := 4) (by kernel_rfl) [0, 1, 2, 3, 4, 5, 6] (by kernel_rfl) ?_
    refine OJ.run [0] [1, 2, 3, 4, 5, 6] [1, 3, 12] (m2 := [(1, .pointer (some (pt b1 0))), (3, .int .i64 s2), (12, .pointer (some (pt b1 0)))]) (by kernel_rfl) (by kernel_rfl) ?_
    refine OJ.kld (d := 13) (T := 69) (y := .tmp 12) (cd := cL) (j := 0) (b := b1) (o := 0) a0.L (pend2 := []) (by kernel_rfl) (by kernel_rfl) Ty69 (by kernel_rfl) rfl (At_weirref18_Queue_L a0) (by kernel_rfl) rfl ?_
    refine OJ.run [2] [3, 4, 5, 6] [1, 3, 13, 14] (m2 := [(1, .pointer (some (pt b1 0))), (3, .int .i64 s2), (13, Sl.v a0.L), (14, .int .i64 s2)]) (by kernel_rfl) (by kernel_rfl) ?_
    refine OJ.idxS (d := 15) (T := 69) (y := .tmp 13) (j := .tmp 14) (E := 116) (cap := a0.L.cap) (k := .i64) (by kernel_rfl) (by kernel_rfl) (by kernel_rfl) (by kernel_rfl) (by kernel_rfl) (by kernel_rfl) (by kernel_rfl) (by kernel_rfl) (fun p8 => ?_)
    refine OJ.ld (d := 16) (T := 116) (y := .tmp 15) (pend2 := fun x9 => []) (by kernel_rfl) (by kernel_rfl) Ty116 (by kernel_rfl) (by kernel_rfl) (fun _ => rfl) (fun x9 => ?_)
    refine OJ.call (d := 17) (g := 63) (ats := #[116]) (args := [.tmp 16]) (vals := [c_weirref18_Line.val x9]) (owed := []) (by kernel_rfl) F63 (by kernel_rfl) (weirref18_ready_ok x9) (by kernel_rfl) (by kernel_rfl) (by kernel_rfl) (fun r10 => ?_)
    refine OW.nil ?_
    refine OJ.run [6] [] [1, 3, 4] (m2 := [(1, .pointer (some (pt b1 0))), (3, .int .i64 s2), (4, .bool r10)]) (by kernel_rfl) (by kernel_rfl) ?_
    refine OJ.nil ?_
    refine SJ.seq (by kernel_rfl) ?_
    refine SJ.region (id := 5) (by kernel_rfl) [0] (by kernel_rfl) ?_
    refine OJ.run [0] [] [1, 3, 18] (m2 := [(1, .pointer (some (pt b1 0))), (3, .int .i64 s2), (18, .bool r10)]) (by kernel_rfl) (by kernel_rfl) ?_
    refine OJ.nil ?_
    refine SJ.cond (t := (.tmp 18)) (b := r10) (by kernel_rfl) (by kernel_rfl) Iff.rfl (fun hc11 => ?_) (fun hc11 => ?_)
    · refine SJ.seq (by kernel_rfl) ?_
      refine SJ.region (id := 6) (by kernel_rfl) [0] (by kernel_rfl) ?_
      refine OJ.run [0] [] [2] (m2 := [(2, .bool true)]) (by kernel_rfl) (by kernel_rfl) ?_
      refine OJ.nil ?_
      exact SJ.ret (by kernel_rfl) rfl (Res.run (ys := [.bool true]) (.tmp (by kernel_rfl) .nil) rfl)
    · refine SJ.skip (by kernel_rfl) ?_
      refine SJ.inBlock ?_
      refine SJ.region (id := 3) (by kernel_rfl) [0, 1, 2] (by kernel_rfl) ?_
      refine OJ.run [0, 1, 2] [] [1, 3] (m2 := [(1, .pointer (some (pt b1 0))), (3, .int .i64 (IntKind.wrap .i64 (s2 + 1)))]) (by kernel_rfl) (by kernel_rfl) ?_
      refine OJ.nil ?_
      exact SJ.at_ [1, 3] rfl (by kernel_rfl)
  · refine SJ.exit (id := 0) (by kernel_rfl) (by rfl) ?_
    refine SJ.seq (by kernel_rfl) ?_
    refine SJ.region (id := 7) (by kernel_rfl) [0] (by kernel_rfl) ?_
    refine OJ.run [0] [] [2] (m2 := [(2, .bool false)]) (by kernel_rfl) (by kernel_rfl) ?_
    refine OJ.nil ?_
    exact SJ.ret (by kernel_rfl) rfl (Res.run (ys := [.bool false]) (.tmp (by kernel_rfl) .nil) rfl)
noncomputable def weirref18_some (a0 : weirref18_Queue) : M Bool :=
  slot 71 >>= fun b1 =>
  loopM (fun s_ : Int => weirref18_some.L1 a0 s_) 0
theorem weirref18_some_ok (a0 : weirref18_Queue) : Ref Try.prog 62 [c_weirref18_Queue.val a0] (weirref18_some a0) weirref18_some.out := by
  refine Ref.of (cd := weirref18_some.B) Try.func62 (by kernel_rfl) (by kernel_rfl) ?_
  show SJ weirref18_some.cx [.code weirref18_some.B] [(0, c_weirref18_Queue.val a0)] [] (weirref18_some a0) weirref18_some.F0
  unfold weirref18_some
  refine SJ.seq (by kernel_rfl) ?_
  refine SJ.region (id := 0) (by kernel_rfl) [0, 1] (by kernel_rfl) ?_
  refine OJ.slotOf (d := 1) (op := (.box 71 (.tmp 0))) (cd := c_weirref18_Queue) (u := a0) (owed := []) (by kernel_rfl) (box_run (by kernel_rfl)) (by kernel_rfl) (by kernel_rfl) (by kernel_rfl) (fun b1 => ?_)
  refine OW.nil ?_
  refine OJ.run [1] [] [1] (m2 := [(1, .pointer (some (pt b1 0)))]) (by kernel_rfl) (by kernel_rfl) ?_
  refine OJ.nil ?_
  refine SJ.seq (by kernel_rfl) ?_
  refine SJ.seq (by kernel_rfl) ?_
  refine SJ.region (id := 1) (by kernel_rfl) [0] (by kernel_rfl) ?_
  refine OJ.run [0] [] [1, 3] (m2 := [(1, .pointer (some (pt b1 0))), (3, .int .i64 0)]) (by kernel_rfl) (by kernel_rfl) ?_
  refine OJ.nil ?_
  refine SJ.block (id := 0) (by kernel_rfl) ?_
  exact SJ.loop (fun s_ : Int => [(1, .pointer (some (pt b1 0))), (3, .int .i64 s_)]) (fun s_ : Int => [(b1, c_weirref18_Queue.enc a0)]) [1, 3] (by kernel_rfl) (by kernel_rfl) rfl (fun _ _ => rfl) (fun s_ => weirref18_some.L1_ok a0 b1 s_)
end Go.Proofs.Ytgddbpmfendaeaa.Lx
