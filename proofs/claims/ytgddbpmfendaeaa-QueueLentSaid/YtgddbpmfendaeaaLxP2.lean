/- Programs of the M-world for Go functions, each with the proof that the Go text does what it says. Printed by lxgen.py. -/
import Derived.Test.YtgddbpmfendaeaaLxT
import Derived.Test.YtgddbpmfendaeaaLxP0
import Derived.Test.YtgddbpmfendaeaaLxP1
set_option linter.unusedVariables false
set_option linter.unusedSimpArgs false
namespace Go.Proofs.Ytgddbpmfendaeaa.Lx
open Go Go.Proofs
/-! ### weir/weirref18.onward: function 64 -/
noncomputable def weirref18_onward.B : Code := (Try.f64.body).getD .skip
noncomputable def weirref18_onward.cx : Fx := ⟨Try.prog, 64, Try.f64⟩
noncomputable def weirref18_onward.out (r_ : weirref18_Queue) : Value := c_weirref18_Queue.val r_
noncomputable def weirref18_onward.F0 (r_ : weirref18_Queue) : Reach := .ret (weirref18_onward.out r_)
noncomputable def weirref18_onward.K1 (j14 : weirref18_Queue) : M weirref18_Queue :=
  chk ((j14.L.len : Int) ≠ 0) >>= fun _ =>
  pure (⟨j14.L, Int.tmod (IntKind.wrap .i64 (j14.At + 1)) (j14.L.len : Int), false⟩ : weirref18_Queue)
theorem weirref18_onward.K1_ok (b1 : Nat) (b2 : Nat) (j14 : weirref18_Queue) :
    SJ weirref18_onward.cx [.code (c2 (c2 (c2 weirref18_onward.B)))] [(1, .pointer (some (pt b1 0))), (2, .pointer (some (pt b2 0)))] [(b2, c_weirref18_Queue.enc z_weirref18_Queue), (b1, c_weirref18_Queue.enc j14)] (weirref18_onward.K1 j14) weirref18_onward.F0 := by
  unfold weirref18_onward.K1
  refine SJ.seq (by kernel_rfl) ?_
  refine SJ.region (id := 5) (by kernel_rfl) [0, 1, 2, 3, 4, 5, 6, 7, 8] (by kernel_rfl) ?_
  refine OJ.run [0] [1, 2, 3, 4, 5, 6, 7, 8] [1, 2, 39] (m2 := [(1, .pointer (some (pt b1 0))), (2, .pointer (some (pt b2 0))), (39, .pointer (some (pt b1 1)))]) (by kernel_rfl) (by kernel_rfl) ?_
  refine OJ.kld (d := 40) (T := 3) (y := .tmp 39) (cd := (cI .i64)) (j := 1) (b := b1) (o := 1) j14.At (pend2 := []) (by kernel_rfl) (by kernel_rfl) Ty3 (by kernel_rfl) rfl (At_weirref18_Queue_At j14) (by kernel_rfl) rfl ?_
  refine OJ.run [2, 3] [4, 5, 6, 7, 8] [1, 2, 41, 42] (m2 := [(1, .pointer (some (pt b1 0))), (2, .pointer (some (pt b2 0))), (41, .int .i64 (IntKind.wrap .i64 (j14.At + 1))), (42, .pointer (some (pt b1 0)))]) (by kernel_rfl) (by kernel_rfl) ?_
  refine OJ.kld (d := 43) (T := 69) (y := .tmp 42) (cd := cL) (j := 1) (b := b1) (o := 0) j14.L (pend2 := []) (by kernel_rfl) (by kernel_rfl) Ty69 (by kernel_rfl) rfl (At_weirref18_Queue_L j14) (by kernel_rfl) rfl ?_
  refine OJ.run [5] [6, 7, 8] [1, 2, 41, 44] (m2 := [(1, .pointer (some (pt b1 0))), (2, .pointer (some (pt b2 0))), (41, .int .i64 (IntKind.wrap .i64 (j14.At + 1))), (44, .int .i64 (j14.L.len : Int))]) (by kernel_rfl) (by kernel_rfl) ?_
  refine OJ.rem (d := 45) (T := 3) (yT := 3) (y := .tmp 41) (z := .tmp 44) (p := (IntKind.wrap .i64 (j14.At + 1))) (q := (j14.L.len : Int)) (k := .i64) (by kernel_rfl) (by kernel_rfl) (by kernel_rfl) (by kernel_rfl) (by kernel_rfl) (by kernel_rfl) (fun hq15 => ?_)
  refine OJ.run [7] [8] [1, 2, 45, 46] (m2 := [(1, .pointer (some (pt b1 0))), (2, .pointer (some (pt b2 0))), (45, .int .i64 (Int.tmod (IntKind.wrap .i64 (j14.At + 1)) (j14.L.len : Int))), (46, .pointer (some (pt b1 1)))]) (by kernel_rfl) (by kernel_rfl) ?_
  refine OJ.kst (T := 3) (y := .tmp 46) (z := .tmp 45) (cd := (cI .i64)) (u := (Int.tmod (IntKind.wrap .i64 (j14.At + 1)) (j14.L.len : Int))) (j := 1) (b := b1) (o := 1) (c_weirref18_Queue.enc (⟨j14.L, Int.tmod (IntKind.wrap .i64 (j14.At + 1)) (j14.L.len : Int), j14.Given⟩ : weirref18_Queue)) (h2 := [(b2, c_weirref18_Queue.enc z_weirref18_Queue), (b1, c_weirref18_Queue.enc (⟨j14.L, Int.tmod (IntKind.wrap .i64 (j14.At + 1)) (j14.L.len : Int), j14.Given⟩ : weirref18_Queue))]) (owed := []) (by kernel_rfl) (by kernel_rfl) (by kernel_rfl) Ty3 rfl (Up_weirref18_Queue_At j14 (Int.tmod (IntKind.wrap .i64 (j14.At + 1)) (j14.L.len : Int))) (by kernel_rfl) (by kernel_rfl) rfl ?_
  refine OW.nil ?_
  refine OJ.nil ?_
  refine SJ.seq (by kernel_rfl) ?_
  refine SJ.region (id := 6) (by kernel_rfl) [0, 1] (by kernel_rfl) ?_
  refine OJ.run [0] [1] [1, 2, 47] (m2 := [(1, .pointer (some (pt b1 0))), (2, .pointer (some (pt b2 0))), (47, .pointer (some (pt b1 2)))]) (by kernel_rfl) (by kernel_rfl) ?_
  refine OJ.kst (T := 4) (y := .tmp 47) (z := .const (.bool false)) (cd := cB) (u := false) (j := 1) (b := b1) (o := 2) (c_weirref18_Queue.enc (⟨j14.L, Int.tmod (IntKind.wrap .i64 (j14.At + 1)) (j14.L.len : Int), false⟩ : weirref18_Queue)) (h2 := [(b2, c_weirref18_Queue.enc z_weirref18_Queue), (b1, c_weirref18_Queue.enc (⟨j14.L, Int.tmod (IntKind.wrap .i64 (j14.At + 1)) (j14.L.len : Int), false⟩ : weirref18_Queue))]) (owed := []) (by kernel_rfl) (by kernel_rfl) (by kernel_rfl) Ty4 rfl (Up_weirref18_Queue_Given (⟨j14.L, Int.tmod (IntKind.wrap .i64 (j14.At + 1)) (j14.L.len : Int), j14.Given⟩ : weirref18_Queue) false) (by kernel_rfl) (by kernel_rfl) rfl ?_
  refine OW.nil ?_
  refine OJ.nil ?_
  refine SJ.seq (by kernel_rfl) ?_
  refine SJ.region (id := 7) (by kernel_rfl) [0, 1] (by kernel_rfl) ?_
  refine OJ.kld (d := 48) (T := 71) (y := .tmp 1) (cd := c_weirref18_Queue) (j := 1) (b := b1) (o := 0) (⟨j14.L, Int.tmod (IntKind.wrap .i64 (j14.At + 1)) (j14.L.len : Int), false⟩ : weirref18_Queue) (pend2 := []) (by kernel_rfl) (by kernel_rfl) Ty71 (by kernel_rfl) rfl (At.whole _) (by kernel_rfl) rfl ?_
  refine OJ.kst (T := 71) (y := .tmp 2) (z := .tmp 48) (cd := c_weirref18_Queue) (u := (⟨j14.L, Int.tmod (IntKind.wrap .i64 (j14.At + 1)) (j14.L.len : Int), false⟩ : weirref18_Queue)) (j := 0) (b := b2) (o := 0) (c_weirref18_Queue.enc (⟨j14.L, Int.tmod (IntKind.wrap .i64 (j14.At + 1)) (j14.L.len : Int), false⟩ : weirref18_Queue)) (h2 := [(b2, c_weirref18_Queue.enc (⟨j14.L, Int.tmod (IntKind.wrap .i64 (j14.At + 1)) (j14.L.len : Int), false⟩ : weirref18_Queue)), (b1, c_weirref18_Queue.enc (⟨j14.L, Int.tmod (IntKind.wrap .i64 (j14.At + 1)) (j14.L.len : Int), false⟩ : weirref18_Queue))]) (owed := []) (by kernel_rfl) (by kernel_rfl) (by kernel_rfl) Ty71 rfl (Upd.whole ((Cod.len _ _).trans (Cod.len _ _).symm)) (by kernel_rfl) (by kernel_rfl) rfl ?_
  refine OW.nil ?_
  refine OJ.nil ?_
  exact SJ.ret (by kernel_rfl) rfl (Res.run (ys := [c_weirref18_Queue.val (⟨j14.L, Int.tmod (IntKind.wrap .i64 (j14.At + 1)) (j14.L.len : Int), false⟩ : weirref18_Queue)]) (.cell (j := 0) (b := b2) (cd := c_weirref18_Queue) (q := (⟨j14.L, Int.tmod (IntKind.wrap .i64 (j14.At + 1)) (j14.L.len : Int), false⟩ : weirref18_Queue)) (by kernel_rfl) rfl Ty71 (At.whole _) .nil) rfl)
noncomputable def weirref18_onward (a0 : weirref18_Queue) : M weirref18_Queue :=
  slot 71 >>= fun b1 =>
  slot 71 >>= fun b2 =>
  idx a0.L.a a0.L.len a0.At 8 >>= fun p3 =>
  ld c_weirref18_Line p3 >>= fun x4 =>
  slot 116 >>= fun b5 =>
  draw >>= fun _ =>
  (if (x4.L.len : Int) > 0 then
      weirref18_held x4 >>= fun r6 =>
      pure r6
    else
      pure false) >>= fun y7 =>
  (if y7 = true then
      idx x4.L.a x4.L.len 0 2 >>= fun p8 =>
      ld (cI .i64) p8 >>= fun x9 =>
      pure (decide (x4.Deficit > x9))
    else
      pure false) >>= fun y10 =>
  if y10 = true then
    idx x4.L.a x4.L.len 0 2 >>= fun p16 =>
    ld (cI .i64) p16 >>= fun x17 =>
    weirref18_put a0 a0.At (⟨x4.C, x4.L, x17, x4.Tokens⟩ : weirref18_Line) >>= fun r18 =>
    weirref18_onward.K1 r18
  else
    weirref18_onward.K1 a0
theorem weirref18_onward_ok (a0 : weirref18_Queue) : Ref Try.prog 64 [c_weirref18_Queue.val a0] (weirref18_onward a0) weirref18_onward.out := by
  refine Ref.of (cd := weirref18_onward.B) Try.func64 (by kernel_rfl) (by kernel_rfl) ?_
  show SJ weirref18_onward.cx [.code weirref18_onward.B] [(0, c_weirref18_Queue.val a0)] [] (weirref18_onward a0) weirref18_onward.F0
  unfold weirref18_onward
  refine SJ.seq (by kernel_rfl) ?_
  refine SJ.region (id := 0) (by kernel_rfl) [0, 1] (by kernel_rfl) ?_
  refine OJ.slotOf (d := 1) (op := (.box 71 (.tmp 0))) (cd := c_weirref18_Queue) (u := a0) (owed := []) (by kernel_rfl) (box_run (by kernel_rfl)) (by kernel_rfl) (by kernel_rfl) (by kernel_rfl) (fun b1 => ?_)
  refine OW.nil ?_
  refine OJ.slotOf (d := 2) (op := (.alloc 71)) (cd := c_weirref18_Queue) (u := z_weirref18_Queue) (owed := []) (by kernel_rfl) (alloc_run Ty71) (by kernel_rfl) (by kernel_rfl) (by kernel_rfl) (fun b2 => ?_)
  refine OW.nil ?_
  refine OJ.nil ?_
  refine SJ.seq (by kernel_rfl) ?_
  refine SJ.region (id := 1) (by kernel_rfl) [0, 1, 2, 3, 4, 5, 6, 7] (by kernel_rfl) ?_
  refine OJ.run [0] [1, 2, 3, 4, 5, 6, 7] [1, 2, 4] (m2 := [(1, .pointer (some (pt b1 0))), (2, .pointer (some (pt b2 0))), (4, .pointer (some (pt b1 0)))]) (by kernel_rfl) (by kernel_rfl) ?_
  refine OJ.kld (d := 5) (T := 69) (y := .tmp 4) (cd := cL) (j := 1) (b := b1) (o := 0) a0.L (pend2 := []) (by kernel_rfl) (by kernel_rfl) Ty69 (by kernel_rfl) rfl (At_weirref18_Queue_L a0) (by kernel_rfl) rfl ?_
  refine OJ.run [2] [3, 4, 5, 6, 7] [1, 2, 5, 6] (m2 := [(1, .pointer (some (pt b1 0))), (2, .pointer (some (pt b2 0))), (5, Sl.v a0.L), (6, .pointer (some (pt b1 1)))]) (by kernel_rfl) (by kernel_rfl) ?_
  refine OJ.kld (d := 7) (T := 3) (y := .tmp 6) (cd := (cI .i64)) (j := 1) (b := b1) (o := 1) a0.At (pend2 := []) (by kernel_rfl) (by kernel_rfl) Ty3 (by kernel_rfl) rfl (At_weirref18_Queue_At a0) (by kernel_rfl) rfl ?_
  refine OJ.idxS (d := 8) (T := 69) (y := .tmp 5) (j := .tmp 7) (E := 116) (cap := a0.L.cap) (k := .i64) (by kernel_rfl) (by kernel_rfl) (by kernel_rfl) (by kernel_rfl) (by kernel_rfl) (by kernel_rfl) (by kernel_rfl) (by kernel_rfl) (fun p3 => ?_)
  refine OJ.ld (d := 9) (T := 116) (y := .tmp 8) (pend2 := fun x4 => []) (by kernel_rfl) (by kernel_rfl) Ty116 (by kernel_rfl) (by kernel_rfl) (fun _ => rfl) (fun x4 => ?_)
  refine OJ.slotOf (d := 3) (op := (.alloc 116)) (cd := c_weirref18_Line) (u := z_weirref18_Line) (owed := []) (by kernel_rfl) (alloc_run Ty116) (by kernel_rfl) (by kernel_rfl) (by kernel_rfl) (fun b5 => ?_)
  refine OW.nil ?_
  refine OJ.kst (T := 116) (y := .tmp 3) (z := .tmp 9) (cd := c_weirref18_Line) (u := x4) (j := 0) (b := b5) (o := 0) (c_weirref18_Line.enc x4) (h2 := [(b5, c_weirref18_Line.enc x4), (b2, c_weirref18_Queue.enc z_weirref18_Queue), (b1, c_weirref18_Queue.enc a0)]) (owed := []) (by kernel_rfl) (by kernel_rfl) (by kernel_rfl) Ty116 rfl (Upd.whole ((Cod.len _ _).trans (Cod.len _ _).symm)) (by kernel_rfl) (by kernel_rfl) rfl ?_
  refine OW.nil ?_
  refine OJ.nil ?_
  refine SJ.seq (by kernel_rfl) ?_
  refine SJ.seq (by kernel_rfl) ?_
  refine SJ.draw (id := 2) (kd := [0, 1, 0, 0, 0, 1, 2, 0, 0, 0, 1, 0, 1, 0, 0, 1, 0, 0]) (bef := [0, 1, 3, 7, 15, 31, 63, 127, 255, 511, 1023, 511, 2559, 6655, 14847, 31231, 65535, 131071]) (ord := [0, 1, 2, 3, 4, 5, 6, 7, 8, 9, 10, 11, 12, 13, 14, 15, 16, 17]) (by kernel_rfl) mixed (by kernel_rfl) ?_
  refine OJ.run [0] [1, 2, 3, 4, 5, 6, 7, 8, 9, 10, 11, 12, 13, 14, 15, 16, 17] [1, 2, 3, 10] (m2 := [(1, .pointer (some (pt b1 0))), (2, .pointer (some (pt b2 0))), (3, .pointer (some (pt b5 0))), (10, .pointer (some (pt b5 5)))]) (by kernel_rfl) (by kernel_rfl) ?_
  refine OJ.kld (d := 11) (T := 114) (y := .tmp 10) (cd := cL) (j := 0) (b := b5) (o := 5) x4.L (pend2 := [⟨1, 114, (pt b5 5), cL.val x4.L⟩]) (by kernel_rfl) (by kernel_rfl) Ty114 (by kernel_rfl) rfl (At_weirref18_Line_L x4) (by kernel_rfl) rfl ?_
  refine OJ.run [2, 3, 4] [5, 6, 7, 8, 9, 10, 11, 12, 13, 14, 15, 16, 17] [1, 2, 3, 14] (m2 := [(1, .pointer (some (pt b1 0))), (2, .pointer (some (pt b2 0))), (3, .pointer (some (pt b5 0))), (14, .bool (decide ((x4.L.len : Int) > 0)))]) (by kernel_rfl) (by kernel_rfl) ?_
  refine OJ.join (b := decide ((x4.L.len : Int) > 0)) [5, 6, 7] [8, 9, 10, 11, 12, 13, 14, 15, 16, 17] [1, 2, 3, 17] (fun y7 => [(1, .pointer (some (pt b1 0))), (2, .pointer (some (pt b2 0))), (3, .pointer (some (pt b5 0))), (17, .bool y7)]) [⟨5, 116, (pt b5 0), c_weirref18_Line.val x4⟩, ⟨1, 114, (pt b5 5), cL.val x4.L⟩] [] (by kernel_rfl) (t := 14) (by kernel_rfl) decide_eq_true_iff (fun hp_ => ?_) (fun hp_ => ?_) (by kernel_rfl) (fun _ _ _ _ _ _ h_ => h_) (fun y7 => ?_)
  · refine OJ.kld (d := 15) (T := 116) (y := .tmp 3) (cd := c_weirref18_Line) (j := 0) (b := b5) (o := 0) x4 (pend2 := [⟨5, 116, (pt b5 0), c_weirref18_Line.val x4⟩, ⟨1, 114, (pt b5 5), cL.val x4.L⟩]) (by kernel_rfl) (by kernel_rfl) Ty116 (by kernel_rfl) rfl (At.whole _) (by kernel_rfl) rfl ?_
    refine OJ.call (d := 16) (g := 65) (ats := #[116]) (args := [.tmp 15]) (vals := [c_weirref18_Line.val x4]) (owed := []) (by kernel_rfl) F65 (by kernel_rfl) (weirref18_held_ok x4) (by kernel_rfl) (by kernel_rfl) (by kernel_rfl) (fun r6 => ?_)
    refine OW.nil ?_
    refine OJ.run [7] [] [1, 2, 3, 17] (m2 := [(1, .pointer (some (pt b1 0))), (2, .pointer (some (pt b2 0))), (3, .pointer (some (pt b5 0))), (17, .bool r6)]) (by kernel_rfl) (by kernel_rfl) ?_
    exact OJ.nil ⟨(Cov.mem (Cov.keep (List.mem_of_getElem? (i := 0) rfl) (Cov.keep (List.mem_of_getElem? (i := 1) rfl) Cov.nil))), rfl, _, rfl, by kernel_rfl⟩
  · refine OJ.run [5, 6, 7] [] [1, 2, 3, 17] (m2 := [(1, .pointer (some (pt b1 0))), (2, .pointer (some (pt b2 0))), (3, .pointer (some (pt b5 0))), (17, .bool false)]) (by kernel_rfl) (by kernel_rfl) ?_
    exact OJ.nil ⟨(Cov.mem (Cov.keep (List.mem_of_getElem? (i := 1) rfl) Cov.nil)), rfl, _, rfl, by kernel_rfl⟩
  · refine OJ.run [8] [9, 10, 11, 12, 13, 14, 15, 16, 17] [1, 2, 3, 18] (m2 := [(1, .pointer (some (pt b1 0))), (2, .pointer (some (pt b2 0))), (3, .pointer (some (pt b5 0))), (18, .bool y7)]) (by kernel_rfl) (by kernel_rfl) ?_
    refine OJ.join (b := y7) [9, 10, 11, 12, 13, 14, 15, 16, 17] [] [1, 2, 3, 27] (fun y10 => [(1, .pointer (some (pt b1 0))), (2, .pointer (some (pt b2 0))), (3, .pointer (some (pt b5 0))), (27, .bool y10)]) [⟨12, 114, (pt b5 5), cL.val x4.L⟩, ⟨10, 3, (pt b5 6), (cI .i64).val x4.Deficit⟩, ⟨5, 116, (pt b5 0), c_weirref18_Line.val x4⟩, ⟨1, 114, (pt b5 5), cL.val x4.L⟩] [15] (by kernel_rfl) (t := 18) (by kernel_rfl) Iff.rfl (fun hp_ => ?_) (fun hp_ => ?_) (by kernel_rfl) (fun _ _ _ _ _ _ h_ => h_) (fun y10 => ?_)
    · refine OJ.run [9] [10, 11, 12, 13, 14, 15, 16, 17] [1, 2, 3, 18, 19] (m2 := [(1, .pointer (some (pt b1 0))), (2, .pointer (some (pt b2 0))), (3, .pointer (some (pt b5 0))), (18, .bool true), (19, .pointer (some (pt b5 6)))]) (by kernel_rfl) (by kernel_rfl) ?_
      refine OJ.kld (d := 20) (T := 3) (y := .tmp 19) (cd := (cI .i64)) (j := 0) (b := b5) (o := 6) x4.Deficit (pend2 := [⟨10, 3, (pt b5 6), (cI .i64).val x4.Deficit⟩, ⟨5, 116, (pt b5 0), c_weirref18_Line.val x4⟩, ⟨1, 114, (pt b5 5), cL.val x4.L⟩]) (by kernel_rfl) (by kernel_rfl) Ty3 (by kernel_rfl) rfl (At_weirref18_Line_Deficit x4) (by kernel_rfl) rfl ?_
      refine OJ.run [11] [12, 13, 14, 15, 16, 17] [1, 2, 3, 18, 20, 21] (m2 := [(1, .pointer (some (pt b1 0))), (2, .pointer (some (pt b2 0))), (3, .pointer (some (pt b5 0))), (18, .bool true), (20, .int .i64 x4.Deficit), (21, .pointer (some (pt b5 5)))]) (by kernel_rfl) (by kernel_rfl) ?_
      refine OJ.kld (d := 22) (T := 114) (y := .tmp 21) (cd := cL) (j := 0) (b := b5) (o := 5) x4.L (pend2 := [⟨12, 114, (pt b5 5), cL.val x4.L⟩, ⟨10, 3, (pt b5 6), (cI .i64).val x4.Deficit⟩, ⟨5, 116, (pt b5 0), c_weirref18_Line.val x4⟩, ⟨1, 114, (pt b5 5), cL.val x4.L⟩]) (by kernel_rfl) (by kernel_rfl) Ty114 (by kernel_rfl) rfl (At_weirref18_Line_L x4) (by kernel_rfl) rfl ?_
      refine OJ.idxS (d := 23) (T := 114) (y := .tmp 22) (j := .const (.int .i64 0)) (E := 125) (cap := x4.L.cap) (k := .i64) (by kernel_rfl) (by kernel_rfl) (by kernel_rfl) (by kernel_rfl) (by kernel_rfl) (by kernel_rfl) (by kernel_rfl) (by kernel_rfl) (fun p8 => ?_)
      refine OJ.run [14] [15, 16, 17] [1, 2, 3, 18, 20, 24] (m2 := [(1, .pointer (some (pt b1 0))), (2, .pointer (some (pt b2 0))), (3, .pointer (some (pt b5 0))), (18, .bool true), (20, .int .i64 x4.Deficit), (24, .pointer (some p8))]) (by kernel_rfl) (by kernel_rfl) ?_
      refine OJ.ld (d := 25) (T := 3) (y := .tmp 24) (pend2 := fun x9 => [⟨15, 3, p8, (cI .i64).val x9⟩, ⟨12, 114, (pt b5 5), cL.val x4.L⟩, ⟨10, 3, (pt b5 6), (cI .i64).val x4.Deficit⟩, ⟨5, 116, (pt b5 0), c_weirref18_Line.val x4⟩, ⟨1, 114, (pt b5 5), cL.val x4.L⟩]) (by kernel_rfl) (by kernel_rfl) Ty3 (by kernel_rfl) (by kernel_rfl) (fun _ => rfl) (fun x9 => ?_)
      refine OJ.run [16, 17] [] [1, 2, 3, 27] (m2 := [(1, .pointer (some (pt b1 0))), (2, .pointer (some (pt b2 0))), (3, .pointer (some (pt b5 0))), (27, .bool (decide (x4.Deficit > x9)))]) (by kernel_rfl) (by kernel_rfl) ?_
      exact OJ.nil ⟨(Cov.mem (Cov.drop (List.mem_of_getElem? (i := 0) rfl) (Cov.keep (List.mem_of_getElem? (i := 0) rfl) (Cov.keep (List.mem_of_getElem? (i := 1) rfl) (Cov.keep (List.mem_of_getElem? (i := 2) rfl) (Cov.keep (List.mem_of_getElem? (i := 3) rfl) Cov.nil)))))), rfl, _, rfl, by kernel_rfl⟩
    · refine OJ.run [9, 10, 11, 12, 13, 14, 15, 16, 17] [] [1, 2, 3, 27] (m2 := [(1, .pointer (some (pt b1 0))), (2, .pointer (some (pt b2 0))), (3, .pointer (some (pt b5 0))), (27, .bool false)]) (by kernel_rfl) (by kernel_rfl) ?_
      exact OJ.nil ⟨(Cov.mem (Cov.keep (List.mem_of_getElem? (i := 2) rfl) (Cov.keep (List.mem_of_getElem? (i := 3) rfl) Cov.nil))), rfl, _, rfl, by kernel_rfl⟩
    · refine OJ.nil ?_
      refine SJ.cond (t := (.tmp 27)) (b := y10) (by kernel_rfl) (by kernel_rfl) Iff.rfl (fun hc19 => ?_) (fun hc19 => ?_)
      · refine SJ.seq (by kernel_rfl) ?_
        refine SJ.region (id := 3) (by kernel_rfl) [0, 1, 2, 3, 4, 5, 6] (by kernel_rfl) ?_
        refine OJ.run [0] [1, 2, 3, 4, 5, 6] [1, 2, 3, 28] (m2 := [(1, .pointer (some (pt b1 0))), (2, .pointer (some (pt b2 0))), (3, .pointer (some (pt b5 0))), (28, .pointer (some (pt b5 5)))]) (by kernel_rfl) (by kernel_rfl) ?_
        refine OJ.kld (d := 29) (T := 114) (y := .tmp 28) (cd := cL) (j := 0) (b := b5) (o := 5) x4.L (pend2 := []) (by kernel_rfl) (by kernel_rfl) Ty114 (by kernel_rfl) rfl (At_weirref18_Line_L x4) (by kernel_rfl) rfl ?_
        refine OJ.idxS (d := 30) (T := 114) (y := .tmp 29) (j := .const (.int .i64 0)) (E := 125) (cap := x4.L.cap) (k := .i64) (by kernel_rfl) (by kernel_rfl) (by kernel_rfl) (by kernel_rfl) (by kernel_rfl) (by kernel_rfl) (by kernel_rfl) (by kernel_rfl) (fun p16 => ?_)
        refine OJ.run [3] [4, 5, 6] [1, 2, 3, 31] (m2 := [(1, .pointer (some (pt b1 0))), (2, .pointer (some (pt b2 0))), (3, .pointer (some (pt b5 0))), (31, .pointer (some p16))]) (by kernel_rfl) (by kernel_rfl) ?_
        refine OJ.ld (d := 32) (T := 3) (y := .tmp 31) (pend2 := fun x17 => []) (by kernel_rfl) (by kernel_rfl) Ty3 (by kernel_rfl) (by kernel_rfl) (fun _ => rfl) (fun x17 => ?_)
        refine OJ.run [5] [6] [1, 2, 3, 32, 33] (m2 := [(1, .pointer (some (pt b1 0))), (2, .pointer (some (pt b2 0))), (3, .pointer (some (pt b5 0))), (32, .int .i64 x17), (33, .pointer (some (pt b5 6)))]) (by kernel_rfl) (by kernel_rfl) ?_
        refine OJ.kst (T := 3) (y := .tmp 33) (z := .tmp 32) (cd := (cI .i64)) (u := x17) (j := 0) (b := b5) (o := 6) (c_weirref18_Line.enc (⟨x4.C, x4.L, x17, x4.Tokens⟩ : weirref18_Line)) (h2 := [(b5, c_weirref18_Line.enc (⟨x4.C, x4.L, x17, x4.Tokens⟩ : weirref18_Line)), (b2, c_weirref18_Queue.enc z_weirref18_Queue), (b1, c_weirref18_Queue.enc a0)]) (owed := []) (by kernel_rfl) (by kernel_rfl) (by kernel_rfl) Ty3 rfl (Up_weirref18_Line_Deficit x4 x17) (by kernel_rfl) (by kernel_rfl) rfl ?_
        refine OW.nil ?_
        refine OJ.nil ?_
        refine SJ.region (id := 4) (by kernel_rfl) [0, 1, 2, 3, 4, 5] (by kernel_rfl) ?_
        refine OJ.kld (d := 34) (T := 71) (y := .tmp 1) (cd := c_weirref18_Queue) (j := 2) (b := b1) (o := 0) a0 (pend2 := []) (by kernel_rfl) (by kernel_rfl) Ty71 (by kernel_rfl) rfl (At.whole _) (by kernel_rfl) rfl ?_
        refine OJ.run [1] [2, 3, 4, 5] [1, 2, 3, 34, 35] (m2 := [(1, .pointer (some (pt b1 0))), (2, .pointer (some (pt b2 0))), (3, .pointer (some (pt b5 0))), (34, c_weirref18_Queue.val a0), (35, .pointer (some (pt b1 1)))]) (by kernel_rfl) (by kernel_rfl) ?_
        refine OJ.kld (d := 36) (T := 3) (y := .tmp 35) (cd := (cI .i64)) (j := 2) (b := b1) (o := 1) a0.At (pend2 := []) (by kernel_rfl) (by kernel_rfl) Ty3 (by kernel_rfl) rfl (At_weirref18_Queue_At a0) (by kernel_rfl) rfl ?_
        refine OJ.kld (d := 37) (T := 116) (y := .tmp 3) (cd := c_weirref18_Line) (j := 0) (b := b5) (o := 0) (⟨x4.C, x4.L, x17, x4.Tokens⟩ : weirref18_Line) (pend2 := []) (by kernel_rfl) (by kernel_rfl) Ty116 (by kernel_rfl) rfl (At.whole _) (by kernel_rfl) rfl ?_
        refine OJ.call (d := 38) (g := 61) (ats := #[71, 3, 116]) (args := [.tmp 34, .tmp 36, .tmp 37]) (vals := [c_weirref18_Queue.val a0, .int .i64 a0.At, c_weirref18_Line.val (⟨x4.C, x4.L, x17, x4.Tokens⟩ : weirref18_Line)]) (owed := []) (by kernel_rfl) F61 (by kernel_rfl) (weirref18_put_ok a0 a0.At (⟨x4.C, x4.L, x17, x4.Tokens⟩ : weirref18_Line)) (by kernel_rfl) (by kernel_rfl) (by kernel_rfl) (fun r18 => ?_)
        refine OW.nil ?_
        refine OJ.kst (T := 71) (y := .tmp 1) (z := .tmp 38) (cd := c_weirref18_Queue) (u := r18) (j := 2) (b := b1) (o := 0) (c_weirref18_Queue.enc r18) (h2 := [(b5, c_weirref18_Line.enc (⟨x4.C, x4.L, x17, x4.Tokens⟩ : weirref18_Line)), (b2, c_weirref18_Queue.enc z_weirref18_Queue), (b1, c_weirref18_Queue.enc r18)]) (owed := []) (by kernel_rfl) (by kernel_rfl) (by kernel_rfl) Ty71 rfl (Upd.whole ((Cod.len _ _).trans (Cod.len _ _).symm)) (by kernel_rfl) (by kernel_rfl) rfl ?_
        refine OW.nil ?_
        refine OJ.nil ?_
        refine SJ.forget (List.Sublist.cons _ (List.Sublist.cons_cons _ (List.Sublist.cons_cons _ List.Sublist.slnil))) ?_
        refine SJ.less [1, 2] (m' := [(1, .pointer (some (pt b1 0))), (2, .pointer (some (pt b2 0)))]) (by kernel_rfl) ?_
        exact weirref18_onward.K1_ok b1 b2 r18
      · refine SJ.skip (by kernel_rfl) ?_
        refine SJ.forget (List.Sublist.cons _ (List.Sublist.cons_cons _ (List.Sublist.cons_cons _ List.Sublist.slnil))) ?_
        refine SJ.less [1, 2] (m' := [(1, .pointer (some (pt b1 0))), (2, .pointer (some (pt b2 0)))]) (by kernel_rfl) ?_
        exact weirref18_onward.K1_ok b1 b2 a0

/-! ### weir/weirref18.Pop: function 53 -/
noncomputable def weirref18_Pop.B : Code := (Try.f53.body).getD .skip
noncomputable def weirref18_Pop.cx : Fx := ⟨Try.prog, 53, Try.f53⟩
noncomputable def weirref18_Pop.out (r_ : (weirref18_Queue × Int × Int × Bool)) : Value := .tuple #[c_weirref18_Queue.val r_.1, .int .i64 r_.2.1, .int .i64 r_.2.2.1, .bool r_.2.2.2]
noncomputable def weirref18_Pop.F0 (r_ : (weirref18_Queue × Int × Int × Bool)) : Reach := .ret (weirref18_Pop.out r_)
noncomputable def weirref18_Pop.F1 (b1 : Nat) (b2 : Nat) : (LS (weirref18_Queue × weirref18_Queue) (weirref18_Queue × Int × Int × Bool)) → Reach := loopF [.inLoop (c1 (c1 (c2 (c2 (c2 weirref18_Pop.B))))), .inBlock 0] (fun s_ : (weirref18_Queue × weirref18_Queue) => [(1, .pointer (some (pt b1 0))), (2, .pointer (some (pt b2 0)))]) (fun s_ : (weirref18_Queue × weirref18_Queue) => [(b2, c_weirref18_Queue.enc s_.1), (b1, c_weirref18_Queue.enc s_.2)]) weirref18_Pop.F0
noncomputable def weirref18_Pop.K1 (j13 : weirref18_Queue) (x17 : Int) (j24 : weirref18_Line) : M (LS (weirref18_Queue × weirref18_Queue) (weirref18_Queue × Int × Int × Bool)) :=
  draw >>= fun _ =>
  weirref18_put j13 j13.At j24 >>= fun r25 =>
  pure (LS.done (r25, x17, j13.At, true))
theorem weirref18_Pop.K1_ok (b1 : Nat) (b2 : Nat) (s4 : weirref18_Queue) (b8 : Nat) (j13 : weirref18_Queue) (x17 : Int) (j24 : weirref18_Line) :
    SJ weirref18_Pop.cx [.code (c2 (c2 (c2 (c2 (c2 (c2 (c2 (c2 (c2 (c2 (c2 (c1 (c1 (c1 (c2 (c2 (c2 weirref18_Pop.B))))))))))))))))), .inBlock 1, .inLoop (c1 (c1 (c2 (c2 (c2 weirref18_Pop.B))))), .inBlock 0] [(1, .pointer (some (pt b1 0))), (2, .pointer (some (pt b2 0))), (7, .pointer (some (pt b8 0))), (9, .int .i64 x17)] [(b8, c_weirref18_Line.enc j24), (b2, c_weirref18_Queue.enc s4), (b1, c_weirref18_Queue.enc j13)] (weirref18_Pop.K1 j13 x17 j24) (weirref18_Pop.F1 b1 b2) := by
  unfold weirref18_Pop.K1
  refine SJ.seq (by kernel_rfl) ?_
  refine SJ.draw (id := 22) (kd := [1, 0, 1, 1, 2, 0, 0, 1, 2, 0, 0, 0]) (bef := [0, 0, 2, 0, 15, 0, 0, 64, 31, 319, 1023, 2047]) (ord := [0, 1, 2, 3, 6, 7, 4, 5, 8, 9, 10, 11]) (by kernel_rfl) mixed (by kernel_rfl) ?_
  refine OJ.kld (d := 82) (T := 71) (y := .tmp 1) (cd := c_weirref18_Queue) (j := 2) (b := b1) (o := 0) j13 (pend2 := [⟨0, 71, (pt b1 0), c_weirref18_Queue.val j13⟩]) (by kernel_rfl) (by kernel_rfl) Ty71 (by kernel_rfl) rfl (At.whole _) (by kernel_rfl) rfl ?_
  refine OJ.run [1] [2, 3, 6, 7, 4, 5, 8, 9, 10, 11] [1, 2, 7, 9, 82, 83] (m2 := [(1, .pointer (some (pt b1 0))), (2, .pointer (some (pt b2 0))), (7, .pointer (some (pt b8 0))), (9, .int .i64 x17), (82, c_weirref18_Queue.val j13), (83, .pointer (some (pt b1 1)))]) (by kernel_rfl) (by kernel_rfl) ?_
  refine OJ.kld (d := 84) (T := 3) (y := .tmp 83) (cd := (cI .i64)) (j := 2) (b := b1) (o := 1) j13.At (pend2 := [⟨2, 3, (pt b1 1), (cI .i64).val j13.At⟩, ⟨0, 71, (pt b1 0), c_weirref18_Queue.val j13⟩]) (by kernel_rfl) (by kernel_rfl) Ty3 (by kernel_rfl) rfl (At_weirref18_Queue_At j13) (by kernel_rfl) rfl ?_
  refine OJ.kld (d := 85) (T := 116) (y := .tmp 7) (cd := c_weirref18_Line) (j := 0) (b := b8) (o := 0) j24 (pend2 := [⟨3, 116, (pt b8 0), c_weirref18_Line.val j24⟩, ⟨2, 3, (pt b1 1), (cI .i64).val j13.At⟩, ⟨0, 71, (pt b1 0), c_weirref18_Queue.val j13⟩]) (by kernel_rfl) (by kernel_rfl) Ty116 (by kernel_rfl) rfl (At.whole _) (by kernel_rfl) rfl ?_
  refine OJ.run [6] [7, 4, 5, 8, 9, 10, 11] [2, 9, 82, 84, 85, 88] (m2 := [(2, .pointer (some (pt b2 0))), (9, .int .i64 x17), (82, c_weirref18_Queue.val j13), (84, .int .i64 j13.At), (85, c_weirref18_Line.val j24), (88, .pointer (some (pt b1 1)))]) (by kernel_rfl) (by kernel_rfl) ?_
  refine OJ.kld (d := 89) (T := 3) (y := .tmp 88) (cd := (cI .i64)) (j := 2) (b := b1) (o := 1) j13.At (pend2 := [⟨7, 3, (pt b1 1), (cI .i64).val j13.At⟩, ⟨3, 116, (pt b8 0), c_weirref18_Line.val j24⟩, ⟨2, 3, (pt b1 1), (cI .i64).val j13.At⟩, ⟨0, 71, (pt b1 0), c_weirref18_Queue.val j13⟩]) (by kernel_rfl) (by kernel_rfl) Ty3 (by kernel_rfl) rfl (At_weirref18_Queue_At j13) (by kernel_rfl) rfl ?_
  refine OJ.call (d := 86) (g := 61) (ats := #[71, 3, 116]) (args := [.tmp 82, .tmp 84, .tmp 85]) (vals := [c_weirref18_Queue.val j13, .int .i64 j13.At, c_weirref18_Line.val j24]) (owed := [⟨7, 3, (pt b1 1), (cI .i64).val j13.At⟩]) (by kernel_rfl) F61 (by kernel_rfl) (weirref18_put_ok j13 j13.At j24) (by kernel_rfl) (by kernel_rfl) (by kernel_rfl) (fun r25 => ?_)
  refine OW.known (j := 2) (q := j13.At) Ty3 rfl (At_weirref18_Queue_At j13) ?_
  refine OW.nil ?_
  refine OJ.run [5] [8, 9, 10, 11] [2, 89, 86, 87] (m2 := [(2, .pointer (some (pt b2 0))), (89, .int .i64 j13.At), (86, c_weirref18_Queue.val r25), (87, .int .i64 x17)]) (by kernel_rfl) (by kernel_rfl) ?_
  refine OJ.kst (T := 71) (y := .tmp 2) (z := .tmp 86) (cd := c_weirref18_Queue) (u := r25) (j := 1) (b := b2) (o := 0) (c_weirref18_Queue.enc r25) (h2 := [(b8, c_weirref18_Line.enc j24), (b2, c_weirref18_Queue.enc r25), (b1, c_weirref18_Queue.enc j13)]) (owed := [⟨7, 3, (pt b1 1), (cI .i64).val j13.At⟩]) (by kernel_rfl) (by kernel_rfl) (by kernel_rfl) Ty71 rfl (Upd.whole ((Cod.len _ _).trans (Cod.len _ _).symm)) (by kernel_rfl) (by kernel_rfl) rfl ?_
  refine OW.known (j := 2) (q := j13.At) Ty3 rfl (At_weirref18_Queue_At j13) ?_
  refine OW.nil ?_
  refine OJ.run [9, 10, 11] [] [2, 3, 4, 5] (m2 := [(2, .pointer (some (pt b2 0))), (3, .int .i64 x17), (4, .int .i64 j13.At), (5, .bool true)]) (by kernel_rfl) (by kernel_rfl) ?_
  refine OJ.nil ?_
  exact SJ.ret (by kernel_rfl) rfl (Res.run (ys := [c_weirref18_Queue.val r25, .int .i64 x17, .int .i64 j13.At, .bool true]) (.cell (j := 1) (b := b2) (cd := c_weirref18_Queue) (q := r25) (by kernel_rfl) rfl Ty71 (At.whole _) (.tmp (by kernel_rfl) (.tmp (by kernel_rfl) (.tmp (by kernel_rfl) .nil)))) rfl)
noncomputable def weirref18_Pop.K2 (j13 : weirref18_Queue) (x17 : Int) (j22 : weirref18_Line) : M (LS (weirref18_Queue × weirref18_Queue) (weirref18_Queue × Int × Int × Bool)) :=
  cut 2 j22.L (some 1) none none >>= fun r23 =>
  if (r23.len : Int) = 0 then
    weirref18_Pop.K1 j13 x17 (⟨j22.C, r23, 0, j22.Tokens⟩ : weirref18_Line)
  else
    weirref18_Pop.K1 j13 x17 (⟨j22.C, r23, j22.Deficit, j22.Tokens⟩ : weirref18_Line)
theorem weirref18_Pop.K2_ok (b1 : Nat) (b2 : Nat) (s4 : weirref18_Queue) (b8 : Nat) (j13 : weirref18_Queue) (x17 : Int) (j22 : weirref18_Line) :
    SJ weirref18_Pop.cx [.code (c2 (c2 (c2 (c2 (c2 (c2 (c2 (c2 (c2 (c1 (c1 (c1 (c2 (c2 (c2 weirref18_Pop.B))))))))))))))), .inBlock 1, .inLoop (c1 (c1 (c2 (c2 (c2 weirref18_Pop.B))))), .inBlock 0] [(1, .pointer (some (pt b1 0))), (2, .pointer (some (pt b2 0))), (7, .pointer (some (pt b8 0))), (9, .int .i64 x17)] [(b8, c_weirref18_Line.enc j22), (b2, c_weirref18_Queue.enc s4), (b1, c_weirref18_Queue.enc j13)] (weirref18_Pop.K2 j13 x17 j22) (weirref18_Pop.F1 b1 b2) := by
  unfold weirref18_Pop.K2
  refine SJ.seq (by kernel_rfl) ?_
  refine SJ.region (id := 19) (by kernel_rfl) [0, 1, 2, 3, 4] (by kernel_rfl) ?_
  refine OJ.run [0] [1, 2, 3, 4] [1, 2, 7, 9, 73] (m2 := [(1, .pointer (some (pt b1 0))), (2, .pointer (some (pt b2 0))), (7, .pointer (some (pt b8 0))), (9, .int .i64 x17), (73, .pointer (some (pt b8 5)))]) (by kernel_rfl) (by kernel_rfl) ?_
  refine OJ.kld (d := 74) (T := 114) (y := .tmp 73) (cd := cL) (j := 0) (b := b8) (o := 5) j22.L (pend2 := []) (by kernel_rfl) (by kernel_rfl) Ty114 (by kernel_rfl) rfl (At_weirref18_Line_L j22) (by kernel_rfl) rfl ?_
  refine OJ.cut (d := 75) (t := 114) (E := 125) (y := .tmp 74) (lo := (some (.const (.int .i64 1)))) (hi := none) (mx := none) (lo' := some (.i64, 1)) (hi' := none) (mx' := none) (by kernel_rfl) (by kernel_rfl) (by kernel_rfl) (by kernel_rfl) (by kernel_rfl) (by kernel_rfl) (by kernel_rfl) (fun h => by cases h) (by kernel_rfl) (by kernel_rfl) (by kernel_rfl) (fun r23 => ?_)
  refine OJ.run [3] [4] [1, 2, 7, 9, 75, 76] (m2 := [(1, .pointer (some (pt b1 0))), (2, .pointer (some (pt b2 0))), (7, .pointer (some (pt b8 0))), (9, .int .i64 x17), (75, Sl.v r23), (76, .pointer (some (pt b8 5)))]) (by kernel_rfl) (by kernel_rfl) ?_
  refine OJ.kst (T := 114) (y := .tmp 76) (z := .tmp 75) (cd := cL) (u := r23) (j := 0) (b := b8) (o := 5) (c_weirref18_Line.enc (⟨j22.C, r23, j22.Deficit, j22.Tokens⟩ : weirref18_Line)) (h2 := [(b8, c_weirref18_Line.enc (⟨j22.C, r23, j22.Deficit, j22.Tokens⟩ : weirref18_Line)), (b2, c_weirref18_Queue.enc s4), (b1, c_weirref18_Queue.enc j13)]) (owed := []) (by kernel_rfl) (by kernel_rfl) (by kernel_rfl) Ty114 rfl (Up_weirref18_Line_L j22 r23) (by kernel_rfl) (by kernel_rfl) rfl ?_
  refine OW.nil ?_
  refine OJ.nil ?_
  refine SJ.seq (by kernel_rfl) ?_
  refine SJ.seq (by kernel_rfl) ?_
  refine SJ.region (id := 20) (by kernel_rfl) [0, 1, 2, 3] (by kernel_rfl) ?_
  refine OJ.run [0] [1, 2, 3] [1, 2, 7, 9, 77] (m2 := [(1, .pointer (some (pt b1 0))), (2, .pointer (some (pt b2 0))), (7, .pointer (some (pt b8 0))), (9, .int .i64 x17), (77, .pointer (some (pt b8 5)))]) (by kernel_rfl) (by kernel_rfl) ?_
  refine OJ.kld (d := 78) (T := 114) (y := .tmp 77) (cd := cL) (j := 0) (b := b8) (o := 5) r23 (pend2 := []) (by kernel_rfl) (by kernel_rfl) Ty114 (by kernel_rfl) rfl (At_weirref18_Line_L (⟨j22.C, r23, j22.Deficit, j22.Tokens⟩ : weirref18_Line)) (by kernel_rfl) rfl ?_
  refine OJ.run [2, 3] [] [1, 2, 7, 9, 80] (m2 := [(1, .pointer (some (pt b1 0))), (2, .pointer (some (pt b2 0))), (7, .pointer (some (pt b8 0))), (9, .int .i64 x17), (80, .bool ((r23.len : Int) == 0))]) (by kernel_rfl) (by kernel_rfl) ?_
  refine OJ.nil ?_
  refine SJ.cond (t := (.tmp 80)) (b := ((r23.len : Int) == 0)) (by kernel_rfl) (by kernel_rfl) beq_iff_eq (fun hc26 => ?_) (fun hc26 => ?_)
  · refine SJ.region (id := 21) (by kernel_rfl) [0, 1] (by kernel_rfl) ?_
    refine OJ.run [0] [1] [1, 2, 7, 9, 81] (m2 := [(1, .pointer (some (pt b1 0))), (2, .pointer (some (pt b2 0))), (7, .pointer (some (pt b8 0))), (9, .int .i64 x17), (81, .pointer (some (pt b8 6)))]) (by kernel_rfl) (by kernel_rfl) ?_
    refine OJ.kst (T := 3) (y := .tmp 81) (z := .const (.int .i64 0)) (cd := (cI .i64)) (u := 0) (j := 0) (b := b8) (o := 6) (c_weirref18_Line.enc (⟨j22.C, r23, 0, j22.Tokens⟩ : weirref18_Line)) (h2 := [(b8, c_weirref18_Line.enc (⟨j22.C, r23, 0, j22.Tokens⟩ : weirref18_Line)), (b2, c_weirref18_Queue.enc s4), (b1, c_weirref18_Queue.enc j13)]) (owed := []) (by kernel_rfl) (by kernel_rfl) (by kernel_rfl) Ty3 rfl (Up_weirref18_Line_Deficit (⟨j22.C, r23, j22.Deficit, j22.Tokens⟩ : weirref18_Line) 0) (by kernel_rfl) (by kernel_rfl) rfl ?_
    refine OW.nil ?_
    refine OJ.nil ?_
    refine SJ.less [1, 2, 7, 9] (m' := [(1, .pointer (some (pt b1 0))), (2, .pointer (some (pt b2 0))), (7, .pointer (some (pt b8 0))), (9, .int .i64 x17)]) (by kernel_rfl) ?_
    exact weirref18_Pop.K1_ok b1 b2 s4 b8 j13 x17 (⟨j22.C, r23, 0, j22.Tokens⟩ : weirref18_Line)
  · refine SJ.skip (by kernel_rfl) ?_
    refine SJ.less [1, 2, 7, 9] (m' := [(1, .pointer (some (pt b1 0))), (2, .pointer (some (pt b2 0))), (7, .pointer (some (pt b8 0))), (9, .int .i64 x17)]) (by kernel_rfl) ?_
    exact weirref18_Pop.K1_ok b1 b2 s4 b8 j13 x17 (⟨j22.C, r23, j22.Deficit, j22.Tokens⟩ : weirref18_Line)
noncomputable def weirref18_Pop.K3 (s4 : weirref18_Queue) (j12 : weirref18_Line) (j13 : weirref18_Queue) : M (LS (weirref18_Queue × weirref18_Queue) (weirref18_Queue × Int × Int × Bool)) :=
  idx j12.L.a j12.L.len 0 2 >>= fun p14 =>
  ld (cI .i64) p14 >>= fun x15 =>
  idx j12.L.a j12.L.len 0 2 >>= fun p16 =>
  ld (cI .i64) (Addr.add p16 1) >>= fun x17 =>
  if x15 > j12.Deficit then
    weirref18_put j13 j13.At j12 >>= fun r20 =>
    weirref18_onward r20 >>= fun r21 =>
    pure (LS.next (s4, r21))
  else
    if j12.C.Rate > 0 then
      weirref18_Pop.K2 j13 x17 (⟨j12.C, j12.L, IntKind.wrap .i64 (j12.Deficit - x15), IntKind.wrap .i64 (j12.Tokens - x15)⟩ : weirref18_Line)
    else
      weirref18_Pop.K2 j13 x17 (⟨j12.C, j12.L, IntKind.wrap .i64 (j12.Deficit - x15), j12.Tokens⟩ : weirref18_Line)
theorem weirref18_Pop.K3_ok (b1 : Nat) (b2 : Nat) (s4 : weirref18_Queue) (b8 : Nat) (j12 : weirref18_Line) (j13 : weirref18_Queue) :
    SJ weirref18_Pop.cx [.code (c2 (c2 (c2 (c2 (c1 (c1 (c1 (c2 (c2 (c2 weirref18_Pop.B)))))))))), .inBlock 1, .inLoop (c1 (c1 (c2 (c2 (c2 weirref18_Pop.B))))), .inBlock 0] [(1, .pointer (some (pt b1 0))), (2, .pointer (some (pt b2 0))), (7, .pointer (some (pt b8 0)))] [(b8, c_weirref18_Line.enc j12), (b2, c_weirref18_Queue.enc s4), (b1, c_weirref18_Queue.enc j13)] (weirref18_Pop.K3 s4 j12 j13) (weirref18_Pop.F1 b1 b2) := by
  unfold weirref18_Pop.K3
  refine SJ.seq (by kernel_rfl) ?_
  refine SJ.region (id := 11) (by kernel_rfl) [0, 1, 2, 3, 4, 5] (by kernel_rfl) ?_
  refine OJ.run [0] [1, 2, 3, 4, 5] [1, 2, 7, 38] (m2 := [(1, .pointer (some (pt b1 0))), (2, .pointer (some (pt b2 0))), (7, .pointer (some (pt b8 0))), (38, .pointer (some (pt b8 5)))]) (by kernel_rfl) (by kernel_rfl) ?_
  refine OJ.kld (d := 39) (T := 114) (y := .tmp 38) (cd := cL) (j := 0) (b := b8) (o := 5) j12.L (pend2 := []) (by kernel_rfl) (by kernel_rfl) Ty114 (by kernel_rfl) rfl (At_weirref18_Line_L j12) (by kernel_rfl) rfl ?_
  refine OJ.idxS (d := 40) (T := 114) (y := .tmp 39) (j := .const (.int .i64 0)) (E := 125) (cap := j12.L.cap) (k := .i64) (by kernel_rfl) (by kernel_rfl) (by kernel_rfl) (by kernel_rfl) (by kernel_rfl) (by kernel_rfl) (by kernel_rfl) (by kernel_rfl) (fun p14 => ?_)
  refine OJ.run [3] [4, 5] [1, 2, 7, 41] (m2 := [(1, .pointer (some (pt b1 0))), (2, .pointer (some (pt b2 0))), (7, .pointer (some (pt b8 0))), (41, .pointer (some p14))]) (by kernel_rfl) (by kernel_rfl) ?_
  refine OJ.ld (d := 42) (T := 3) (y := .tmp 41) (pend2 := fun x15 => []) (by kernel_rfl) (by kernel_rfl) Ty3 (by kernel_rfl) (by kernel_rfl) (fun _ => rfl) (fun x15 => ?_)
  refine OJ.run [5] [] [1, 2, 7, 8] (m2 := [(1, .pointer (some (pt b1 0))), (2, .pointer (some (pt b2 0))), (7, .pointer (some (pt b8 0))), (8, .int .i64 x15)]) (by kernel_rfl) (by kernel_rfl) ?_
  refine OJ.nil ?_
  refine SJ.seq (by kernel_rfl) ?_
  refine SJ.region (id := 12) (by kernel_rfl) [0, 1, 2, 3, 4, 5] (by kernel_rfl) ?_
  refine OJ.run [0] [1, 2, 3, 4, 5] [1, 2, 7, 8, 43] (m2 := [(1, .pointer (some (pt b1 0))), (2, .pointer (some (pt b2 0))), (7, .pointer (some (pt b8 0))), (8, .int .i64 x15), (43, .pointer (some (pt b8 5)))]) (by kernel_rfl) (by kernel_rfl) ?_
  refine OJ.kld (d := 44) (T := 114) (y := .tmp 43) (cd := cL) (j := 0) (b := b8) (o := 5) j12.L (pend2 := []) (by kernel_rfl) (by kernel_rfl) Ty114 (by kernel_rfl) rfl (At_weirref18_Line_L j12) (by kernel_rfl) rfl ?_
  refine OJ.idxS (d := 45) (T := 114) (y := .tmp 44) (j := .const (.int .i64 0)) (E := 125) (cap := j12.L.cap) (k := .i64) (by kernel_rfl) (by kernel_rfl) (by kernel_rfl) (by kernel_rfl) (by kernel_rfl) (by kernel_rfl) (by kernel_rfl) (by kernel_rfl) (fun p16 => ?_)
  refine OJ.run [3] [4, 5] [1, 2, 7, 8, 46] (m2 := [(1, .pointer (some (pt b1 0))), (2, .pointer (some (pt b2 0))), (7, .pointer (some (pt b8 0))), (8, .int .i64 x15), (46, .pointer (some (Addr.add p16 1)))]) (by kernel_rfl) (by kernel_rfl) ?_
  refine OJ.ld (d := 47) (T := 3) (y := .tmp 46) (pend2 := fun x17 => []) (by kernel_rfl) (by kernel_rfl) Ty3 (by kernel_rfl) (by kernel_rfl) (fun _ => rfl) (fun x17 => ?_)
  refine OJ.run [5] [] [1, 2, 7, 8, 9] (m2 := [(1, .pointer (some (pt b1 0))), (2, .pointer (some (pt b2 0))), (7, .pointer (some (pt b8 0))), (8, .int .i64 x15), (9, .int .i64 x17)]) (by kernel_rfl) (by kernel_rfl) ?_
  refine OJ.nil ?_
  refine SJ.seq (by kernel_rfl) ?_
  refine SJ.seq (by kernel_rfl) ?_
  refine SJ.region (id := 13) (by kernel_rfl) [0, 1, 2, 3] (by kernel_rfl) ?_
  refine OJ.run [0, 1] [2, 3] [1, 2, 7, 8, 9, 48, 49] (m2 := [(1, .pointer (some (pt b1 0))), (2, .pointer (some (pt b2 0))), (7, .pointer (some (pt b8 0))), (8, .int .i64 x15), (9, .int .i64 x17), (48, .int .i64 x15), (49, .pointer (some (pt b8 6)))]) (by kernel_rfl) (by kernel_rfl) ?_
  refine OJ.kld (d := 50) (T := 3) (y := .tmp 49) (cd := (cI .i64)) (j := 0) (b := b8) (o := 6) j12.Deficit (pend2 := []) (by kernel_rfl) (by kernel_rfl) Ty3 (by kernel_rfl) rfl (At_weirref18_Line_Deficit j12) (by kernel_rfl) rfl ?_
  refine OJ.run [3] [] [1, 2, 7, 8, 9, 51] (m2 := [(1, .pointer (some (pt b1 0))), (2, .pointer (some (pt b2 0))), (7, .pointer (some (pt b8 0))), (8, .int .i64 x15), (9, .int .i64 x17), (51, .bool (decide (x15 > j12.Deficit)))]) (by kernel_rfl) (by kernel_rfl) ?_
  refine OJ.nil ?_
  refine SJ.cond (t := (.tmp 51)) (b := decide (x15 > j12.Deficit)) (by kernel_rfl) (by kernel_rfl) decide_eq_true_iff (fun hc28 => ?_) (fun hc28 => ?_)
  · refine SJ.seq (by kernel_rfl) ?_
    refine SJ.region (id := 14) (by kernel_rfl) [0, 1, 2, 3, 4, 5] (by kernel_rfl) ?_
    refine OJ.kld (d := 52) (T := 71) (y := .tmp 1) (cd := c_weirref18_Queue) (j := 2) (b := b1) (o := 0) j13 (pend2 := []) (by kernel_rfl) (by kernel_rfl) Ty71 (by kernel_rfl) rfl (At.whole _) (by kernel_rfl) rfl ?_
    refine OJ.run [1] [2, 3, 4, 5] [1, 2, 7, 52, 53] (m2 := [(1, .pointer (some (pt b1 0))), (2, .pointer (some (pt b2 0))), (7, .pointer (some (pt b8 0))), (52, c_weirref18_Queue.val j13), (53, .pointer (some (pt b1 1)))]) (by kernel_rfl) (by kernel_rfl) ?_
    refine OJ.kld (d := 54) (T := 3) (y := .tmp 53) (cd := (cI .i64)) (j := 2) (b := b1) (o := 1) j13.At (pend2 := []) (by kernel_rfl) (by kernel_rfl) Ty3 (by kernel_rfl) rfl (At_weirref18_Queue_At j13) (by kernel_rfl) rfl ?_
    refine OJ.kld (d := 55) (T := 116) (y := .tmp 7) (cd := c_weirref18_Line) (j := 0) (b := b8) (o := 0) j12 (pend2 := []) (by kernel_rfl) (by kernel_rfl) Ty116 (by kernel_rfl) rfl (At.whole _) (by kernel_rfl) rfl ?_
    refine OJ.call (d := 56) (g := 61) (ats := #[71, 3, 116]) (args := [.tmp 52, .tmp 54, .tmp 55]) (vals := [c_weirref18_Queue.val j13, .int .i64 j13.At, c_weirref18_Line.val j12]) (owed := []) (by kernel_rfl) F61 (by kernel_rfl) (weirref18_put_ok j13 j13.At j12) (by kernel_rfl) (by kernel_rfl) (by kernel_rfl) (fun r20 => ?_)
    refine OW.nil ?_
    refine OJ.kst (T := 71) (y := .tmp 1) (z := .tmp 56) (cd := c_weirref18_Queue) (u := r20) (j := 2) (b := b1) (o := 0) (c_weirref18_Queue.enc r20) (h2 := [(b8, c_weirref18_Line.enc j12), (b2, c_weirref18_Queue.enc s4), (b1, c_weirref18_Queue.enc r20)]) (owed := []) (by kernel_rfl) (by kernel_rfl) (by kernel_rfl) Ty71 rfl (Upd.whole ((Cod.len _ _).trans (Cod.len _ _).symm)) (by kernel_rfl) (by kernel_rfl) rfl ?_
    refine OW.nil ?_
    refine OJ.nil ?_
    refine SJ.seq (by kernel_rfl) ?_
    refine SJ.region (id := 15) (by kernel_rfl) [0, 1, 2] (by kernel_rfl) ?_
    refine OJ.kld (d := 57) (T := 71) (y := .tmp 1) (cd := c_weirref18_Queue) (j := 2) (b := b1) (o := 0) r20 (pend2 := []) (by kernel_rfl) (by kernel_rfl) Ty71 (by kernel_rfl) rfl (At.whole _) (by kernel_rfl) rfl ?_
    refine OJ.call (d := 58) (g := 64) (ats := #[71]) (args := [.tmp 57]) (vals := [c_weirref18_Queue.val r20]) (owed := []) (by kernel_rfl) F64 (by kernel_rfl) (weirref18_onward_ok r20) (by kernel_rfl) (by kernel_rfl) (by kernel_rfl) (fun r21 => ?_)
    refine OW.nil ?_
    refine OJ.kst (T := 71) (y := .tmp 1) (z := .tmp 58) (cd := c_weirref18_Queue) (u := r21) (j := 2) (b := b1) (o := 0) (c_weirref18_Queue.enc r21) (h2 := [(b8, c_weirref18_Line.enc j12), (b2, c_weirref18_Queue.enc s4), (b1, c_weirref18_Queue.enc r21)]) (owed := []) (by kernel_rfl) (by kernel_rfl) (by kernel_rfl) Ty71 rfl (Upd.whole ((Cod.len _ _).trans (Cod.len _ _).symm)) (by kernel_rfl) (by kernel_rfl) rfl ?_
    refine OW.nil ?_
    refine OJ.nil ?_
    refine SJ.exit (id := 1) (by kernel_rfl) (by rfl) ?_
    refine SJ.forget (List.Sublist.cons _ (List.Sublist.cons_cons _ (List.Sublist.cons_cons _ List.Sublist.slnil))) ?_
    exact SJ.at_ [1, 2] rfl (by kernel_rfl)
  · refine SJ.skip (by kernel_rfl) ?_
    refine SJ.seq (by kernel_rfl) ?_
    refine SJ.region (id := 16) (by kernel_rfl) [0, 1, 2, 3, 4, 5] (by kernel_rfl) ?_
    refine OJ.run [0] [1, 2, 3, 4, 5] [1, 2, 7, 8, 9, 59] (m2 := [(1, .pointer (some (pt b1 0))), (2, .pointer (some (pt b2 0))), (7, .pointer (some (pt b8 0))), (8, .int .i64 x15), (9, .int .i64 x17), (59, .pointer (some (pt b8 6)))]) (by kernel_rfl) (by kernel_rfl) ?_
    refine OJ.kld (d := 60) (T := 3) (y := .tmp 59) (cd := (cI .i64)) (j := 0) (b := b8) (o := 6) j12.Deficit (pend2 := []) (by kernel_rfl) (by kernel_rfl) Ty3 (by kernel_rfl) rfl (At_weirref18_Line_Deficit j12) (by kernel_rfl) rfl ?_
    refine OJ.run [2, 3, 4] [5] [1, 2, 7, 8, 9, 62, 63] (m2 := [(1, .pointer (some (pt b1 0))), (2, .pointer (some (pt b2 0))), (7, .pointer (some (pt b8 0))), (8, .int .i64 x15), (9, .int .i64 x17), (62, .int .i64 (IntKind.wrap .i64 (j12.Deficit - x15))), (63, .pointer (some (pt b8 6)))]) (by kernel_rfl) (by kernel_rfl) ?_
    refine OJ.kst (T := 3) (y := .tmp 63) (z := .tmp 62) (cd := (cI .i64)) (u := (IntKind.wrap .i64 (j12.Deficit - x15))) (j := 0) (b := b8) (o := 6) (c_weirref18_Line.enc (⟨j12.C, j12.L, IntKind.wrap .i64 (j12.Deficit - x15), j12.Tokens⟩ : weirref18_Line)) (h2 := [(b8, c_weirref18_Line.enc (⟨j12.C, j12.L, IntKind.wrap .i64 (j12.Deficit - x15), j12.Tokens⟩ : weirref18_Line)), (b2, c_weirref18_Queue.enc s4), (b1, c_weirref18_Queue.enc j13)]) (owed := []) (by kernel_rfl) (by kernel_rfl) (by kernel_rfl) Ty3 rfl (Up_weirref18_Line_Deficit j12 (IntKind.wrap .i64 (j12.Deficit - x15))) (by kernel_rfl) (by kernel_rfl) rfl ?_
    refine OW.nil ?_
    refine OJ.nil ?_
    refine SJ.seq (by kernel_rfl) ?_
    refine SJ.seq (by kernel_rfl) ?_
    refine SJ.region (id := 17) (by kernel_rfl) [0, 1, 2, 3] (by kernel_rfl) ?_
    refine OJ.run [0, 1] [2, 3] [1, 2, 7, 8, 9, 65] (m2 := [(1, .pointer (some (pt b1 0))), (2, .pointer (some (pt b2 0))), (7, .pointer (some (pt b8 0))), (8, .int .i64 x15), (9, .int .i64 x17), (65, .pointer (some (pt b8 3)))]) (by kernel_rfl) (by kernel_rfl) ?_
    refine OJ.kld (d := 66) (T := 3) (y := .tmp 65) (cd := (cI .i64)) (j := 0) (b := b8) (o := 3) j12.C.Rate (pend2 := []) (by kernel_rfl) (by kernel_rfl) Ty3 (by kernel_rfl) rfl (At.trans (At_weirref18_Line_C (⟨j12.C, j12.L, IntKind.wrap .i64 (j12.Deficit - x15), j12.Tokens⟩ : weirref18_Line)) (At_api_Class_Rate j12.C)) (by kernel_rfl) rfl ?_
    refine OJ.run [3] [] [1, 2, 7, 8, 9, 67] (m2 := [(1, .pointer (some (pt b1 0))), (2, .pointer (some (pt b2 0))), (7, .pointer (some (pt b8 0))), (8, .int .i64 x15), (9, .int .i64 x17), (67, .bool (decide (j12.C.Rate > 0)))]) (by kernel_rfl) (by kernel_rfl) ?_
    refine OJ.nil ?_
    refine SJ.cond (t := (.tmp 67)) (b := decide (j12.C.Rate > 0)) (by kernel_rfl) (by kernel_rfl) decide_eq_true_iff (fun hc27 => ?_) (fun hc27 => ?_)
    · refine SJ.region (id := 18) (by kernel_rfl) [0, 1, 2, 3, 4, 5] (by kernel_rfl) ?_
      refine OJ.run [0] [1, 2, 3, 4, 5] [1, 2, 7, 8, 9, 68] (m2 := [(1, .pointer (some (pt b1 0))), (2, .pointer (some (pt b2 0))), (7, .pointer (some (pt b8 0))), (8, .int .i64 x15), (9, .int .i64 x17), (68, .pointer (some (pt b8 7)))]) (by kernel_rfl) (by kernel_rfl) ?_
      refine OJ.kld (d := 69) (T := 3) (y := .tmp 68) (cd := (cI .i64)) (j := 0) (b := b8) (o := 7) j12.Tokens (pend2 := []) (by kernel_rfl) (by kernel_rfl) Ty3 (by kernel_rfl) rfl (At_weirref18_Line_Tokens (⟨j12.C, j12.L, IntKind.wrap .i64 (j12.Deficit - x15), j12.Tokens⟩ : weirref18_Line)) (by kernel_rfl) rfl ?_
      refine OJ.run [2, 3, 4] [5] [1, 2, 7, 9, 71, 72] (m2 := [(1, .pointer (some (pt b1 0))), (2, .pointer (some (pt b2 0))), (7, .pointer (some (pt b8 0))), (9, .int .i64 x17), (71, .int .i64 (IntKind.wrap .i64 (j12.Tokens - x15))), (72, .pointer (some (pt b8 7)))]) (by kernel_rfl) (by kernel_rfl) ?_
      refine OJ.kst (T := 3) (y := .tmp 72) (z := .tmp 71) (cd := (cI .i64)) (u := (IntKind.wrap .i64 (j12.Tokens - x15))) (j := 0) (b := b8) (o := 7) (c_weirref18_Line.enc (⟨j12.C, j12.L, IntKind.wrap .i64 (j12.Deficit - x15), IntKind.wrap .i64 (j12.Tokens - x15)⟩ : weirref18_Line)) (h2 := [(b8, c_weirref18_Line.enc (⟨j12.C, j12.L, IntKind.wrap .i64 (j12.Deficit - x15), IntKind.wrap .i64 (j12.Tokens - x15)⟩ : weirref18_Line)), (b2, c_weirref18_Queue.enc s4), (b1, c_weirref18_Queue.enc j13)]) (owed := []) (by kernel_rfl) (by kernel_rfl) (by kernel_rfl) Ty3 rfl (Up_weirref18_Line_Tokens (⟨j12.C, j12.L, IntKind.wrap .i64 (j12.Deficit - x15), j12.Tokens⟩ : weirref18_Line) (IntKind.wrap .i64 (j12.Tokens - x15))) (by kernel_rfl) (by kernel_rfl) rfl ?_
      refine OW.nil ?_
      refine OJ.nil ?_
      refine SJ.less [1, 2, 7, 9] (m' := [(1, .pointer (some (pt b1 0))), (2, .pointer (some (pt b2 0))), (7, .pointer (some (pt b8 0))), (9, .int .i64 x17)]) (by kernel_rfl) ?_
      exact weirref18_Pop.K2_ok b1 b2 s4 b8 j13 x17 (⟨j12.C, j12.L, IntKind.wrap .i64 (j12.Deficit - x15), IntKind.wrap .i64 (j12.Tokens - x15)⟩ : weirref18_Line)
    · refine SJ.skip (by kernel_rfl) ?_
      refine SJ.less [1, 2, 7, 9] (m' := [(1, .pointer (some (pt b1 0))), (2, .pointer (some (pt b2 0))), (7, .pointer (some (pt b8 0))), (9, .int .i64 x17)]) (by kernel_rfl) ?_
      exact weirref18_Pop.K2_ok b1 b2 s4 b8 j13 x17 (⟨j12.C, j12.L, IntKind.wrap .i64 (j12.Deficit - x15), j12.Tokens⟩ : weirref18_Line)
noncomputable def weirref18_Pop.L1 (s4 : weirref18_Queue) (s5 : weirref18_Queue) : M (LS (weirref18_Queue × weirref18_Queue) (weirref18_Queue × Int × Int × Bool)) :=
  idx s5.L.a s5.L.len s5.At 8 >>= fun p6 =>
  ld c_weirref18_Line p6 >>= fun x7 =>
  slot 116 >>= fun b8 =>
  weirref18_ready x7 >>= fun r9 =>
  if ¬ (r9 = true) then
    weirref18_onward s5 >>= fun r11 =>
    pure (LS.next (s4, r11))
  else
    if ¬ (s5.Given = true) then
      weirref18_Pop.K3 s4 (⟨x7.C, x7.L, IntKind.wrap .i64 (x7.Deficit + x7.C.Quantum), x7.Tokens⟩ : weirref18_Line) (⟨s5.L, s5.At, true⟩ : weirref18_Queue)
    else
      weirref18_Pop.K3 s4 x7 s5
theorem weirref18_Pop.L1_ok (b1 : Nat) (b2 : Nat) (s4 : weirref18_Queue) (s5 : weirref18_Queue) :
    SJ weirref18_Pop.cx [.code (c1 (c1 (c2 (c2 (c2 weirref18_Pop.B))))), .inLoop (c1 (c1 (c2 (c2 (c2 weirref18_Pop.B))))), .inBlock 0] [(1, .pointer (some (pt b1 0))), (2, .pointer (some (pt b2 0)))] [(b2, c_weirref18_Queue.enc s4), (b1, c_weirref18_Queue.enc s5)] (weirref18_Pop.L1 s4 s5) (weirref18_Pop.F1 b1 b2) := by
  unfold weirref18_Pop.L1
  refine SJ.block (id := 1) (by kernel_rfl) ?_
  refine SJ.seq (by kernel_rfl) ?_
  refine SJ.region (id := 4) (by kernel_rfl) [0, 1, 2, 3, 4, 5, 6, 7] (by kernel_rfl) ?_
  refine OJ.run [0] [1, 2, 3, 4, 5, 6, 7] [1, 2, 15] (m2 := [(1, .pointer (some (pt b1 0))), (2, .pointer (some (pt b2 0))), (15, .pointer (some (pt b1 0)))]) (by kernel_rfl) (by kernel_rfl) ?_
  refine OJ.kld (d := 16) (T := 69) (y := .tmp 15) (cd := cL) (j := 1) (b := b1) (o := 0) s5.L (pend2 := []) (by kernel_rfl) (by kernel_rfl) Ty69 (by kernel_rfl) rfl (At_weirref18_Queue_L s5) (by kernel_rfl) rfl ?_
  refine OJ.run [2] [3, 4, 5, 6, 7] [1, 2, 16, 17] (m2 := [(1, .pointer (some (pt b1 0))), (2, .pointer (some (pt b2 0))), (16, Sl.v s5.L), (17, .pointer (some (pt b1 1)))]) (by kernel_rfl) (by kernel_rfl) ?_
  refine OJ.kld (d := 18) (T := 3) (y := .tmp 17) (cd := (cI .i64)) (j := 1) (b := b1) (o := 1) s5.At (pend2 := []) (by kernel_rfl) (by kernel_rfl) Ty3 (by kernel_rfl) rfl (At_weirref18_Queue_At s5) (by kernel_rfl) rfl ?_
  refine OJ.idxS (d := 19) (T := 69) (y := .tmp 16) (j := .tmp 18) (E := 116) (cap := s5.L.cap) (k := .i64) (by kernel_rfl) (by kernel_rfl) (by kernel_rfl) (by kernel_rfl) (by kernel_rfl) (by kernel_rfl) (by kernel_rfl) (by kernel_rfl) (fun p6 => ?_)
  refine OJ.ld (d := 20) (T := 116) (y := .tmp 19) (pend2 := fun x7 => []) (by kernel_rfl) (by kernel_rfl) Ty116 (by kernel_rfl) (by kernel_rfl) (fun _ => rfl) (fun x7 => ?_)
  refine OJ.slotOf (d := 7) (op := (.alloc 116)) (cd := c_weirref18_Line) (u := z_weirref18_Line) (owed := []) (by kernel_rfl) (alloc_run Ty116) (by kernel_rfl) (by kernel_rfl) (by kernel_rfl) (fun b8 => ?_)
  refine OW.nil ?_
  refine OJ.kst (T := 116) (y := .tmp 7) (z := .tmp 20) (cd := c_weirref18_Line) (u := x7) (j := 0) (b := b8) (o := 0) (c_weirref18_Line.enc x7) (h2 := [(b8, c_weirref18_Line.enc x7), (b2, c_weirref18_Queue.enc s4), (b1, c_weirref18_Queue.enc s5)]) (owed := []) (by kernel_rfl) (by kernel_rfl) (by kernel_rfl) Ty116 rfl (Upd.whole ((Cod.len _ _).trans (Cod.len _ _).symm)) (by kernel_rfl) (by kernel_rfl) rfl ?_
  refine OW.nil ?_
  refine OJ.nil ?_
  refine SJ.seq (by kernel_rfl) ?_
  refine SJ.region (id := 5) (by kernel_rfl) [0, 1, 2] (by kernel_rfl) ?_
  refine OJ.kld (d := 21) (T := 116) (y := .tmp 7) (cd := c_weirref18_Line) (j := 0) (b := b8) (o := 0) x7 (pend2 := []) (by kernel_rfl) (by kernel_rfl) Ty116 (by kernel_rfl) rfl (At.whole _) (by kernel_rfl) rfl ?_
  refine OJ.call (d := 22) (g := 63) (ats := #[116]) (args := [.tmp 21]) (vals := [c_weirref18_Line.val x7]) (owed := []) (by kernel_rfl) F63 (by kernel_rfl) (weirref18_ready_ok x7) (by kernel_rfl) (by kernel_rfl) (by kernel_rfl) (fun r9 => ?_)
  refine OW.nil ?_
  refine OJ.run [2] [] [1, 2, 7, 6] (m2 := [(1, .pointer (some (pt b1 0))), (2, .pointer (some (pt b2 0))), (7, .pointer (some (pt b8 0))), (6, .bool r9)]) (by kernel_rfl) (by kernel_rfl) ?_
  refine OJ.nil ?_
  refine SJ.seq (by kernel_rfl) ?_
  refine SJ.seq (by kernel_rfl) ?_
  refine SJ.region (id := 6) (by kernel_rfl) [0, 1] (by kernel_rfl) ?_
  refine OJ.run [0, 1] [] [1, 2, 7, 24] (m2 := [(1, .pointer (some (pt b1 0))), (2, .pointer (some (pt b2 0))), (7, .pointer (some (pt b8 0))), (24, .bool (!r9))]) (by kernel_rfl) (by kernel_rfl) ?_
  refine OJ.nil ?_
  refine SJ.cond (t := (.tmp 24)) (b := (!r9)) (by kernel_rfl) (by kernel_rfl) (bnot_iff Iff.rfl) (fun hc30 => ?_) (fun hc30 => ?_)
  · refine SJ.seq (by kernel_rfl) ?_
    refine SJ.region (id := 7) (by kernel_rfl) [0, 1, 2] (by kernel_rfl) ?_
    refine OJ.kld (d := 25) (T := 71) (y := .tmp 1) (cd := c_weirref18_Queue) (j := 2) (b := b1) (o := 0) s5 (pend2 := []) (by kernel_rfl) (by kernel_rfl) Ty71 (by kernel_rfl) rfl (At.whole _) (by kernel_rfl) rfl ?_
    refine OJ.call (d := 26) (g := 64) (ats := #[71]) (args := [.tmp 25]) (vals := [c_weirref18_Queue.val s5]) (owed := []) (by kernel_rfl) F64 (by kernel_rfl) (weirref18_onward_ok s5) (by kernel_rfl) (by kernel_rfl) (by kernel_rfl) (fun r11 => ?_)
    refine OW.nil ?_
    refine OJ.kst (T := 71) (y := .tmp 1) (z := .tmp 26) (cd := c_weirref18_Queue) (u := r11) (j := 2) (b := b1) (o := 0) (c_weirref18_Queue.enc r11) (h2 := [(b8, c_weirref18_Line.enc x7), (b2, c_weirref18_Queue.enc s4), (b1, c_weirref18_Queue.enc r11)]) (owed := []) (by kernel_rfl) (by kernel_rfl) (by kernel_rfl) Ty71 rfl (Upd.whole ((Cod.len _ _).trans (Cod.len _ _).symm)) (by kernel_rfl) (by kernel_rfl) rfl ?_
    refine OW.nil ?_
    refine OJ.nil ?_
    refine SJ.exit (id := 1) (by kernel_rfl) (by rfl) ?_
    refine SJ.forget (List.Sublist.cons _ (List.Sublist.cons_cons _ (List.Sublist.cons_cons _ List.Sublist.slnil))) ?_
    exact SJ.at_ [1, 2] rfl (by kernel_rfl)
  · refine SJ.skip (by kernel_rfl) ?_
    refine SJ.seq (by kernel_rfl) ?_
    refine SJ.seq (by kernel_rfl) ?_
    refine SJ.region (id := 8) (by kernel_rfl) [0, 1, 2] (by kernel_rfl) ?_
    refine OJ.run [0] [1, 2] [1, 2, 7, 27] (m2 := [(1, .pointer (some (pt b1 0))), (2, .pointer (some (pt b2 0))), (7, .pointer (some (pt b8 0))), (27, .pointer (some (pt b1 2)))]) (by kernel_rfl) (by kernel_rfl) ?_
    refine OJ.kld (d := 28) (T := 4) (y := .tmp 27) (cd := cB) (j := 2) (b := b1) (o := 2) s5.Given (pend2 := []) (by kernel_rfl) (by kernel_rfl) Ty4 (by kernel_rfl) rfl (At_weirref18_Queue_Given s5) (by kernel_rfl) rfl ?_
    refine OJ.run [2] [] [1, 2, 7, 29] (m2 := [(1, .pointer (some (pt b1 0))), (2, .pointer (some (pt b2 0))), (7, .pointer (some (pt b8 0))), (29, .bool (!s5.Given))]) (by kernel_rfl) (by kernel_rfl) ?_
    refine OJ.nil ?_
    refine SJ.cond (t := (.tmp 29)) (b := (!s5.Given)) (by kernel_rfl) (by kernel_rfl) (bnot_iff Iff.rfl) (fun hc29 => ?_) (fun hc29 => ?_)
    · refine SJ.seq (by kernel_rfl) ?_
      refine SJ.region (id := 9) (by kernel_rfl) [0, 1, 2, 3, 4, 5, 6, 7] (by kernel_rfl) ?_
      refine OJ.run [0] [1, 2, 3, 4, 5, 6, 7] [1, 2, 7, 30] (m2 := [(1, .pointer (some (pt b1 0))), (2, .pointer (some (pt b2 0))), (7, .pointer (some (pt b8 0))), (30, .pointer (some (pt b8 6)))]) (by kernel_rfl) (by kernel_rfl) ?_
      refine OJ.kld (d := 31) (T := 3) (y := .tmp 30) (cd := (cI .i64)) (j := 0) (b := b8) (o := 6) x7.Deficit (pend2 := []) (by kernel_rfl) (by kernel_rfl) Ty3 (by kernel_rfl) rfl (At_weirref18_Line_Deficit x7) (by kernel_rfl) rfl ?_
      refine OJ.run [2, 3] [4, 5, 6, 7] [1, 2, 7, 31, 33] (m2 := [(1, .pointer (some (pt b1 0))), (2, .pointer (some (pt b2 0))), (7, .pointer (some (pt b8 0))), (31, .int .i64 x7.Deficit), (33, .pointer (some (pt b8 0)))]) (by kernel_rfl) (by kernel_rfl) ?_
      refine OJ.kld (d := 34) (T := 3) (y := .tmp 33) (cd := (cI .i64)) (j := 0) (b := b8) (o := 0) x7.C.Quantum (pend2 := []) (by kernel_rfl) (by kernel_rfl) Ty3 (by kernel_rfl) rfl (At.trans (At_weirref18_Line_C x7) (At_api_Class_Quantum x7.C)) (by kernel_rfl) rfl ?_
      refine OJ.run [5, 6] [7] [1, 2, 7, 35, 36] (m2 := [(1, .pointer (some (pt b1 0))), (2, .pointer (some (pt b2 0))), (7, .pointer (some (pt b8 0))), (35, .int .i64 (IntKind.wrap .i64 (x7.Deficit + x7.C.Quantum))), (36, .pointer (some (pt b8 6)))]) (by kernel_rfl) (by kernel_rfl) ?_
      refine OJ.kst (T := 3) (y := .tmp 36) (z := .tmp 35) (cd := (cI .i64)) (u := (IntKind.wrap .i64 (x7.Deficit + x7.C.Quantum))) (j := 0) (b := b8) (o := 6) (c_weirref18_Line.enc (⟨x7.C, x7.L, IntKind.wrap .i64 (x7.Deficit + x7.C.Quantum), x7.Tokens⟩ : weirref18_Line)) (h2 := [(b8, c_weirref18_Line.enc (⟨x7.C, x7.L, IntKind.wrap .i64 (x7.Deficit + x7.C.Quantum), x7.Tokens⟩ : weirref18_Line)), (b2, c_weirref18_Queue.enc s4), (b1, c_weirref18_Queue.enc s5)]) (owed := []) (by kernel_rfl) (by kernel_rfl) (by kernel_rfl) Ty3 rfl (Up_weirref18_Line_Deficit x7 (IntKind.wrap .i64 (x7.Deficit + x7.C.Quantum))) (by kernel_rfl) (by kernel_rfl) rfl ?_
      refine OW.nil ?_
      refine OJ.nil ?_
      refine SJ.region (id := 10) (by kernel_rfl) [0, 1] (by kernel_rfl) ?_
      refine OJ.run [0] [1] [1, 2, 7, 37] (m2 := [(1, .pointer (some (pt b1 0))), (2, .pointer (some (pt b2 0))), (7, .pointer (some (pt b8 0))), (37, .pointer (some (pt b1 2)))]) (by kernel_rfl) (by kernel_rfl) ?_
      refine OJ.kst (T := 4) (y := .tmp 37) (z := .const (.bool true)) (cd := cB) (u := true) (j := 2) (b := b1) (o := 2) (c_weirref18_Queue.enc (⟨s5.L, s5.At, true⟩ : weirref18_Queue)) (h2 := [(b8, c_weirref18_Line.enc (⟨x7.C, x7.L, IntKind.wrap .i64 (x7.Deficit + x7.C.Quantum), x7.Tokens⟩ : weirref18_Line)), (b2, c_weirref18_Queue.enc s4), (b1, c_weirref18_Queue.enc (⟨s5.L, s5.At, true⟩ : weirref18_Queue))]) (owed := []) (by kernel_rfl) (by kernel_rfl) (by kernel_rfl) Ty4 rfl (Up_weirref18_Queue_Given s5 true) (by kernel_rfl) (by kernel_rfl) rfl ?_
      refine OW.nil ?_
      refine OJ.nil ?_
      refine SJ.less [1, 2, 7] (m' := [(1, .pointer (some (pt b1 0))), (2, .pointer (some (pt b2 0))), (7, .pointer (some (pt b8 0)))]) (by kernel_rfl) ?_
      exact weirref18_Pop.K3_ok b1 b2 s4 b8 (⟨x7.C, x7.L, IntKind.wrap .i64 (x7.Deficit + x7.C.Quantum), x7.Tokens⟩ : weirref18_Line) (⟨s5.L, s5.At, true⟩ : weirref18_Queue)
    · refine SJ.skip (by kernel_rfl) ?_
      refine SJ.less [1, 2, 7] (m' := [(1, .pointer (some (pt b1 0))), (2, .pointer (some (pt b2 0))), (7, .pointer (some (pt b8 0)))]) (by kernel_rfl) ?_
      exact weirref18_Pop.K3_ok b1 b2 s4 b8 x7 s5
noncomputable def weirref18_Pop (a0 : weirref18_Queue) : M (weirref18_Queue × Int × Int × Bool) :=
  slot 71 >>= fun b1 =>
  slot 71 >>= fun b2 =>
  weirref18_some a0 >>= fun r3 =>
  if ¬ (r3 = true) then
    pure (a0, 0, 0, false)
  else
    loopM (fun s_ : (weirref18_Queue × weirref18_Queue) => weirref18_Pop.L1 s_.1 s_.2) (z_weirref18_Queue, a0)
theorem weirref18_Pop_ok (a0 : weirref18_Queue) : Ref Try.prog 53 [c_weirref18_Queue.val a0] (weirref18_Pop a0) weirref18_Pop.out := by
  refine Ref.of (cd := weirref18_Pop.B) Try.func53 (by kernel_rfl) (by kernel_rfl) ?_
  show SJ weirref18_Pop.cx [.code weirref18_Pop.B] [(0, c_weirref18_Queue.val a0)] [] (weirref18_Pop a0) weirref18_Pop.F0
  unfold weirref18_Pop
  refine SJ.seq (by kernel_rfl) ?_
  refine SJ.region (id := 0) (by kernel_rfl) [0, 1, 2, 3, 4] (by kernel_rfl) ?_
  refine OJ.slotOf (d := 1) (op := (.box 71 (.tmp 0))) (cd := c_weirref18_Queue) (u := a0) (owed := []) (by kernel_rfl) (box_run (by kernel_rfl)) (by kernel_rfl) (by kernel_rfl) (by kernel_rfl) (fun b1 => ?_)
  refine OW.nil ?_
  refine OJ.slotOf (d := 2) (op := (.alloc 71)) (cd := c_weirref18_Queue) (u := z_weirref18_Queue) (owed := []) (by kernel_rfl) (alloc_run Ty71) (by kernel_rfl) (by kernel_rfl) (by kernel_rfl) (fun b2 => ?_)
  refine OW.nil ?_
  refine OJ.run [2, 3, 4] [] [1, 2] (m2 := [(1, .pointer (some (pt b1 0))), (2, .pointer (some (pt b2 0)))]) (by kernel_rfl) (by kernel_rfl) ?_
  refine OJ.nil ?_
  refine SJ.seq (by kernel_rfl) ?_
  refine SJ.region (id := 1) (by kernel_rfl) [0, 1, 2] (by kernel_rfl) ?_
  refine OJ.kld (d := 10) (T := 71) (y := .tmp 1) (cd := c_weirref18_Queue) (j := 1) (b := b1) (o := 0) a0 (pend2 := []) (by kernel_rfl) (by kernel_rfl) Ty71 (by kernel_rfl) rfl (At.whole _) (by kernel_rfl) rfl ?_
  refine OJ.call (d := 11) (g := 62) (ats := #[71]) (args := [.tmp 10]) (vals := [c_weirref18_Queue.val a0]) (owed := []) (by kernel_rfl) F62 (by kernel_rfl) (weirref18_some_ok a0) (by kernel_rfl) (by kernel_rfl) (by kernel_rfl) (fun r3 => ?_)
  refine OW.nil ?_
  refine OJ.run [2] [] [1, 2, 6] (m2 := [(1, .pointer (some (pt b1 0))), (2, .pointer (some (pt b2 0))), (6, .bool r3)]) (by kernel_rfl) (by kernel_rfl) ?_
  refine OJ.nil ?_
  refine SJ.seq (by kernel_rfl) ?_
  refine SJ.seq (by kernel_rfl) ?_
  refine SJ.region (id := 2) (by kernel_rfl) [0, 1] (by kernel_rfl) ?_
  refine OJ.run [0, 1] [] [1, 2, 13] (m2 := [(1, .pointer (some (pt b1 0))), (2, .pointer (some (pt b2 0))), (13, .bool (!r3))]) (by kernel_rfl) (by kernel_rfl) ?_
  refine OJ.nil ?_
  refine SJ.cond (t := (.tmp 13)) (b := (!r3)) (by kernel_rfl) (by kernel_rfl) (bnot_iff Iff.rfl) (fun hc31 => ?_) (fun hc31 => ?_)
  · refine SJ.seq (by kernel_rfl) ?_
    refine SJ.region (id := 3) (by kernel_rfl) [0, 1, 2, 3, 4] (by kernel_rfl) ?_
    refine OJ.kld (d := 14) (T := 71) (y := .tmp 1) (cd := c_weirref18_Queue) (j := 1) (b := b1) (o := 0) a0 (pend2 := []) (by kernel_rfl) (by kernel_rfl) Ty71 (by kernel_rfl) rfl (At.whole _) (by kernel_rfl) rfl ?_
    refine OJ.kst (T := 71) (y := .tmp 2) (z := .tmp 14) (cd := c_weirref18_Queue) (u := a0) (j := 0) (b := b2) (o := 0) (c_weirref18_Queue.enc a0) (h2 := [(b2, c_weirref18_Queue.enc a0), (b1, c_weirref18_Queue.enc a0)]) (owed := []) (by kernel_rfl) (by kernel_rfl) (by kernel_rfl) Ty71 rfl (Upd.whole ((Cod.len _ _).trans (Cod.len _ _).symm)) (by kernel_rfl) (by kernel_rfl) rfl ?_
    refine OW.nil ?_
    refine OJ.run [2, 3, 4] [] [2, 3, 4, 5] (m2 := [(2, .pointer (some (pt b2 0))), (3, .int .i64 0), (4, .int .i64 0), (5, .bool false)]) (by kernel_rfl) (by kernel_rfl) ?_
    refine OJ.nil ?_
    exact SJ.ret (by kernel_rfl) rfl (Res.run (ys := [c_weirref18_Queue.val a0, .int .i64 0, .int .i64 0, .bool false]) (.cell (j := 0) (b := b2) (cd := c_weirref18_Queue) (q := a0) (by kernel_rfl) rfl Ty71 (At.whole _) (.tmp (by kernel_rfl) (.tmp (by kernel_rfl) (.tmp (by kernel_rfl) .nil)))) rfl)
  · refine SJ.skip (by kernel_rfl) ?_
    refine SJ.block (id := 0) (by kernel_rfl) ?_
    exact SJ.loop (fun s_ : (weirref18_Queue × weirref18_Queue) => [(1, .pointer (some (pt b1 0))), (2, .pointer (some (pt b2 0)))]) (fun s_ : (weirref18_Queue × weirref18_Queue) => [(b2, c_weirref18_Queue.enc s_.1), (b1, c_weirref18_Queue.enc s_.2)]) [1, 2] (by kernel_rfl) (by kernel_rfl) rfl (fun _ _ => rfl) (fun s_ => weirref18_Pop.L1_ok b1 b2 s_.1 s_.2)

/-! ### (*weir/queue.Queue).leave: function 48 -/
noncomputable def queue_Queue_leave.B : Code := (Try.f48.body).getD .skip
noncomputable def queue_Queue_leave.cx : Fx := ⟨Try.prog, 48, Try.f48⟩
noncomputable def queue_Queue_leave.out (r_ : Unit) : Value := .tuple #[]
noncomputable def queue_Queue_leave.F0 (r_ : Unit) : Reach := .ret (queue_Queue_leave.out r_)
noncomputable def queue_Queue_leave (a0 : (Option Addr)) (a1 : queue_turn) : M Unit :=
  slot 95 >>= fun b1 =>
  pure ()
theorem queue_Queue_leave_ok (a0 : (Option Addr)) (a1 : queue_turn) : Ref Try.prog 48 [.pointer a0, c_queue_turn.val a1] (queue_Queue_leave a0 a1) queue_Queue_leave.out := by
  refine Ref.of (cd := queue_Queue_leave.B) Try.func48 (by kernel_rfl) (by kernel_rfl) ?_
  show SJ queue_Queue_leave.cx [.code queue_Queue_leave.B] [(0, .pointer a0), (1, c_queue_turn.val a1)] [] (queue_Queue_leave a0 a1) queue_Queue_leave.F0
  unfold queue_Queue_leave
  refine SJ.region (id := 0) (by kernel_rfl) [0] (by kernel_rfl) ?_
  refine OJ.slotOf (d := 3) (op := (.box 95 (.tmp 1))) (cd := c_queue_turn) (u := a1) (owed := []) (by kernel_rfl) (box_run (by kernel_rfl)) (by kernel_rfl) (by kernel_rfl) (by kernel_rfl) (fun b1 => ?_)
  refine OW.nil ?_
  refine OJ.nil ?_
  exact SJ.end_ rfl (Res.run (ys := []) .nil rfl)

/-! ### (*weir/queue.Queue).Peek: function 31 -/
noncomputable def queue_Queue_Peek.B : Code := (Try.f31.body).getD .skip
noncomputable def queue_Queue_Peek.cx : Fx := ⟨Try.prog, 31, Try.f31⟩
noncomputable def queue_Queue_Peek.out (r_ : (Int × Int × Bool)) : Value := .tuple #[.int .i64 r_.1, .int .i64 r_.2.1, .bool r_.2.2]
noncomputable def queue_Queue_Peek.F0 (r_ : (Int × Int × Bool)) : Reach := .ret (queue_Queue_Peek.out r_)
noncomputable def queue_Queue_Peek (a0 : (Option Addr)) : M (Int × Int × Bool) :=
  queue_Queue_next a0 (fun (q1 : queue_turn) => queue_Queue_leave a0 q1) >>= fun r2 =>
  pure (r2.1, r2.2.1, r2.2.2)
theorem queue_Queue_Peek_ok (a0 : (Option Addr)) : Ref Try.prog 31 [.pointer a0] (queue_Queue_Peek a0) queue_Queue_Peek.out := by
  refine Ref.of (cd := queue_Queue_Peek.B) Try.func31 (by kernel_rfl) (by kernel_rfl) ?_
  show SJ queue_Queue_Peek.cx [.code queue_Queue_Peek.B] [(0, .pointer a0)] [] (queue_Queue_Peek a0) queue_Queue_Peek.F0
  unfold queue_Queue_Peek
  refine SJ.seq (by kernel_rfl) ?_
  refine SJ.region (id := 0) (by kernel_rfl) [0, 1, 2] (by kernel_rfl) ?_
  refine OJ.run [0, 1, 2] [] [0] (m2 := [(0, .pointer a0)]) (by kernel_rfl) (by kernel_rfl) ?_
  refine OJ.nil ?_
  refine SJ.seq (by kernel_rfl) ?_
  refine SJ.region (id := 1) (by kernel_rfl) [0, 1, 2, 3, 4, 5, 6, 7, 8, 9] (by kernel_rfl) ?_
  refine OJ.run [0, 1, 2] [3, 4, 5, 6, 7, 8, 9] [5, 7] (m2 := [(5, .pointer a0), (7, .func (.func 48) #[.pointer a0] #[])]) (by kernel_rfl) (by kernel_rfl) ?_
  refine OJ.call (d := 8) (g := 46) (ats := #[29, 109]) (args := [.tmp 5, .tmp 7]) (vals := [.pointer a0, .func (.func 48) #[.pointer a0] #[]]) (owed := []) (by kernel_rfl) F46 (by kernel_rfl) (queue_Queue_next_ok a0 ⟨.func (.func 48) #[.pointer a0] #[], rfl⟩ (fun (q1 : queue_turn) => queue_Queue_leave a0 q1) (fun q1 => RefV.of (first := [.pointer a0]) (cap := []) F48 (queue_Queue_leave_ok a0 q1))) (by kernel_rfl) (by kernel_rfl) (by kernel_rfl) (fun r2 => ?_)
  refine OW.nil ?_
  refine OJ.run [4, 5, 6, 7, 8, 9] [] [2, 3, 4] (m2 := [(2, .int .i64 r2.1), (3, .int .i64 r2.2.1), (4, .bool r2.2.2)]) (by kernel_rfl) (by kernel_rfl) ?_
  refine OJ.nil ?_
  exact SJ.ret (by kernel_rfl) rfl (Res.run (ys := [.int .i64 r2.1, .int .i64 r2.2.1, .bool r2.2.2]) (.tmp (by kernel_rfl) (.tmp (by kernel_rfl) (.tmp (by kernel_rfl) .nil))) rfl)

/-! ### weir/weirref18.Peek: function 54 -/
noncomputable def weirref18_Peek.B : Code := (Try.f54.body).getD .skip
noncomputable def weirref18_Peek.cx : Fx := ⟨Try.prog, 54, Try.f54⟩
noncomputable def weirref18_Peek.out (r_ : (Int × Int × Bool)) : Value := .tuple #[.int .i64 r_.1, .int .i64 r_.2.1, .bool r_.2.2]
noncomputable def weirref18_Peek.F0 (r_ : (Int × Int × Bool)) : Reach := .ret (weirref18_Peek.out r_)
noncomputable def weirref18_Peek (a0 : weirref18_Queue) : M (Int × Int × Bool) :=
  slot 71 >>= fun b1 =>
  weirref18_Pop a0 >>= fun r2 =>
  slot 71 >>= fun b3 =>
  pure (r2.2.1, r2.2.2.1, r2.2.2.2)
theorem weirref18_Peek_ok (a0 : weirref18_Queue) : Ref Try.prog 54 [c_weirref18_Queue.val a0] (weirref18_Peek a0) weirref18_Peek.out := by
  refine Ref.of (cd := weirref18_Peek.B) Try.func54 (by kernel_rfl) (by kernel_rfl) ?_
  show SJ weirref18_Peek.cx [.code weirref18_Peek.B] [(0, c_weirref18_Queue.val a0)] [] (weirref18_Peek a0) weirref18_Peek.F0
  unfold weirref18_Peek
  refine SJ.seq (by kernel_rfl) ?_
  refine SJ.region (id := 0) (by kernel_rfl) [0, 1, 2, 3] (by kernel_rfl) ?_
  refine OJ.slotOf (d := 1) (op := (.box 71 (.tmp 0))) (cd := c_weirref18_Queue) (u := a0) (owed := []) (by kernel_rfl) (box_run (by kernel_rfl)) (by kernel_rfl) (by kernel_rfl) (by kernel_rfl) (fun b1 => ?_)
  refine OW.nil ?_
  refine OJ.run [1, 2, 3] [] [1] (m2 := [(1, .pointer (some (pt b1 0)))]) (by kernel_rfl) (by kernel_rfl) ?_
  refine OJ.nil ?_
  refine SJ.seq (by kernel_rfl) ?_
  refine SJ.region (id := 1) (by kernel_rfl) [0, 1, 2, 3, 4, 5, 6, 7, 8, 9, 10, 11] (by kernel_rfl) ?_
  refine OJ.kld (d := 10) (T := 71) (y := .tmp 1) (cd := c_weirref18_Queue) (j := 0) (b := b1) (o := 0) a0 (pend2 := []) (by kernel_rfl) (by kernel_rfl) Ty71 (by kernel_rfl) rfl (At.whole _) (by kernel_rfl) rfl ?_
  refine OJ.call (d := 11) (g := 53) (ats := #[71]) (args := [.tmp 10]) (vals := [c_weirref18_Queue.val a0]) (owed := []) (by kernel_rfl) F53 (by kernel_rfl) (weirref18_Pop_ok a0) (by kernel_rfl) (by kernel_rfl) (by kernel_rfl) (fun r2 => ?_)
  refine OW.nil ?_
  refine OJ.run [2, 3, 4, 5, 6] [7, 8, 9, 10, 11] [12, 13, 14, 15] (m2 := [(12, c_weirref18_Queue.val r2.1), (13, .int .i64 r2.2.1), (14, .int .i64 r2.2.2.1), (15, .bool r2.2.2.2)]) (by kernel_rfl) (by kernel_rfl) ?_
  refine OJ.slotOf (d := 5) (op := (.alloc 71)) (cd := c_weirref18_Queue) (u := z_weirref18_Queue) (owed := []) (by kernel_rfl) (alloc_run Ty71) (by kernel_rfl) (by kernel_rfl) (by kernel_rfl) (fun b3 => ?_)
  refine OW.nil ?_
  refine OJ.kst (T := 71) (y := .tmp 5) (z := .tmp 12) (cd := c_weirref18_Queue) (u := r2.1) (j := 0) (b := b3) (o := 0) (c_weirref18_Queue.enc r2.1) (h2 := [(b3, c_weirref18_Queue.enc r2.1), (b1, c_weirref18_Queue.enc a0)]) (owed := []) (by kernel_rfl) (by kernel_rfl) (by kernel_rfl) Ty71 rfl (Upd.whole ((Cod.len _ _).trans (Cod.len _ _).symm)) (by kernel_rfl) (by kernel_rfl) rfl ?_
  refine OW.nil ?_
  refine OJ.run [9, 10, 11] [] [6, 7, 8] (m2 := [(6, .int .i64 r2.2.1), (7, .int .i64 r2.2.2.1), (8, .bool r2.2.2.2)]) (by kernel_rfl) (by kernel_rfl) ?_
  refine OJ.nil ?_
  refine SJ.seq (by kernel_rfl) ?_
  refine SJ.region (id := 2) (by kernel_rfl) [0, 1, 2, 3, 4, 5] (by kernel_rfl) ?_
  refine OJ.run [0, 1, 2, 3, 4, 5] [] [2, 3, 4] (m2 := [(2, .int .i64 r2.2.1), (3, .int .i64 r2.2.2.1), (4, .bool r2.2.2.2)]) (by kernel_rfl) (by kernel_rfl) ?_
  refine OJ.nil ?_
  exact SJ.ret (by kernel_rfl) rfl (Res.run (ys := [.int .i64 r2.2.1, .int .i64 r2.2.2.1, .bool r2.2.2.2]) (.tmp (by kernel_rfl) (.tmp (by kernel_rfl) (.tmp (by kernel_rfl) .nil))) rfl)

/-! ### (*weir/queue.Queue).Tick: function 26 -/
noncomputable def queue_Queue_Tick.B : Code := (Try.f26.body).getD .skip
noncomputable def queue_Queue_Tick.cx : Fx := ⟨Try.prog, 26, Try.f26⟩
noncomputable def queue_Queue_Tick.out (r_ : Unit) : Value := .tuple #[]
noncomputable def queue_Queue_Tick.F0 (r_ : Unit) : Reach := .ret (queue_Queue_Tick.out r_)
noncomputable def queue_Queue_Tick.F1 (a0 : (Option Addr)) (x2 : Sl) : (LS Int Unit) → Reach := loopF [.inLoop (c1 (c1 (c2 queue_Queue_Tick.B))), .inBlock 0] (fun s_ : Int => [(0, .pointer a0), (8, .int .i64 (x2.len : Int)), (9, .int .i64 s_)]) (fun s_ : Int => []) queue_Queue_Tick.F0
noncomputable def queue_Queue_Tick.L1 (a0 : (Option Addr)) (x2 : Sl) (s3 : Int) : M (LS Int Unit) :=
  if s3 < (x2.len : Int) then
    nilck a0 >>= fun p4 =>
    ld cL p4 >>= fun x5 =>
    idx x5.a x5.len s3 10 >>= fun p6 =>
    ld (cI .i64) (Addr.add p6 3) >>= fun x7 =>
    if x7 > 0 then
      draw >>= fun _ =>
      ld (cI .i64) (Addr.add p6 9) >>= fun x11 =>
      ld (cI .i64) (Addr.add p6 3) >>= fun x12 =>
      ld (cI .i64) (Addr.add p6 4) >>= fun x13 =>
      st (cI .i64) (Addr.add p6 9) (if x13 < (IntKind.wrap .i64 (x11 + x12)) then x13 else (IntKind.wrap .i64 (x11 + x12))) >>= fun _ =>
      pure (LS.next (IntKind.wrap .i64 (s3 + 1)))
    else
      pure (LS.next (IntKind.wrap .i64 (s3 + 1)))
  else
    pure (LS.done ())
theorem queue_Queue_Tick.L1_ok (a0 : (Option Addr)) (x2 : Sl) (s3 : Int) :
    SJ queue_Queue_Tick.cx [.code (c1 (c1 (c2 queue_Queue_Tick.B))), .inLoop (c1 (c1 (c2 queue_Queue_Tick.B))), .inBlock 0] [(0, .pointer a0), (8, .int .i64 (x2.len : Int)), (9, .int .i64 s3)] [] (queue_Queue_Tick.L1 a0 x2 s3) (queue_Queue_Tick.F1 a0 x2) := by
  unfold queue_Queue_Tick.L1
  refine SJ.seq (by kernel_rfl) ?_
  refine SJ.region (id := 1) (by kernel_rfl) [0] (by kernel_rfl) ?_
  refine OJ.run [0] [] [0, 8, 9, 10] (m2 := [(0, .pointer a0), (8, .int .i64 (x2.len : Int)), (9, .int .i64 s3), (10, .bool (decide (s3 < (x2.len : Int))))]) (by kernel_rfl) (by kernel_rfl) ?_
  refine OJ.nil ?_
  refine SJ.seq (by kernel_rfl) ?_
  refine SJ.cond (t := (.tmp 10)) (b := decide (s3 < (x2.len : Int))) (by kernel_rfl) (by kernel_rfl) decide_eq_true_iff (fun hc15 => ?_) (fun hc15 => ?_)
  · refine SJ.skip (by kernel_rfl) ?_
    refine SJ.seq (by kernel_rfl) ?_
    refine SJ.block (id := 1) (by kernel_rfl) ?_
    refine SJ.seq (by kernel_rfl) ?_
    refine SJ.region (id := 2) (by kernel_rfl) [0, 1] (by kernel_rfl) ?_
    refine OJ.run [0, 1] [] [0, 8, 9, 2] (m2 := [(0, .pointer a0), (8, .int .i64 (x2.len : Int)), (9, .int .i64 s3), (2, .int .i64 s3)]) (by kernel_rfl) (by kernel_rfl) ?_
    refine OJ.nil ?_
    refine SJ.seq (by kernel_rfl) ?_
    refine SJ.region (id := 3) (by kernel_rfl) [0, 1, 2, 3, 4, 5, 6] (by kernel_rfl) ?_
    refine OJ.run [0] [1, 2, 3, 4, 5, 6] [0, 8, 9, 2, 12] (m2 := [(0, .pointer a0), (8, .int .i64 (x2.len : Int)), (9, .int .i64 s3), (2, .int .i64 s3), (12, .pointer a0)]) (by kernel_rfl) (by kernel_rfl) ?_
    refine OJ.nilck (d := 13) (y := .tmp 12) (by kernel_rfl) (by kernel_rfl) (by kernel_rfl) (by kernel_rfl) (by kernel_rfl) (fun p4 => ?_)
    refine OJ.run [2] [3, 4, 5, 6] [0, 8, 9, 2, 14] (m2 := [(0, .pointer a0), (8, .int .i64 (x2.len : Int)), (9, .int .i64 s3), (2, .int .i64 s3), (14, .pointer (some p4))]) (by kernel_rfl) (by kernel_rfl) ?_
    refine OJ.ld (d := 15) (T := 92) (y := .tmp 14) (pend2 := fun x5 => []) (by kernel_rfl) (by kernel_rfl) Ty92 (by kernel_rfl) (by kernel_rfl) (fun _ => rfl) (fun x5 => ?_)
    refine OJ.run [4] [5, 6] [0, 8, 9, 15, 16] (m2 := [(0, .pointer a0), (8, .int .i64 (x2.len : Int)), (9, .int .i64 s3), (15, Sl.v x5), (16, .int .i64 s3)]) (by kernel_rfl) (by kernel_rfl) ?_
    refine OJ.idxS (d := 17) (T := 92) (y := .tmp 15) (j := .tmp 16) (E := 104) (cap := x5.cap) (k := .i64) (by kernel_rfl) (by kernel_rfl) (by kernel_rfl) (by kernel_rfl) (by kernel_rfl) (by kernel_rfl) (by kernel_rfl) (by kernel_rfl) (fun p6 => ?_)
    refine OJ.run [6] [] [0, 8, 9, 3] (m2 := [(0, .pointer a0), (8, .int .i64 (x2.len : Int)), (9, .int .i64 s3), (3, .pointer (some p6))]) (by kernel_rfl) (by kernel_rfl) ?_
    refine OJ.nil ?_
    refine SJ.seq (by kernel_rfl) ?_
    refine SJ.region (id := 4) (by kernel_rfl) [0, 1, 2, 3, 4, 5] (by kernel_rfl) ?_
    refine OJ.run [0, 1, 2, 3] [4, 5] [0, 8, 9, 3, 21] (m2 := [(0, .pointer a0), (8, .int .i64 (x2.len : Int)), (9, .int .i64 s3), (3, .pointer (some p6)), (21, .pointer (some (Addr.add p6 3)))]) (by kernel_rfl) (by kernel_rfl) ?_
    refine OJ.ld (d := 22) (T := 3) (y := .tmp 21) (pend2 := fun x7 => []) (by kernel_rfl) (by kernel_rfl) Ty3 (by kernel_rfl) (by kernel_rfl) (fun _ => rfl) (fun x7 => ?_)
    refine OJ.run [5] [] [0, 8, 9, 3, 23] (m2 := [(0, .pointer a0), (8, .int .i64 (x2.len : Int)), (9, .int .i64 s3), (3, .pointer (some p6)), (23, .bool (decide (x7 > 0)))]) (by kernel_rfl) (by kernel_rfl) ?_
    refine OJ.nil ?_
    refine SJ.cond (t := (.tmp 23)) (b := decide (x7 > 0)) (by kernel_rfl) (by kernel_rfl) decide_eq_true_iff (fun hc14 => ?_) (fun hc14 => ?_)
    · refine SJ.draw (id := 5) (kd := [0, 0, 0, 0, 1, 0, 0, 0, 0, 1, 0, 0, 0, 0, 0, 1, 0, 0, 0, 2]) (bef := [0, 0, 2, 6, 14, 0, 32, 96, 224, 480, 1022, 0, 2048, 6144, 14336, 30720, 65534, 131071, 262143, 524287]) (ord := [0, 1, 2, 3, 4, 5, 6, 7, 8, 9, 10, 11, 12, 13, 14, 15, 16, 17, 18, 19]) (by kernel_rfl) mixed (by kernel_rfl) ?_
      refine OJ.run [0, 1, 2, 3] [4, 5, 6, 7, 8, 9, 10, 11, 12, 13, 14, 15, 16, 17, 18, 19] [0, 8, 9, 3, 24, 27] (m2 := [(0, .pointer a0), (8, .int .i64 (x2.len : Int)), (9, .int .i64 s3), (3, .pointer (some p6)), (24, .pointer (some p6)), (27, .pointer (some (Addr.add p6 9)))]) (by kernel_rfl) (by kernel_rfl) ?_
      refine OJ.ld (d := 28) (T := 3) (y := .tmp 27) (pend2 := fun x11 => [⟨4, 3, (Addr.add p6 9), (cI .i64).val x11⟩]) (by kernel_rfl) (by kernel_rfl) Ty3 (by kernel_rfl) (by kernel_rfl) (fun _ => rfl) (fun x11 => ?_)
      refine OJ.run [5, 6, 7, 8] [9, 10, 11, 12, 13, 14, 15, 16, 17, 18, 19] [0, 8, 9, 3, 24, 28, 32] (m2 := [(0, .pointer a0), (8, .int .i64 (x2.len : Int)), (9, .int .i64 s3), (3, .pointer (some p6)), (24, .pointer (some p6)), (28, .int .i64 x11), (32, .pointer (some (Addr.add p6 3)))]) (by kernel_rfl) (by kernel_rfl) ?_
      refine OJ.ld (d := 33) (T := 3) (y := .tmp 32) (pend2 := fun x12 => [⟨9, 3, (Addr.add p6 3), (cI .i64).val x12⟩, ⟨4, 3, (Addr.add p6 9), (cI .i64).val x11⟩]) (by kernel_rfl) (by kernel_rfl) Ty3 (by kernel_rfl) (by kernel_rfl) (fun _ => rfl) (fun x12 => ?_)
      refine OJ.run [10, 11, 12, 13, 14] [15, 16, 17, 18, 19] [0, 8, 9, 24, 34, 38] (m2 := [(0, .pointer a0), (8, .int .i64 (x2.len : Int)), (9, .int .i64 s3), (24, .pointer (some p6)), (34, .int .i64 (IntKind.wrap .i64 (x11 + x12))), (38, .pointer (some (Addr.add p6 4)))]) (by kernel_rfl) (by kernel_rfl) ?_
      refine OJ.ld (d := 39) (T := 3) (y := .tmp 38) (pend2 := fun x13 => [⟨15, 3, (Addr.add p6 4), (cI .i64).val x13⟩, ⟨9, 3, (Addr.add p6 3), (cI .i64).val x12⟩, ⟨4, 3, (Addr.add p6 9), (cI .i64).val x11⟩]) (by kernel_rfl) (by kernel_rfl) Ty3 (by kernel_rfl) (by kernel_rfl) (fun _ => rfl) (fun x13 => ?_)
      refine OJ.min (d := 40) (t := 3) (u := 3) (so := .tmp 34) (xo := .tmp 39) (k := .i64) (p := (IntKind.wrap .i64 (x11 + x12))) (q := x13) (by kernel_rfl) (by kernel_rfl) (by kernel_rfl) (by kernel_rfl) (by kernel_rfl) (by kernel_rfl) ?_
      refine OJ.run [17, 18] [19] [0, 8, 9, 40, 42] (m2 := [(0, .pointer a0), (8, .int .i64 (x2.len : Int)), (9, .int .i64 s3), (40, .int .i64 (if x13 < (IntKind.wrap .i64 (x11 + x12)) then x13 else (IntKind.wrap .i64 (x11 + x12)))), (42, .pointer (some (Addr.add p6 9)))]) (by kernel_rfl) (by kernel_rfl) ?_
      refine OJ.st (T := 3) (y := .tmp 42) (z := .tmp 40) (owed := []) (by kernel_rfl) (by kernel_rfl) (by kernel_rfl) Ty3 (by kernel_rfl) (by kernel_rfl) ?_
      refine OW.nil ?_
      refine OJ.nil ?_
      refine SJ.inBlock ?_
      refine SJ.region (id := 6) (by kernel_rfl) [0, 1] (by kernel_rfl) ?_
      refine OJ.run [0, 1] [] [0, 8, 9] (m2 := [(0, .pointer a0), (8, .int .i64 (x2.len : Int)), (9, .int .i64 (IntKind.wrap .i64 (s3 + 1)))]) (by kernel_rfl) (by kernel_rfl) ?_
      refine OJ.nil ?_
      exact SJ.at_ [0, 8, 9] rfl (by kernel_rfl)
    · refine SJ.skip (by kernel_rfl) ?_
      refine SJ.inBlock ?_
      refine SJ.region (id := 6) (by kernel_rfl) [0, 1] (by kernel_rfl) ?_
      refine OJ.run [0, 1] [] [0, 8, 9] (m2 := [(0, .pointer a0), (8, .int .i64 (x2.len : Int)), (9, .int .i64 (IntKind.wrap .i64 (s3 + 1)))]) (by kernel_rfl) (by kernel_rfl) ?_
      refine OJ.nil ?_
      exact SJ.at_ [0, 8, 9] rfl (by kernel_rfl)
  · refine SJ.exit (id := 0) (by kernel_rfl) (by rfl) ?_
    exact SJ.end_ rfl (Res.run (ys := []) .nil rfl)
noncomputable def queue_Queue_Tick (a0 : (Option Addr)) : M Unit :=
  nilck a0 >>= fun p1 =>
  ld cL p1 >>= fun x2 =>
  loopM (fun s_ : Int => queue_Queue_Tick.L1 a0 x2 s_) 0
theorem queue_Queue_Tick_ok (a0 : (Option Addr)) : Ref Try.prog 26 [.pointer a0] (queue_Queue_Tick a0) queue_Queue_Tick.out := by
  refine Ref.of (cd := queue_Queue_Tick.B) Try.func26 (by kernel_rfl) (by kernel_rfl) ?_
  show SJ queue_Queue_Tick.cx [.code queue_Queue_Tick.B] [(0, .pointer a0)] [] (queue_Queue_Tick a0) queue_Queue_Tick.F0
  unfold queue_Queue_Tick
  refine SJ.seq (by kernel_rfl) ?_
  refine SJ.region (id := 0) (by kernel_rfl) [0, 1, 2, 3, 4, 5] (by kernel_rfl) ?_
  refine OJ.run [0] [1, 2, 3, 4, 5] [0, 4] (m2 := [(0, .pointer a0), (4, .pointer a0)]) (by kernel_rfl) (by kernel_rfl) ?_
  refine OJ.nilck (d := 5) (y := .tmp 4) (by kernel_rfl) (by kernel_rfl) (by kernel_rfl) (by kernel_rfl) (by kernel_rfl) (fun p1 => ?_)
  refine OJ.run [2] [3, 4, 5] [0, 6] (m2 := [(0, .pointer a0), (6, .pointer (some p1))]) (by kernel_rfl) (by kernel_rfl) ?_
  refine OJ.ld (d := 7) (T := 92) (y := .tmp 6) (pend2 := fun x2 => []) (by kernel_rfl) (by kernel_rfl) Ty92 (by kernel_rfl) (by kernel_rfl) (fun _ => rfl) (fun x2 => ?_)
  refine OJ.run [4, 5] [] [0, 8, 9] (m2 := [(0, .pointer a0), (8, .int .i64 (x2.len : Int)), (9, .int .i64 0)]) (by kernel_rfl) (by kernel_rfl) ?_
  refine OJ.nil ?_
  refine SJ.block (id := 0) (by kernel_rfl) ?_
  exact SJ.loop (fun s_ : Int => [(0, .pointer a0), (8, .int .i64 (x2.len : Int)), (9, .int .i64 s_)]) (fun s_ : Int => []) [0, 8, 9] (by kernel_rfl) (by kernel_rfl) rfl (fun _ _ => rfl) (fun s_ => queue_Queue_Tick.L1_ok a0 x2 s_)

/-! ### weir/weirref18.Tick: function 55 -/
noncomputable def weirref18_Tick.B : Code := (Try.f55.body).getD .skip
noncomputable def weirref18_Tick.cx : Fx := ⟨Try.prog, 55, Try.f55⟩
noncomputable def weirref18_Tick.out (r_ : weirref18_Queue) : Value := c_weirref18_Queue.val r_
noncomputable def weirref18_Tick.F0 (r_ : weirref18_Queue) : Reach := .ret (weirref18_Tick.out r_)
noncomputable def weirref18_Tick.F1 (b1 : Nat) (b2 : Nat) : (LS (Int × weirref18_Queue) weirref18_Queue) → Reach := loopF [.inLoop (c1 (c1 (c2 (c1 (c2 weirref18_Tick.B))))), .inBlock 0, .code (c2 (c2 weirref18_Tick.B))] (fun s_ : (Int × weirref18_Queue) => [(1, .pointer (some (pt b1 0))), (2, .pointer (some (pt b2 0))), (3, .int .i64 s_.1)]) (fun s_ : (Int × weirref18_Queue) => [(b2, c_weirref18_Queue.enc z_weirref18_Queue), (b1, c_weirref18_Queue.enc s_.2)]) weirref18_Tick.F0
noncomputable def weirref18_Tick.K1 (s3 : Int) (s4 : weirref18_Queue) (j21 : weirref18_Line) : M (LS (Int × weirref18_Queue) weirref18_Queue) :=
  weirref18_put s4 s3 j21 >>= fun r22 =>
  pure (LS.next (IntKind.wrap .i64 (s3 + 1), r22))
theorem weirref18_Tick.K1_ok (b1 : Nat) (b2 : Nat) (s3 : Int) (s4 : weirref18_Queue) (b18 : Nat) (j21 : weirref18_Line) :
    SJ weirref18_Tick.cx [.code (c2 (c2 (c1 (c1 (c2 (c1 (c1 (c2 (c1 (c2 weirref18_Tick.B)))))))))), .inBlock 1, .code (c2 (c2 (c1 (c1 (c2 (c1 (c2 weirref18_Tick.B))))))), .inLoop (c1 (c1 (c2 (c1 (c2 weirref18_Tick.B))))), .inBlock 0, .code (c2 (c2 weirref18_Tick.B))] [(1, .pointer (some (pt b1 0))), (2, .pointer (some (pt b2 0))), (3, .int .i64 s3), (4, .pointer (some (pt b18 0)))] [(b18, c_weirref18_Line.enc j21), (b2, c_weirref18_Queue.enc z_weirref18_Queue), (b1, c_weirref18_Queue.enc s4)] (weirref18_Tick.K1 s3 s4 j21) (weirref18_Tick.F1 b1 b2) := by
  unfold weirref18_Tick.K1
  refine SJ.region (id := 9) (by kernel_rfl) [0, 1, 2, 3, 4] (by kernel_rfl) ?_
  refine OJ.kld (d := 38) (T := 71) (y := .tmp 1) (cd := c_weirref18_Queue) (j := 2) (b := b1) (o := 0) s4 (pend2 := []) (by kernel_rfl) (by kernel_rfl) Ty71 (by kernel_rfl) rfl (At.whole _) (by kernel_rfl) rfl ?_
  refine OJ.run [1] [2, 3, 4] [1, 2, 3, 4, 38, 39] (m2 := [(1, .pointer (some (pt b1 0))), (2, .pointer (some (pt b2 0))), (3, .int .i64 s3), (4, .pointer (some (pt b18 0))), (38, c_weirref18_Queue.val s4), (39, .int .i64 s3)]) (by kernel_rfl) (by kernel_rfl) ?_
  refine OJ.kld (d := 40) (T := 116) (y := .tmp 4) (cd := c_weirref18_Line) (j := 0) (b := b18) (o := 0) j21 (pend2 := []) (by kernel_rfl) (by kernel_rfl) Ty116 (by kernel_rfl) rfl (At.whole _) (by kernel_rfl) rfl ?_
  refine OJ.call (d := 41) (g := 61) (ats := #[71, 3, 116]) (args := [.tmp 38, .tmp 39, .tmp 40]) (vals := [c_weirref18_Queue.val s4, .int .i64 s3, c_weirref18_Line.val j21]) (owed := []) (by kernel_rfl) F61 (by kernel_rfl) (weirref18_put_ok s4 s3 j21) (by kernel_rfl) (by kernel_rfl) (by kernel_rfl) (fun r22 => ?_)
  refine OW.nil ?_
  refine OJ.kst (T := 71) (y := .tmp 1) (z := .tmp 41) (cd := c_weirref18_Queue) (u := r22) (j := 2) (b := b1) (o := 0) (c_weirref18_Queue.enc r22) (h2 := [(b18, c_weirref18_Line.enc j21), (b2, c_weirref18_Queue.enc z_weirref18_Queue), (b1, c_weirref18_Queue.enc r22)]) (owed := []) (by kernel_rfl) (by kernel_rfl) (by kernel_rfl) Ty71 rfl (Upd.whole ((Cod.len _ _).trans (Cod.len _ _).symm)) (by kernel_rfl) (by kernel_rfl) rfl ?_
  refine OW.nil ?_
  refine OJ.nil ?_
  refine SJ.inBlock ?_
  refine SJ.region (id := 3) (by kernel_rfl) [0, 1, 2] (by kernel_rfl) ?_
  refine OJ.run [0, 1, 2] [] [1, 2, 3] (m2 := [(1, .pointer (some (pt b1 0))), (2, .pointer (some (pt b2 0))), (3, .int .i64 (IntKind.wrap .i64 (s3 + 1)))]) (by kernel_rfl) (by kernel_rfl) ?_
  refine OJ.nil ?_
  refine SJ.forget (List.Sublist.cons _ (List.Sublist.cons_cons _ (List.Sublist.cons_cons _ List.Sublist.slnil))) ?_
  exact SJ.at_ [1, 2, 3] rfl (by kernel_rfl)
noncomputable def weirref18_Tick.K2 (s3 : Int) (s4 : weirref18_Queue) (j23 : weirref18_Line) : M (LS (Int × weirref18_Queue) weirref18_Queue) :=
  weirref18_Tick.K1 s3 s4 j23
theorem weirref18_Tick.K2_ok (b1 : Nat) (b2 : Nat) (s3 : Int) (s4 : weirref18_Queue) (b18 : Nat) (j23 : weirref18_Line) :
    SJ weirref18_Tick.cx [.code (c2 (c2 (c1 (c1 (c2 (c1 (c1 (c2 (c1 (c2 weirref18_Tick.B)))))))))), .inBlock 1, .code (c2 (c2 (c1 (c1 (c2 (c1 (c2 weirref18_Tick.B))))))), .inLoop (c1 (c1 (c2 (c1 (c2 weirref18_Tick.B))))), .inBlock 0, .code (c2 (c2 weirref18_Tick.B))] [(1, .pointer (some (pt b1 0))), (2, .pointer (some (pt b2 0))), (3, .int .i64 s3), (4, .pointer (some (pt b18 0)))] [(b18, c_weirref18_Line.enc j23), (b2, c_weirref18_Queue.enc z_weirref18_Queue), (b1, c_weirref18_Queue.enc s4)] (weirref18_Tick.K2 s3 s4 j23) (weirref18_Tick.F1 b1 b2) := by
  unfold weirref18_Tick.K2
  refine SJ.less [1, 2, 3, 4] (m' := [(1, .pointer (some (pt b1 0))), (2, .pointer (some (pt b2 0))), (3, .int .i64 s3), (4, .pointer (some (pt b18 0)))]) (by kernel_rfl) ?_
  exact weirref18_Tick.K1_ok b1 b2 s3 s4 b18 j23
noncomputable def weirref18_Tick.L1 (s3 : Int) (s4 : weirref18_Queue) : M (LS (Int × weirref18_Queue) weirref18_Queue) :=
  if s3 < (s4.L.len : Int) then
    idx s4.L.a s4.L.len s3 8 >>= fun p16 =>
    ld c_weirref18_Line p16 >>= fun x17 =>
    slot 116 >>= fun b18 =>
    if x17.C.Rate > 0 then
      if (IntKind.wrap .i64 (x17.Tokens + x17.C.Rate)) > x17.C.Burst then
        weirref18_Tick.K2 s3 s4 (⟨x17.C, x17.L, x17.Deficit, x17.C.Burst⟩ : weirref18_Line)
      else
        weirref18_Tick.K2 s3 s4 (⟨x17.C, x17.L, x17.Deficit, IntKind.wrap .i64 (x17.Tokens + x17.C.Rate)⟩ : weirref18_Line)
    else
      weirref18_Tick.K1 s3 s4 x17
  else
    pure (LS.done s4)
theorem weirref18_Tick.L1_ok (b1 : Nat) (b2 : Nat) (s3 : Int) (s4 : weirref18_Queue) :
    SJ weirref18_Tick.cx [.code (c1 (c1 (c2 (c1 (c2 weirref18_Tick.B))))), .inLoop (c1 (c1 (c2 (c1 (c2 weirref18_Tick.B))))), .inBlock 0, .code (c2 (c2 weirref18_Tick.B))] [(1, .pointer (some (pt b1 0))), (2, .pointer (some (pt b2 0))), (3, .int .i64 s3)] [(b2, c_weirref18_Queue.enc z_weirref18_Queue), (b1, c_weirref18_Queue.enc s4)] (weirref18_Tick.L1 s3 s4) (weirref18_Tick.F1 b1 b2) := by
  unfold weirref18_Tick.L1
  refine SJ.seq (by kernel_rfl) ?_
  refine SJ.seq (by kernel_rfl) ?_
  refine SJ.region (id := 2) (by kernel_rfl) [0, 1, 2, 3, 4] (by kernel_rfl) ?_
  refine OJ.run [0, 1] [2, 3, 4] [1, 2, 3, 5, 6] (m2 := [(1, .pointer (some (pt b1 0))), (2, .pointer (some (pt b2 0))), (3, .int .i64 s3), (5, .int .i64 s3), (6, .pointer (some (pt b1 0)))]) (by kernel_rfl) (by kernel_rfl) ?_
  refine OJ.kld (d := 7) (T := 69) (y := .tmp 6) (cd := cL) (j := 1) (b := b1) (o := 0) s4.L (pend2 := []) (by kernel_rfl) (by kernel_rfl) Ty69 (by kernel_rfl) rfl (At_weirref18_Queue_L s4) (by kernel_rfl) rfl ?_
  refine OJ.run [3, 4] [] [1, 2, 3, 9] (m2 := [(1, .pointer (some (pt b1 0))), (2, .pointer (some (pt b2 0))), (3, .int .i64 s3), (9, .bool (decide (s3 < (s4.L.len : Int))))]) (by kernel_rfl) (by kernel_rfl) ?_
  refine OJ.nil ?_
  refine SJ.cond (t := (.tmp 9)) (b := decide (s3 < (s4.L.len : Int))) (by kernel_rfl) (by kernel_rfl) decide_eq_true_iff (fun hc26 => ?_) (fun hc26 => ?_)
  · refine SJ.skip (by kernel_rfl) ?_
    refine SJ.seq (by kernel_rfl) ?_
    refine SJ.block (id := 1) (by kernel_rfl) ?_
    refine SJ.seq (by kernel_rfl) ?_
    refine SJ.region (id := 4) (by kernel_rfl) [0, 1, 2, 3, 4, 5, 6] (by kernel_rfl) ?_
    refine OJ.run [0] [1, 2, 3, 4, 5, 6] [1, 2, 3, 12] (m2 := [(1, .pointer (some (pt b1 0))), (2, .pointer (some (pt b2 0))), (3, .int .i64 s3), (12, .pointer (some (pt b1 0)))]) (by kernel_rfl) (by kernel_rfl) ?_
    refine OJ.kld (d := 13) (T := 69) (y := .tmp 12) (cd := cL) (j := 1) (b := b1) (o := 0) s4.L (pend2 := []) (by kernel_rfl) (by kernel_rfl) Ty69 (by kernel_rfl) rfl (At_weirref18_Queue_L s4) (by kernel_rfl) rfl ?_
    refine OJ.run [2] [3, 4, 5, 6] [1, 2, 3, 13, 14] (m2 := [(1, .pointer (some (pt b1 0))), (2, .pointer (some (pt b2 0))), (3, .int .i64 s3), (13, Sl.v s4.L), (14, .int .i64 s3)]) (by kernel_rfl) (by kernel_rfl) ?_
    refine OJ.idxS (d := 15) (T := 69) (y := .tmp 13) (j := .tmp 14) (E := 116) (cap := s4.L.cap) (k := .i64) (by kernel_rfl) (by kernel_rfl) (by kernel_rfl) (by kernel_rfl) (by kernel_rfl) (by kernel_rfl) (by kernel_rfl) (by kernel_rfl) (fun p16 => ?_)
    refine OJ.ld (d := 16) (T := 116) (y := .tmp 15) (pend2 := fun x17 => []) (by kernel_rfl) (by kernel_rfl) Ty116 (by kernel_rfl) (by kernel_rfl) (fun _ => rfl) (fun x17 => ?_)
    refine OJ.slotOf (d := 4) (op := (.alloc 116)) (cd := c_weirref18_Line) (u := z_weirref18_Line) (owed := []) (by kernel_rfl) (alloc_run Ty116) (by kernel_rfl) (by kernel_rfl) (by kernel_rfl) (fun b18 => ?_)
    refine OW.nil ?_
    refine OJ.kst (T := 116) (y := .tmp 4) (z := .tmp 16) (cd := c_weirref18_Line) (u := x17) (j := 0) (b := b18) (o := 0) (c_weirref18_Line.enc x17) (h2 := [(b18, c_weirref18_Line.enc x17), (b2, c_weirref18_Queue.enc z_weirref18_Queue), (b1, c_weirref18_Queue.enc s4)]) (owed := []) (by kernel_rfl) (by kernel_rfl) (by kernel_rfl) Ty116 rfl (Upd.whole ((Cod.len _ _).trans (Cod.len _ _).symm)) (by kernel_rfl) (by kernel_rfl) rfl ?_
    refine OW.nil ?_
    refine OJ.nil ?_
    refine SJ.seq (by kernel_rfl) ?_
    refine SJ.seq (by kernel_rfl) ?_
    refine SJ.region (id := 5) (by kernel_rfl) [0, 1, 2, 3] (by kernel_rfl) ?_
    refine OJ.run [0, 1] [2, 3] [1, 2, 3, 4, 18] (m2 := [(1, .pointer (some (pt b1 0))), (2, .pointer (some (pt b2 0))), (3, .int .i64 s3), (4, .pointer (some (pt b18 0))), (18, .pointer (some (pt b18 3)))]) (by kernel_rfl) (by kernel_rfl) ?_
    refine OJ.kld (d := 19) (T := 3) (y := .tmp 18) (cd := (cI .i64)) (j := 0) (b := b18) (o := 3) x17.C.Rate (pend2 := []) (by kernel_rfl) (by kernel_rfl) Ty3 (by kernel_rfl) rfl (At.trans (At_weirref18_Line_C x17) (At_api_Class_Rate x17.C)) (by kernel_rfl) rfl ?_
    refine OJ.run [3] [] [1, 2, 3, 4, 20] (m2 := [(1, .pointer (some (pt b1 0))), (2, .pointer (some (pt b2 0))), (3, .int .i64 s3), (4, .pointer (some (pt b18 0))), (20, .bool (decide (x17.C.Rate > 0)))]) (by kernel_rfl) (by kernel_rfl) ?_
    refine OJ.nil ?_
    refine SJ.cond (t := (.tmp 20)) (b := decide (x17.C.Rate > 0)) (by kernel_rfl) (by kernel_rfl) decide_eq_true_iff (fun hc25 => ?_) (fun hc25 => ?_)
    · refine SJ.seq (by kernel_rfl) ?_
      refine SJ.region (id := 6) (by kernel_rfl) [0, 1, 2, 3, 4, 5, 6, 7] (by kernel_rfl) ?_
      refine OJ.run [0] [1, 2, 3, 4, 5, 6, 7] [1, 2, 3, 4, 21] (m2 := [(1, .pointer (some (pt b1 0))), (2, .pointer (some (pt b2 0))), (3, .int .i64 s3), (4, .pointer (some (pt b18 0))), (21, .pointer (some (pt b18 7)))]) (by kernel_rfl) (by kernel_rfl) ?_
      refine OJ.kld (d := 22) (T := 3) (y := .tmp 21) (cd := (cI .i64)) (j := 0) (b := b18) (o := 7) x17.Tokens (pend2 := []) (by kernel_rfl) (by kernel_rfl) Ty3 (by kernel_rfl) rfl (At_weirref18_Line_Tokens x17) (by kernel_rfl) rfl ?_
      refine OJ.run [2, 3] [4, 5, 6, 7] [1, 2, 3, 4, 22, 24] (m2 := [(1, .pointer (some (pt b1 0))), (2, .pointer (some (pt b2 0))), (3, .int .i64 s3), (4, .pointer (some (pt b18 0))), (22, .int .i64 x17.Tokens), (24, .pointer (some (pt b18 3)))]) (by kernel_rfl) (by kernel_rfl) ?_
      refine OJ.kld (d := 25) (T := 3) (y := .tmp 24) (cd := (cI .i64)) (j := 0) (b := b18) (o := 3) x17.C.Rate (pend2 := []) (by kernel_rfl) (by kernel_rfl) Ty3 (by kernel_rfl) rfl (At.trans (At_weirref18_Line_C x17) (At_api_Class_Rate x17.C)) (by kernel_rfl) rfl ?_
      refine OJ.run [5, 6] [7] [1, 2, 3, 4, 26, 27] (m2 := [(1, .pointer (some (pt b1 0))), (2, .pointer (some (pt b2 0))), (3, .int .i64 s3), (4, .pointer (some (pt b18 0))), (26, .int .i64 (IntKind.wrap .i64 (x17.Tokens + x17.C.Rate))), (27, .pointer (some (pt b18 7)))]) (by kernel_rfl) (by kernel_rfl) ?_
      refine OJ.kst (T := 3) (y := .tmp 27) (z := .tmp 26) (cd := (cI .i64)) (u := (IntKind.wrap .i64 (x17.Tokens + x17.C.Rate))) (j := 0) (b := b18) (o := 7) (c_weirref18_Line.enc (⟨x17.C, x17.L, x17.Deficit, IntKind.wrap .i64 (x17.Tokens + x17.C.Rate)⟩ : weirref18_Line)) (h2 := [(b18, c_weirref18_Line.enc (⟨x17.C, x17.L, x17.Deficit, IntKind.wrap .i64 (x17.Tokens + x17.C.Rate)⟩ : weirref18_Line)), (b2, c_weirref18_Queue.enc z_weirref18_Queue), (b1, c_weirref18_Queue.enc s4)]) (owed := []) (by kernel_rfl) (by kernel_rfl) (by kernel_rfl) Ty3 rfl (Up_weirref18_Line_Tokens x17 (IntKind.wrap .i64 (x17.Tokens + x17.C.Rate))) (by kernel_rfl) (by kernel_rfl) rfl ?_
      refine OW.nil ?_
      refine OJ.nil ?_
      refine SJ.seq (by kernel_rfl) ?_
      refine SJ.region (id := 7) (by kernel_rfl) [0, 1, 2, 3, 4, 5] (by kernel_rfl) ?_
      refine OJ.run [0] [1, 2, 3, 4, 5] [1, 2, 3, 4, 28] (m2 := [(1, .pointer (some (pt b1 0))), (2, .pointer (some (pt b2 0))), (3, .int .i64 s3), (4, .pointer (some (pt b18 0))), (28, .pointer (some (pt b18 7)))]) (by kernel_rfl) (by kernel_rfl) ?_
      refine OJ.kld (d := 29) (T := 3) (y := .tmp 28) (cd := (cI .i64)) (j := 0) (b := b18) (o := 7) (IntKind.wrap .i64 (x17.Tokens + x17.C.Rate)) (pend2 := []) (by kernel_rfl) (by kernel_rfl) Ty3 (by kernel_rfl) rfl (At_weirref18_Line_Tokens (⟨x17.C, x17.L, x17.Deficit, IntKind.wrap .i64 (x17.Tokens + x17.C.Rate)⟩ : weirref18_Line)) (by kernel_rfl) rfl ?_
      refine OJ.run [2, 3] [4, 5] [1, 2, 3, 4, 29, 31] (m2 := [(1, .pointer (some (pt b1 0))), (2, .pointer (some (pt b2 0))), (3, .int .i64 s3), (4, .pointer (some (pt b18 0))), (29, .int .i64 (IntKind.wrap .i64 (x17.Tokens + x17.C.Rate))), (31, .pointer (some (pt b18 4)))]) (by kernel_rfl) (by kernel_rfl) ?_
      refine OJ.kld (d := 32) (T := 3) (y := .tmp 31) (cd := (cI .i64)) (j := 0) (b := b18) (o := 4) x17.C.Burst (pend2 := []) (by kernel_rfl) (by kernel_rfl) Ty3 (by kernel_rfl) rfl (At.trans (At_weirref18_Line_C (⟨x17.C, x17.L, x17.Deficit, IntKind.wrap .i64 (x17.Tokens + x17.C.Rate)⟩ : weirref18_Line)) (At_api_Class_Burst x17.C)) (by kernel_rfl) rfl ?_
      refine OJ.run [5] [] [1, 2, 3, 4, 33] (m2 := [(1, .pointer (some (pt b1 0))), (2, .pointer (some (pt b2 0))), (3, .int .i64 s3), (4, .pointer (some (pt b18 0))), (33, .bool (decide ((IntKind.wrap .i64 (x17.Tokens + x17.C.Rate)) > x17.C.Burst)))]) (by kernel_rfl) (by kernel_rfl) ?_
      refine OJ.nil ?_
      refine SJ.cond (t := (.tmp 33)) (b := decide ((IntKind.wrap .i64 (x17.Tokens + x17.C.Rate)) > x17.C.Burst)) (by kernel_rfl) (by kernel_rfl) decide_eq_true_iff (fun hc24 => ?_) (fun hc24 => ?_)
      · refine SJ.region (id := 8) (by kernel_rfl) [0, 1, 2, 3, 4] (by kernel_rfl) ?_
        refine OJ.run [0, 1] [2, 3, 4] [1, 2, 3, 4, 35] (m2 := [(1, .pointer (some (pt b1 0))), (2, .pointer (some (pt b2 0))), (3, .int .i64 s3), (4, .pointer (some (pt b18 0))), (35, .pointer (some (pt b18 4)))]) (by kernel_rfl) (by kernel_rfl) ?_
        refine OJ.kld (d := 36) (T := 3) (y := .tmp 35) (cd := (cI .i64)) (j := 0) (b := b18) (o := 4) x17.C.Burst (pend2 := []) (by kernel_rfl) (by kernel_rfl) Ty3 (by kernel_rfl) rfl (At.trans (At_weirref18_Line_C (⟨x17.C, x17.L, x17.Deficit, IntKind.wrap .i64 (x17.Tokens + x17.C.Rate)⟩ : weirref18_Line)) (At_api_Class_Burst x17.C)) (by kernel_rfl) rfl ?_
        refine OJ.run [3] [4] [1, 2, 3, 4, 36, 37] (m2 := [(1, .pointer (some (pt b1 0))), (2, .pointer (some (pt b2 0))), (3, .int .i64 s3), (4, .pointer (some (pt b18 0))), (36, .int .i64 x17.C.Burst), (37, .pointer (some (pt b18 7)))]) (by kernel_rfl) (by kernel_rfl) ?_
        refine OJ.kst (T := 3) (y := .tmp 37) (z := .tmp 36) (cd := (cI .i64)) (u := x17.C.Burst) (j := 0) (b := b18) (o := 7) (c_weirref18_Line.enc (⟨x17.C, x17.L, x17.Deficit, x17.C.Burst⟩ : weirref18_Line)) (h2 := [(b18, c_weirref18_Line.enc (⟨x17.C, x17.L, x17.Deficit, x17.C.Burst⟩ : weirref18_Line)), (b2, c_weirref18_Queue.enc z_weirref18_Queue), (b1, c_weirref18_Queue.enc s4)]) (owed := []) (by kernel_rfl) (by kernel_rfl) (by kernel_rfl) Ty3 rfl (Up_weirref18_Line_Tokens (⟨x17.C, x17.L, x17.Deficit, IntKind.wrap .i64 (x17.Tokens + x17.C.Rate)⟩ : weirref18_Line) x17.C.Burst) (by kernel_rfl) (by kernel_rfl) rfl ?_
        refine OW.nil ?_
        refine OJ.nil ?_
        refine SJ.less [1, 2, 3, 4] (m' := [(1, .pointer (some (pt b1 0))), (2, .pointer (some (pt b2 0))), (3, .int .i64 s3), (4, .pointer (some (pt b18 0)))]) (by kernel_rfl) ?_
        exact weirref18_Tick.K2_ok b1 b2 s3 s4 b18 (⟨x17.C, x17.L, x17.Deficit, x17.C.Burst⟩ : weirref18_Line)
      · refine SJ.skip (by kernel_rfl) ?_
        refine SJ.less [1, 2, 3, 4] (m' := [(1, .pointer (some (pt b1 0))), (2, .pointer (some (pt b2 0))), (3, .int .i64 s3), (4, .pointer (some (pt b18 0)))]) (by kernel_rfl) ?_
        exact weirref18_Tick.K2_ok b1 b2 s3 s4 b18 (⟨x17.C, x17.L, x17.Deficit, IntKind.wrap .i64 (x17.Tokens + x17.C.Rate)⟩ : weirref18_Line)
    · refine SJ.skip (by kernel_rfl) ?_
      refine SJ.less [1, 2, 3, 4] (m' := [(1, .pointer (some (pt b1 0))), (2, .pointer (some (pt b2 0))), (3, .int .i64 s3), (4, .pointer (some (pt b18 0)))]) (by kernel_rfl) ?_
      exact weirref18_Tick.K1_ok b1 b2 s3 s4 b18 x17
  · refine SJ.exit (id := 0) (by kernel_rfl) (by rfl) ?_
    refine SJ.seq (by kernel_rfl) ?_
    refine SJ.region (id := 10) (by kernel_rfl) [0, 1] (by kernel_rfl) ?_
    refine OJ.kld (d := 42) (T := 71) (y := .tmp 1) (cd := c_weirref18_Queue) (j := 1) (b := b1) (o := 0) s4 (pend2 := []) (by kernel_rfl) (by kernel_rfl) Ty71 (by kernel_rfl) rfl (At.whole _) (by kernel_rfl) rfl ?_
    refine OJ.kst (T := 71) (y := .tmp 2) (z := .tmp 42) (cd := c_weirref18_Queue) (u := s4) (j := 0) (b := b2) (o := 0) (c_weirref18_Queue.enc s4) (h2 := [(b2, c_weirref18_Queue.enc s4), (b1, c_weirref18_Queue.enc s4)]) (owed := []) (by kernel_rfl) (by kernel_rfl) (by kernel_rfl) Ty71 rfl (Upd.whole ((Cod.len _ _).trans (Cod.len _ _).symm)) (by kernel_rfl) (by kernel_rfl) rfl ?_
    refine OW.nil ?_
    refine OJ.nil ?_
    exact SJ.ret (by kernel_rfl) rfl (Res.run (ys := [c_weirref18_Queue.val s4]) (.cell (j := 0) (b := b2) (cd := c_weirref18_Queue) (q := s4) (by kernel_rfl) rfl Ty71 (At.whole _) .nil) rfl)
noncomputable def weirref18_Tick (a0 : weirref18_Queue) : M weirref18_Queue :=
  slot 71 >>= fun b1 =>
  slot 71 >>= fun b2 =>
  loopM (fun s_ : (Int × weirref18_Queue) => weirref18_Tick.L1 s_.1 s_.2) (0, a0)
theorem weirref18_Tick_ok (a0 : weirref18_Queue) : Ref Try.prog 55 [c_weirref18_Queue.val a0] (weirref18_Tick a0) weirref18_Tick.out := by
  refine Ref.of (cd := weirref18_Tick.B) Try.func55 (by kernel_rfl) (by kernel_rfl) ?_
  show SJ weirref18_Tick.cx [.code weirref18_Tick.B] [(0, c_weirref18_Queue.val a0)] [] (weirref18_Tick a0) weirref18_Tick.F0
  unfold weirref18_Tick
  refine SJ.seq (by kernel_rfl) ?_
  refine SJ.region (id := 0) (by kernel_rfl) [0, 1] (by kernel_rfl) ?_
  refine OJ.slotOf (d := 1) (op := (.box 71 (.tmp 0))) (cd := c_weirref18_Queue) (u := a0) (owed := []) (by kernel_rfl) (box_run (by kernel_rfl)) (by kernel_rfl) (by kernel_rfl) (by kernel_rfl) (fun b1 => ?_)
  refine OW.nil ?_
  refine OJ.slotOf (d := 2) (op := (.alloc 71)) (cd := c_weirref18_Queue) (u := z_weirref18_Queue) (owed := []) (by kernel_rfl) (alloc_run Ty71) (by kernel_rfl) (by kernel_rfl) (by kernel_rfl) (fun b2 => ?_)
  refine OW.nil ?_
  refine OJ.nil ?_
  refine SJ.seq (by kernel_rfl) ?_
  refine SJ.seq (by kernel_rfl) ?_
  refine SJ.region (id := 1) (by kernel_rfl) [0] (by kernel_rfl) ?_
  refine OJ.run [0] [] [1, 2, 3] (m2 := [(1, .pointer (some (pt b1 0))), (2, .pointer (some (pt b2 0))), (3, .int .i64 0)]) (by kernel_rfl) (by kernel_rfl) ?_
  refine OJ.nil ?_
  refine SJ.block (id := 0) (by kernel_rfl) ?_
  exact SJ.loop (fun s_ : (Int × weirref18_Queue) => [(1, .pointer (some (pt b1 0))), (2, .pointer (some (pt b2 0))), (3, .int .i64 s_.1)]) (fun s_ : (Int × weirref18_Queue) => [(b2, c_weirref18_Queue.enc z_weirref18_Queue), (b1, c_weirref18_Queue.enc s_.2)]) [1, 2, 3] (by kernel_rfl) (by kernel_rfl) rfl (fun _ _ => rfl) (fun s_ => weirref18_Tick.L1_ok b1 b2 s_.1 s_.2)

/-! ### (*weir/queue.Queue).of: function 49 -/
noncomputable def queue_Queue_of.B : Code := (Try.f49.body).getD .skip
noncomputable def queue_Queue_of.cx : Fx := ⟨Try.prog, 49, Try.f49⟩
noncomputable def queue_Queue_of.out (r_ : (Option Addr)) : Value := .pointer r_
noncomputable def queue_Queue_of.F0 (r_ : (Option Addr)) : Reach := .ret (queue_Queue_of.out r_)
noncomputable def queue_Queue_of (a0 : (Option Addr)) (a1 : Int) : M (Option Addr) :=
  (if a1 < 0 then
      pure true
    else
      nilck a0 >>= fun p1 =>
      ld cL p1 >>= fun x2 =>
      pure (decide (a1 ≥ (x2.len : Int)))) >>= fun y3 =>
  if y3 = true then
    pure none
  else
    nilck a0 >>= fun p4 =>
    ld cL p4 >>= fun x5 =>
    idx x5.a x5.len a1 10 >>= fun p6 =>
    pure (some p6)
theorem queue_Queue_of_ok (a0 : (Option Addr)) (a1 : Int) : Ref Try.prog 49 [.pointer a0, .int .i64 a1] (queue_Queue_of a0 a1) queue_Queue_of.out := by
  refine Ref.of (cd := queue_Queue_of.B) Try.func49 (by kernel_rfl) (by kernel_rfl) ?_
  show SJ queue_Queue_of.cx [.code queue_Queue_of.B] [(0, .pointer a0), (1, .int .i64 a1)] [] (queue_Queue_of a0 a1) queue_Queue_of.F0
  unfold queue_Queue_of
  refine SJ.seq (by kernel_rfl) ?_
  refine SJ.region (id := 0) (by kernel_rfl) [0] (by kernel_rfl) ?_
  refine OJ.run [0] [] [0, 1] (m2 := [(0, .pointer a0), (1, .int .i64 a1)]) (by kernel_rfl) (by kernel_rfl) ?_
  refine OJ.nil ?_
  refine SJ.seq (by kernel_rfl) ?_
  refine SJ.seq (by kernel_rfl) ?_
  refine SJ.region (id := 1) (by kernel_rfl) [0, 1, 2, 3, 4, 5, 6, 7, 8, 9, 10] (by kernel_rfl) ?_
  refine OJ.run [0, 1, 2] [3, 4, 5, 6, 7, 8, 9, 10] [0, 1, 7] (m2 := [(0, .pointer a0), (1, .int .i64 a1), (7, .bool (decide (a1 < 0)))]) (by kernel_rfl) (by kernel_rfl) ?_
  refine OJ.join (b := decide (a1 < 0)) [3, 4, 5, 6, 7, 8, 9, 10] [] [0, 1, 15] (fun y3 => [(0, .pointer a0), (1, .int .i64 a1), (15, .bool y3)]) [] [] (by kernel_rfl) (t := 7) (by kernel_rfl) decide_eq_true_iff (fun hp_ => ?_) (fun hp_ => ?_) (by kernel_rfl) (fun _ _ _ _ _ _ h_ => h_) (fun y3 => ?_)
  · refine OJ.run [3, 4, 5, 6, 7, 8, 9, 10] [] [0, 1, 15] (m2 := [(0, .pointer a0), (1, .int .i64 a1), (15, .bool true)]) (by kernel_rfl) (by kernel_rfl) ?_
    exact OJ.nil ⟨(Cov.mem Cov.nil), rfl, _, rfl, by kernel_rfl⟩
  · refine OJ.run [3, 4] [5, 6, 7, 8, 9, 10] [0, 1, 7, 8, 9] (m2 := [(0, .pointer a0), (1, .int .i64 a1), (7, .bool false), (8, .int .i64 a1), (9, .pointer a0)]) (by kernel_rfl) (by kernel_rfl) ?_
    refine OJ.nilck (d := 10) (y := .tmp 9) (by kernel_rfl) (by kernel_rfl) (by kernel_rfl) (by kernel_rfl) (by kernel_rfl) (fun p1 => ?_)
    refine OJ.run [6] [7, 8, 9, 10] [0, 1, 7, 8, 11] (m2 := [(0, .pointer a0), (1, .int .i64 a1), (7, .bool false), (8, .int .i64 a1), (11, .pointer (some p1))]) (by kernel_rfl) (by kernel_rfl) ?_
    refine OJ.ld (d := 12) (T := 92) (y := .tmp 11) (pend2 := fun x2 => []) (by kernel_rfl) (by kernel_rfl) Ty92 (by kernel_rfl) (by kernel_rfl) (fun _ => rfl) (fun x2 => ?_)
    refine OJ.run [8, 9, 10] [] [0, 1, 15] (m2 := [(0, .pointer a0), (1, .int .i64 a1), (15, .bool (decide (a1 ≥ (x2.len : Int))))]) (by kernel_rfl) (by kernel_rfl) ?_
    exact OJ.nil ⟨(Cov.mem Cov.nil), rfl, _, rfl, by kernel_rfl⟩
  · refine OJ.nil ?_
    refine SJ.cond (t := (.tmp 15)) (b := y3) (by kernel_rfl) (by kernel_rfl) Iff.rfl (fun hc7 => ?_) (fun hc7 => ?_)
    · refine SJ.seq (by kernel_rfl) ?_
      refine SJ.region (id := 2) (by kernel_rfl) [0] (by kernel_rfl) ?_
      refine OJ.run [0] [] [4] (m2 := [(4, .pointer none)]) (by kernel_rfl) (by kernel_rfl) ?_
      refine OJ.nil ?_
      exact SJ.ret (by kernel_rfl) rfl (Res.run (ys := [.pointer none]) (.tmp (by kernel_rfl) .nil) rfl)
    · refine SJ.skip (by kernel_rfl) ?_
      refine SJ.seq (by kernel_rfl) ?_
      refine SJ.region (id := 3) (by kernel_rfl) [0, 1, 2, 3, 4, 5, 6] (by kernel_rfl) ?_
      refine OJ.run [0] [1, 2, 3, 4, 5, 6] [1, 16] (m2 := [(1, .int .i64 a1), (16, .pointer a0)]) (by kernel_rfl) (by kernel_rfl) ?_
      refine OJ.nilck (d := 17) (y := .tmp 16) (by kernel_rfl) (by kernel_rfl) (by kernel_rfl) (by kernel_rfl) (by kernel_rfl) (fun p4 => ?_)
      refine OJ.run [2] [3, 4, 5, 6] [1, 18] (m2 := [(1, .int .i64 a1), (18, .pointer (some p4))]) (by kernel_rfl) (by kernel_rfl) ?_
      refine OJ.ld (d := 19) (T := 92) (y := .tmp 18) (pend2 := fun x5 => []) (by kernel_rfl) (by kernel_rfl) Ty92 (by kernel_rfl) (by kernel_rfl) (fun _ => rfl) (fun x5 => ?_)
      refine OJ.run [4] [5, 6] [19, 20] (m2 := [(19, Sl.v x5), (20, .int .i64 a1)]) (by kernel_rfl) (by kernel_rfl) ?_
      refine OJ.idxS (d := 21) (T := 92) (y := .tmp 19) (j := .tmp 20) (E := 104) (cap := x5.cap) (k := .i64) (by kernel_rfl) (by kernel_rfl) (by kernel_rfl) (by kernel_rfl) (by kernel_rfl) (by kernel_rfl) (by kernel_rfl) (by kernel_rfl) (fun p6 => ?_)
      refine OJ.run [6] [] [4] (m2 := [(4, .pointer (some p6))]) (by kernel_rfl) (by kernel_rfl) ?_
      refine OJ.nil ?_
      exact SJ.ret (by kernel_rfl) rfl (Res.run (ys := [.pointer (some p6)]) (.tmp (by kernel_rfl) .nil) rfl)

/-! ### (*weir/queue.Queue).Len: function 35 -/
noncomputable def queue_Queue_Len.B : Code := (Try.f35.body).getD .skip
noncomputable def queue_Queue_Len.cx : Fx := ⟨Try.prog, 35, Try.f35⟩
noncomputable def queue_Queue_Len.out (r_ : Int) : Value := .int .i64 r_
noncomputable def queue_Queue_Len.F0 (r_ : Int) : Reach := .ret (queue_Queue_Len.out r_)
noncomputable def queue_Queue_Len (a0 : (Option Addr)) (a1 : Int) : M Int :=
  queue_Queue_of a0 a1 >>= fun r1 =>
  if ¬ (r1 = none) then
    nilck r1 >>= fun p4 =>
    ld (cI .i64) (Addr.add (Addr.add p4 5) 2) >>= fun x5 =>
    pure x5
  else
    pure 0
theorem queue_Queue_Len_ok (a0 : (Option Addr)) (a1 : Int) : Ref Try.prog 35 [.pointer a0, .int .i64 a1] (queue_Queue_Len a0 a1) queue_Queue_Len.out := by
  refine Ref.of (cd := queue_Queue_Len.B) Try.func35 (by kernel_rfl) (by kernel_rfl) ?_
  show SJ queue_Queue_Len.cx [.code queue_Queue_Len.B] [(0, .pointer a0), (1, .int .i64 a1)] [] (queue_Queue_Len a0 a1) queue_Queue_Len.F0
  unfold queue_Queue_Len
  refine SJ.seq (by kernel_rfl) ?_
  refine SJ.region (id := 0) (by kernel_rfl) [0] (by kernel_rfl) ?_
  refine OJ.run [0] [] [0, 1] (m2 := [(0, .pointer a0), (1, .int .i64 a1)]) (by kernel_rfl) (by kernel_rfl) ?_
  refine OJ.nil ?_
  refine SJ.seq (by kernel_rfl) ?_
  refine SJ.seq (by kernel_rfl) ?_
  refine SJ.region (id := 1) (by kernel_rfl) [0, 1, 2, 3] (by kernel_rfl) ?_
  refine OJ.run [0, 1] [2, 3] [6, 7] (m2 := [(6, .pointer a0), (7, .int .i64 a1)]) (by kernel_rfl) (by kernel_rfl) ?_
  refine OJ.call (d := 8) (g := 49) (ats := #[29, 3]) (args := [.tmp 6, .tmp 7]) (vals := [.pointer a0, .int .i64 a1]) (owed := []) (by kernel_rfl) F49 (by kernel_rfl) (queue_Queue_of_ok a0 a1) (by kernel_rfl) (by kernel_rfl) (by kernel_rfl) (fun r1 => ?_)
  refine OW.nil ?_
  refine OJ.run [3] [] [5] (m2 := [(5, .pointer r1)]) (by kernel_rfl) (by kernel_rfl) ?_
  refine OJ.nil ?_
  refine SJ.seq (by kernel_rfl) ?_
  refine SJ.region (id := 2) (by kernel_rfl) [0, 1] (by kernel_rfl) ?_
  refine OJ.run [0, 1] [] [5, 10] (m2 := [(5, .pointer r1), (10, .bool (!(Option.isNone r1)))]) (by kernel_rfl) (by kernel_rfl) ?_
  refine OJ.nil ?_
  refine SJ.cond (t := (.tmp 10)) (b := (!(Option.isNone r1))) (by kernel_rfl) (by kernel_rfl) (bnot_iff Option.isNone_iff_eq_none) (fun hc6 => ?_) (fun hc6 => ?_)
  · refine SJ.seq (by kernel_rfl) ?_
    refine SJ.region (id := 3) (by kernel_rfl) [0, 1, 2, 3, 4, 5] (by kernel_rfl) ?_
    refine OJ.run [0] [1, 2, 3, 4, 5] [11] (m2 := [(11, .pointer r1)]) (by kernel_rfl) (by kernel_rfl) ?_
    refine OJ.nilck (d := 12) (y := .tmp 11) (by kernel_rfl) (by kernel_rfl) (by kernel_rfl) (by kernel_rfl) (by kernel_rfl) (fun p4 => ?_)
    refine OJ.run [2, 3] [4, 5] [14] (m2 := [(14, .pointer (some (Addr.add (Addr.add p4 5) 2)))]) (by kernel_rfl) (by kernel_rfl) ?_
    refine OJ.ld (d := 15) (T := 3) (y := .tmp 14) (pend2 := fun x5 => []) (by kernel_rfl) (by kernel_rfl) Ty3 (by kernel_rfl) (by kernel_rfl) (fun _ => rfl) (fun x5 => ?_)
    refine OJ.run [5] [] [4] (m2 := [(4, .int .i64 x5)]) (by kernel_rfl) (by kernel_rfl) ?_
    refine OJ.nil ?_
    exact SJ.ret (by kernel_rfl) rfl (Res.run (ys := [.int .i64 x5]) (.tmp (by kernel_rfl) .nil) rfl)
  · refine SJ.skip (by kernel_rfl) ?_
    refine SJ.seq (by kernel_rfl) ?_
    refine SJ.region (id := 4) (by kernel_rfl) [0] (by kernel_rfl) ?_
    refine OJ.run [0] [] [4] (m2 := [(4, .int .i64 0)]) (by kernel_rfl) (by kernel_rfl) ?_
    refine OJ.nil ?_
    exact SJ.ret (by kernel_rfl) rfl (Res.run (ys := [.int .i64 0]) (.tmp (by kernel_rfl) .nil) rfl)

/-! ### weir/weirref18.Len: function 56 -/
noncomputable def weirref18_Len.B : Code := (Try.f56.body).getD .skip
noncomputable def weirref18_Len.cx : Fx := ⟨Try.prog, 56, Try.f56⟩
noncomputable def weirref18_Len.out (r_ : Int) : Value := .int .i64 r_
noncomputable def weirref18_Len.F0 (r_ : Int) : Reach := .ret (weirref18_Len.out r_)
noncomputable def weirref18_Len (a0 : weirref18_Queue) (a1 : Int) : M Int :=
  slot 71 >>= fun b1 =>
  weirref18_out a1 0 (IntKind.wrap .i64 ((a0.L.len : Int) - 1)) >>= fun r2 =>
  if r2 = true then
    pure 0
  else
    idx a0.L.a a0.L.len a1 8 >>= fun p3 =>
    ld cL (Addr.add p3 5) >>= fun x4 =>
    pure (x4.len : Int)
theorem weirref18_Len_ok (a0 : weirref18_Queue) (a1 : Int) : Ref Try.prog 56 [c_weirref18_Queue.val a0, .int .i64 a1] (weirref18_Len a0 a1) weirref18_Len.out := by
  refine Ref.of (cd := weirref18_Len.B) Try.func56 (by kernel_rfl) (by kernel_rfl) ?_
  show SJ weirref18_Len.cx [.code weirref18_Len.B] [(0, c_weirref18_Queue.val a0), (1, .int .i64 a1)] [] (weirref18_Len a0 a1) weirref18_Len.F0
  unfold weirref18_Len
  refine SJ.seq (by kernel_rfl) ?_
  refine SJ.region (id := 0) (by kernel_rfl) [0, 1] (by kernel_rfl) ?_
  refine OJ.slotOf (d := 2) (op := (.box 71 (.tmp 0))) (cd := c_weirref18_Queue) (u := a0) (owed := []) (by kernel_rfl) (box_run (by kernel_rfl)) (by kernel_rfl) (by kernel_rfl) (by kernel_rfl) (fun b1 => ?_)
  refine OW.nil ?_
  refine OJ.run [1] [] [1, 2] (m2 := [(1, .int .i64 a1), (2, .pointer (some (pt b1 0)))]) (by kernel_rfl) (by kernel_rfl) ?_
  refine OJ.nil ?_
  refine SJ.seq (by kernel_rfl) ?_
  refine SJ.seq (by kernel_rfl) ?_
  refine SJ.region (id := 1) (by kernel_rfl) [0, 1, 2, 3, 4, 5] (by kernel_rfl) ?_
  refine OJ.run [0, 1] [2, 3, 4, 5] [1, 2, 5, 6] (m2 := [(1, .int .i64 a1), (2, .pointer (some (pt b1 0))), (5, .int .i64 a1), (6, .pointer (some (pt b1 0)))]) (by kernel_rfl) (by kernel_rfl) ?_
  refine OJ.kld (d := 7) (T := 69) (y := .tmp 6) (cd := cL) (j := 0) (b := b1) (o := 0) a0.L (pend2 := []) (by kernel_rfl) (by kernel_rfl) Ty69 (by kernel_rfl) rfl (At_weirref18_Queue_L a0) (by kernel_rfl) rfl ?_
  refine OJ.run [3, 4] [5] [1, 2, 5, 9] (m2 := [(1, .int .i64 a1), (2, .pointer (some (pt b1 0))), (5, .int .i64 a1), (9, .int .i64 (IntKind.wrap .i64 ((a0.L.len : Int) - 1)))]) (by kernel_rfl) (by kernel_rfl) ?_
  refine OJ.call (d := 10) (g := 51) (ats := #[3, 3, 3]) (args := [.tmp 5, .const (.int .i64 0), .tmp 9]) (vals := [.int .i64 a1, .int .i64 0, .int .i64 (IntKind.wrap .i64 ((a0.L.len : Int) - 1))]) (owed := []) (by kernel_rfl) F51 (by kernel_rfl) (weirref18_out_ok a1 0 (IntKind.wrap .i64 ((a0.L.len : Int) - 1))) (by kernel_rfl) (by kernel_rfl) (by kernel_rfl) (fun r2 => ?_)
  refine OW.nil ?_
  refine OJ.nil ?_
  refine SJ.cond (t := (.tmp 10)) (b := r2) (by kernel_rfl) (by kernel_rfl) Iff.rfl (fun hc5 => ?_) (fun hc5 => ?_)
  · refine SJ.seq (by kernel_rfl) ?_
    refine SJ.region (id := 2) (by kernel_rfl) [0] (by kernel_rfl) ?_
    refine OJ.run [0] [] [4] (m2 := [(4, .int .i64 0)]) (by kernel_rfl) (by kernel_rfl) ?_
    refine OJ.nil ?_
    exact SJ.ret (by kernel_rfl) rfl (Res.run (ys := [.int .i64 0]) (.tmp (by kernel_rfl) .nil) rfl)
  · refine SJ.skip (by kernel_rfl) ?_
    refine SJ.seq (by kernel_rfl) ?_
    refine SJ.region (id := 3) (by kernel_rfl) [0, 1, 2, 3, 4, 5, 6, 7] (by kernel_rfl) ?_
    refine OJ.run [0] [1, 2, 3, 4, 5, 6, 7] [1, 11] (m2 := [(1, .int .i64 a1), (11, .pointer (some (pt b1 0)))]) (by kernel_rfl) (by kernel_rfl) ?_
    refine OJ.kld (d := 12) (T := 69) (y := .tmp 11) (cd := cL) (j := 0) (b := b1) (o := 0) a0.L (pend2 := []) (by kernel_rfl) (by kernel_rfl) Ty69 (by kernel_rfl) rfl (At_weirref18_Queue_L a0) (by kernel_rfl) rfl ?_
    refine OJ.run [2] [3, 4, 5, 6, 7] [12, 13] (m2 := [(12, Sl.v a0.L), (13, .int .i64 a1)]) (by kernel_rfl) (by kernel_rfl) ?_
    refine OJ.idxS (d := 14) (T := 69) (y := .tmp 12) (j := .tmp 13) (E := 116) (cap := a0.L.cap) (k := .i64) (by kernel_rfl) (by kernel_rfl) (by kernel_rfl) (by kernel_rfl) (by kernel_rfl) (by kernel_rfl) (by kernel_rfl) (by kernel_rfl) (fun p3 => ?_)
    refine OJ.run [4] [5, 6, 7] [15] (m2 := [(15, .pointer (some (Addr.add p3 5)))]) (by kernel_rfl) (by kernel_rfl) ?_
    refine OJ.ld (d := 16) (T := 114) (y := .tmp 15) (pend2 := fun x4 => []) (by kernel_rfl) (by kernel_rfl) Ty114 (by kernel_rfl) (by kernel_rfl) (fun _ => rfl) (fun x4 => ?_)
    refine OJ.run [6, 7] [] [4] (m2 := [(4, .int .i64 (x4.len : Int))]) (by kernel_rfl) (by kernel_rfl) ?_
    refine OJ.nil ?_
    exact SJ.ret (by kernel_rfl) rfl (Res.run (ys := [.int .i64 (x4.len : Int)]) (.tmp (by kernel_rfl) .nil) rfl)

/-! ### (*weir/queue.Queue).Bytes: function 36 -/
noncomputable def queue_Queue_Bytes.B : Code := (Try.f36.body).getD .skip
noncomputable def queue_Queue_Bytes.cx : Fx := ⟨Try.prog, 36, Try.f36⟩
noncomputable def queue_Queue_Bytes.out (r_ : Int) : Value := .int .i64 r_
noncomputable def queue_Queue_Bytes.F0 (r_ : Int) : Reach := .ret (queue_Queue_Bytes.out r_)
noncomputable def queue_Queue_Bytes (a0 : (Option Addr)) (a1 : Int) : M Int :=
  queue_Queue_of a0 a1 >>= fun r1 =>
  if ¬ (r1 = none) then
    nilck r1 >>= fun p4 =>
    ld (cI .i64) (Addr.add p4 8) >>= fun x5 =>
    pure x5
  else
    pure 0
theorem queue_Queue_Bytes_ok (a0 : (Option Addr)) (a1 : Int) : Ref Try.prog 36 [.pointer a0, .int .i64 a1] (queue_Queue_Bytes a0 a1) queue_Queue_Bytes.out := by
  refine Ref.of (cd := queue_Queue_Bytes.B) Try.func36 (by kernel_rfl) (by kernel_rfl) ?_
  show SJ queue_Queue_Bytes.cx [.code queue_Queue_Bytes.B] [(0, .pointer a0), (1, .int .i64 a1)] [] (queue_Queue_Bytes a0 a1) queue_Queue_Bytes.F0
  unfold queue_Queue_Bytes
  refine SJ.seq (by kernel_rfl) ?_
  refine SJ.region (id := 0) (by kernel_rfl) [0] (by kernel_rfl) ?_
  refine OJ.run [0] [] [0, 1] (m2 := [(0, .pointer a0), (1, .int .i64 a1)]) (by kernel_rfl) (by kernel_rfl) ?_
  refine OJ.nil ?_
  refine SJ.seq (by kernel_rfl) ?_
  refine SJ.seq (by kernel_rfl) ?_
  refine SJ.region (id := 1) (by kernel_rfl) [0, 1, 2, 3] (by kernel_rfl) ?_
  refine OJ.run [0, 1] [2, 3] [6, 7] (m2 := [(6, .pointer a0), (7, .int .i64 a1)]) (by kernel_rfl) (by kernel_rfl) ?_
  refine OJ.call (d := 8) (g := 49) (ats := #[29, 3]) (args := [.tmp 6, .tmp 7]) (vals := [.pointer a0, .int .i64 a1]) (owed := []) (by kernel_rfl) F49 (by kernel_rfl) (queue_Queue_of_ok a0 a1) (by kernel_rfl) (by kernel_rfl) (by kernel_rfl) (fun r1 => ?_)
  refine OW.nil ?_
  refine OJ.run [3] [] [5] (m2 := [(5, .pointer r1)]) (by kernel_rfl) (by kernel_rfl) ?_
  refine OJ.nil ?_
  refine SJ.seq (by kernel_rfl) ?_
  refine SJ.region (id := 2) (by kernel_rfl) [0, 1] (by kernel_rfl) ?_
  refine OJ.run [0, 1] [] [5, 10] (m2 := [(5, .pointer r1), (10, .bool (!(Option.isNone r1)))]) (by kernel_rfl) (by kernel_rfl) ?_
  refine OJ.nil ?_
  refine SJ.cond (t := (.tmp 10)) (b := (!(Option.isNone r1))) (by kernel_rfl) (by kernel_rfl) (bnot_iff Option.isNone_iff_eq_none) (fun hc6 => ?_) (fun hc6 => ?_)
  · refine SJ.seq (by kernel_rfl) ?_
    refine SJ.region (id := 3) (by kernel_rfl) [0, 1, 2, 3, 4] (by kernel_rfl) ?_
    refine OJ.run [0] [1, 2, 3, 4] [11] (m2 := [(11, .pointer r1)]) (by kernel_rfl) (by kernel_rfl) ?_
    refine OJ.nilck (d := 12) (y := .tmp 11) (by kernel_rfl) (by kernel_rfl) (by kernel_rfl) (by kernel_rfl) (by kernel_rfl) (fun p4 => ?_)
    refine OJ.run [2] [3, 4] [13] (m2 := [(13, .pointer (some (Addr.add p4 8)))]) (by kernel_rfl) (by kernel_rfl) ?_
    refine OJ.ld (d := 14) (T := 3) (y := .tmp 13) (pend2 := fun x5 => []) (by kernel_rfl) (by kernel_rfl) Ty3 (by kernel_rfl) (by kernel_rfl) (fun _ => rfl) (fun x5 => ?_)
    refine OJ.run [4] [] [4] (m2 := [(4, .int .i64 x5)]) (by kernel_rfl) (by kernel_rfl) ?_
    refine OJ.nil ?_
    exact SJ.ret (by kernel_rfl) rfl (Res.run (ys := [.int .i64 x5]) (.tmp (by kernel_rfl) .nil) rfl)
  · refine SJ.skip (by kernel_rfl) ?_
    refine SJ.seq (by kernel_rfl) ?_
    refine SJ.region (id := 4) (by kernel_rfl) [0] (by kernel_rfl) ?_
    refine OJ.run [0] [] [4] (m2 := [(4, .int .i64 0)]) (by kernel_rfl) (by kernel_rfl) ?_
    refine OJ.nil ?_
    exact SJ.ret (by kernel_rfl) rfl (Res.run (ys := [.int .i64 0]) (.tmp (by kernel_rfl) .nil) rfl)
end Go.Proofs.Ytgddbpmfendaeaa.Lx
