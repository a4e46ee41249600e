/- Programs of the M-world for Go functions, each with the proof that the Go text does what it says. Printed by lxgen.py. -/
import Derived.Test.YtgddbpmfendaeaaLxT
import Derived.Test.YtgddbpmfendaeaaLxP0
import Derived.Test.YtgddbpmfendaeaaLxP1
import Derived.Test.YtgddbpmfendaeaaLxP2
import Derived.Test.YtgddbpmfendaeaaLxP3
set_option linter.unusedVariables false
set_option linter.unusedSimpArgs false
namespace Go.Proofs.Ytgddbpmfendaeaa.Lx
open Go Go.Proofs
/-! ### (*weir/weirlaw18.Book).pushed: function 21 -/
noncomputable def weirlaw18_Book_pushed.B : Code := (Try.f21.body).getD .skip
noncomputable def weirlaw18_Book_pushed.cx : Fx := ⟨Try.prog, 21, Try.f21⟩
noncomputable def weirlaw18_Book_pushed.out (r_ : Bool) : Value := .bool r_
noncomputable def weirlaw18_Book_pushed.F0 (r_ : Bool) : Reach := .ret (weirlaw18_Book_pushed.out r_)
noncomputable def weirlaw18_Book_pushed (a0 : (Option Addr)) (a1 : Sl) (a2 : weirlaw18_Op) (a3 : Int) : M Bool :=
  slot 48 >>= fun b1 =>
  (if a2.Class < 0 then
      pure true
    else
      pure (decide (a2.Class ≥ (a1.len : Int)))) >>= fun y2 =>
  if y2 = true then
    pure (a3 == 181)
  else
    (if a2.Size < 1 then
        pure true
      else
        pure (decide (a2.Size > 65535))) >>= fun y3 =>
    if y3 = true then
      pure (a3 == 182)
    else
      idx a1.a a1.len a2.Class 5 >>= fun p4 =>
      ld c_api_Class p4 >>= fun x5 =>
      slot 41 >>= fun b6 =>
      draw >>= fun _ =>
      nilck a0 >>= fun p7 =>
      ld cL p7 >>= fun x8 =>
      idx x8.a x8.len a2.Class 1 >>= fun p9 =>
      ld cL p9 >>= fun x10 =>
      (if (x10.len : Int) ≥ x5.Items then
          pure true
        else
          nilck a0 >>= fun p11 =>
          ld cL (Addr.add p11 1) >>= fun x12 =>
          idx x12.a x12.len a2.Class 1 >>= fun p13 =>
          ld (cI .i64) p13 >>= fun x14 =>
          pure (decide ((IntKind.wrap .i64 (x14 + a2.Size)) > x5.Bytes))) >>= fun y15 =>
      if y15 = true then
        pure (a3 == 183)
      else
        draw >>= fun _ =>
        nilck a0 >>= fun p16 =>
        ld cL p16 >>= fun x17 =>
        nilck a0 >>= fun p18 =>
        ld cL p18 >>= fun x19 =>
        idx x19.a x19.len a2.Class 1 >>= fun p20 =>
        ld cL p20 >>= fun x21 =>
        slot 66 >>= fun b22 =>
        same cL p20 x21 >>= fun _ =>
        same cL p18 x19 >>= fun _ =>
        same cL p16 x17 >>= fun _ =>
        appl c_weirlaw18_Item 66 16 z_weirlaw18_Item x21 [(⟨a2.Size, a2.Item⟩ : weirlaw18_Item)] >>= fun r23 =>
        same cL p16 x17 >>= fun _ =>
        idx x17.a x17.len a2.Class 1 >>= fun p24 =>
        st cL p24 r23 >>= fun _ =>
        draw >>= fun _ =>
        nilck a0 >>= fun p25 =>
        ld cL (Addr.add p25 1) >>= fun x26 =>
        nilck a0 >>= fun p27 =>
        ld cL (Addr.add p27 1) >>= fun x28 =>
        idx x28.a x28.len a2.Class 1 >>= fun p29 =>
        ld (cI .i64) p29 >>= fun x30 =>
        idx x26.a x26.len a2.Class 1 >>= fun p31 =>
        st (cI .i64) p31 (IntKind.wrap .i64 (x30 + a2.Size)) >>= fun _ =>
        pure (a3 == 0)
theorem weirlaw18_Book_pushed_ok (a0 : (Option Addr)) (a1 : Sl) (a2 : weirlaw18_Op) (a3 : Int) : Ref Try.prog 21 [.pointer a0, Sl.v a1, c_weirlaw18_Op.val a2, .int .i64 a3] (weirlaw18_Book_pushed a0 a1 a2 a3) weirlaw18_Book_pushed.out := by
  refine Ref.of (cd := weirlaw18_Book_pushed.B) Try.func21 (by kernel_rfl) (by kernel_rfl) ?_
  show SJ weirlaw18_Book_pushed.cx [.code weirlaw18_Book_pushed.B] [(0, .pointer a0), (1, Sl.v a1), (2, c_weirlaw18_Op.val a2), (3, .int .i64 a3)] [] (weirlaw18_Book_pushed a0 a1 a2 a3) weirlaw18_Book_pushed.F0
  unfold weirlaw18_Book_pushed
  refine SJ.seq (by kernel_rfl) ?_
  refine SJ.region (id := 0) (by kernel_rfl) [0, 1] (by kernel_rfl) ?_
  refine OJ.slotOf (d := 6) (op := (.box 48 (.tmp 2))) (cd := c_weirlaw18_Op) (u := a2) (owed := []) (by kernel_rfl) (box_run (by kernel_rfl)) (by kernel_rfl) (by kernel_rfl) (by kernel_rfl) (fun b1 => ?_)
  refine OW.nil ?_
  refine OJ.run [1] [] [0, 1, 3, 6] (m2 := [(0, .pointer a0), (1, Sl.v a1), (3, .int .i64 a3), (6, .pointer (some (pt b1 0)))]) (by kernel_rfl) (by kernel_rfl) ?_
  refine OJ.nil ?_
  refine SJ.seq (by kernel_rfl) ?_
  refine SJ.seq (by kernel_rfl) ?_
  refine SJ.region (id := 1) (by kernel_rfl) [0, 1, 2, 3, 4, 5, 6, 7, 8, 9] (by kernel_rfl) ?_
  refine OJ.run [0] [1, 2, 3, 4, 5, 6, 7, 8, 9] [0, 1, 3, 6, 10] (m2 := [(0, .pointer a0), (1, Sl.v a1), (3, .int .i64 a3), (6, .pointer (some (pt b1 0))), (10, .pointer (some (pt b1 2)))]) (by kernel_rfl) (by kernel_rfl) ?_
  refine OJ.kld (d := 11) (T := 3) (y := .tmp 10) (cd := (cI .i64)) (j := 0) (b := b1) (o := 2) a2.Class (pend2 := []) (by kernel_rfl) (by kernel_rfl) Ty3 (by kernel_rfl) rfl (At_weirlaw18_Op_Class a2) (by kernel_rfl) rfl ?_
  refine OJ.run [2, 3] [4, 5, 6, 7, 8, 9] [0, 1, 3, 6, 13] (m2 := [(0, .pointer a0), (1, Sl.v a1), (3, .int .i64 a3), (6, .pointer (some (pt b1 0))), (13, .bool (decide (a2.Class < 0)))]) (by kernel_rfl) (by kernel_rfl) ?_
  refine OJ.join (b := decide (a2.Class < 0)) [4, 5, 6, 7, 8, 9] [] [0, 1, 3, 6, 19] (fun y2 => [(0, .pointer a0), (1, Sl.v a1), (3, .int .i64 a3), (6, .pointer (some (pt b1 0))), (19, .bool y2)]) [] [] (by kernel_rfl) (t := 13) (by kernel_rfl) decide_eq_true_iff (fun hp_ => ?_) (fun hp_ => ?_) (by kernel_rfl) (fun _ _ _ _ _ _ h_ => h_) (fun y2 => ?_)
  · refine OJ.run [4, 5, 6, 7, 8, 9] [] [0, 1, 3, 6, 19] (m2 := [(0, .pointer a0), (1, Sl.v a1), (3, .int .i64 a3), (6, .pointer (some (pt b1 0))), (19, .bool true)]) (by kernel_rfl) (by kernel_rfl) ?_
    exact OJ.nil ⟨(Cov.mem Cov.nil), rfl, _, rfl, by kernel_rfl⟩
  · refine OJ.run [4] [5, 6, 7, 8, 9] [0, 1, 3, 6, 13, 14] (m2 := [(0, .pointer a0), (1, Sl.v a1), (3, .int .i64 a3), (6, .pointer (some (pt b1 0))), (13, .bool false), (14, .pointer (some (pt b1 2)))]) (by kernel_rfl) (by kernel_rfl) ?_
    refine OJ.kld (d := 15) (T := 3) (y := .tmp 14) (cd := (cI .i64)) (j := 0) (b := b1) (o := 2) a2.Class (pend2 := []) (by kernel_rfl) (by kernel_rfl) Ty3 (by kernel_rfl) rfl (At_weirlaw18_Op_Class a2) (by kernel_rfl) rfl ?_
    refine OJ.run [6, 7, 8, 9] [] [0, 1, 3, 6, 19] (m2 := [(0, .pointer a0), (1, Sl.v a1), (3, .int .i64 a3), (6, .pointer (some (pt b1 0))), (19, .bool (decide (a2.Class ≥ (a1.len : Int))))]) (by kernel_rfl) (by kernel_rfl) ?_
    exact OJ.nil ⟨(Cov.mem Cov.nil), rfl, _, rfl, by kernel_rfl⟩
  · refine OJ.nil ?_
    refine SJ.cond (t := (.tmp 19)) (b := y2) (by kernel_rfl) (by kernel_rfl) Iff.rfl (fun hc34 => ?_) (fun hc34 => ?_)
    · refine SJ.seq (by kernel_rfl) ?_
      refine SJ.region (id := 2) (by kernel_rfl) [0, 1, 2] (by kernel_rfl) ?_
      refine OJ.run [0, 1, 2] [] [8] (m2 := [(8, .bool (a3 == 181))]) (by kernel_rfl) (by kernel_rfl) ?_
      refine OJ.nil ?_
      exact SJ.ret (by kernel_rfl) rfl (Res.run (ys := [.bool (a3 == 181)]) (.tmp (by kernel_rfl) .nil) rfl)
    · refine SJ.skip (by kernel_rfl) ?_
      refine SJ.seq (by kernel_rfl) ?_
      refine SJ.seq (by kernel_rfl) ?_
      refine SJ.region (id := 3) (by kernel_rfl) [0, 1, 2, 3, 4, 5, 6, 7] (by kernel_rfl) ?_
      refine OJ.run [0] [1, 2, 3, 4, 5, 6, 7] [0, 1, 3, 6, 22] (m2 := [(0, .pointer a0), (1, Sl.v a1), (3, .int .i64 a3), (6, .pointer (some (pt b1 0))), (22, .pointer (some (pt b1 3)))]) (by kernel_rfl) (by kernel_rfl) ?_
      refine OJ.kld (d := 23) (T := 3) (y := .tmp 22) (cd := (cI .i64)) (j := 0) (b := b1) (o := 3) a2.Size (pend2 := []) (by kernel_rfl) (by kernel_rfl) Ty3 (by kernel_rfl) rfl (At_weirlaw18_Op_Size a2) (by kernel_rfl) rfl ?_
      refine OJ.run [2, 3] [4, 5, 6, 7] [0, 1, 3, 6, 25] (m2 := [(0, .pointer a0), (1, Sl.v a1), (3, .int .i64 a3), (6, .pointer (some (pt b1 0))), (25, .bool (decide (a2.Size < 1)))]) (by kernel_rfl) (by kernel_rfl) ?_
      refine OJ.join (b := decide (a2.Size < 1)) [4, 5, 6, 7] [] [0, 1, 3, 6, 29] (fun y3 => [(0, .pointer a0), (1, Sl.v a1), (3, .int .i64 a3), (6, .pointer (some (pt b1 0))), (29, .bool y3)]) [] [] (by kernel_rfl) (t := 25) (by kernel_rfl) decide_eq_true_iff (fun hp_ => ?_) (fun hp_ => ?_) (by kernel_rfl) (fun _ _ _ _ _ _ h_ => h_) (fun y3 => ?_)
      · refine OJ.run [4, 5, 6, 7] [] [0, 1, 3, 6, 29] (m2 := [(0, .pointer a0), (1, Sl.v a1), (3, .int .i64 a3), (6, .pointer (some (pt b1 0))), (29, .bool true)]) (by kernel_rfl) (by kernel_rfl) ?_
        exact OJ.nil ⟨(Cov.mem Cov.nil), rfl, _, rfl, by kernel_rfl⟩
      · refine OJ.run [4] [5, 6, 7] [0, 1, 3, 6, 25, 26] (m2 := [(0, .pointer a0), (1, Sl.v a1), (3, .int .i64 a3), (6, .pointer (some (pt b1 0))), (25, .bool false), (26, .pointer (some (pt b1 3)))]) (by kernel_rfl) (by kernel_rfl) ?_
        refine OJ.kld (d := 27) (T := 3) (y := .tmp 26) (cd := (cI .i64)) (j := 0) (b := b1) (o := 3) a2.Size (pend2 := []) (by kernel_rfl) (by kernel_rfl) Ty3 (by kernel_rfl) rfl (At_weirlaw18_Op_Size a2) (by kernel_rfl) rfl ?_
        refine OJ.run [6, 7] [] [0, 1, 3, 6, 29] (m2 := [(0, .pointer a0), (1, Sl.v a1), (3, .int .i64 a3), (6, .pointer (some (pt b1 0))), (29, .bool (decide (a2.Size > 65535)))]) (by kernel_rfl) (by kernel_rfl) ?_
        exact OJ.nil ⟨(Cov.mem Cov.nil), rfl, _, rfl, by kernel_rfl⟩
      · refine OJ.nil ?_
        refine SJ.cond (t := (.tmp 29)) (b := y3) (by kernel_rfl) (by kernel_rfl) Iff.rfl (fun hc33 => ?_) (fun hc33 => ?_)
        · refine SJ.seq (by kernel_rfl) ?_
          refine SJ.region (id := 4) (by kernel_rfl) [0, 1, 2] (by kernel_rfl) ?_
          refine OJ.run [0, 1, 2] [] [8] (m2 := [(8, .bool (a3 == 182))]) (by kernel_rfl) (by kernel_rfl) ?_
          refine OJ.nil ?_
          exact SJ.ret (by kernel_rfl) rfl (Res.run (ys := [.bool (a3 == 182)]) (.tmp (by kernel_rfl) .nil) rfl)
        · refine SJ.skip (by kernel_rfl) ?_
          refine SJ.seq (by kernel_rfl) ?_
          refine SJ.region (id := 5) (by kernel_rfl) [0, 1, 2, 3, 4, 5, 6] (by kernel_rfl) ?_
          refine OJ.run [0, 1] [2, 3, 4, 5, 6] [0, 3, 6, 32, 33] (m2 := [(0, .pointer a0), (3, .int .i64 a3), (6, .pointer (some (pt b1 0))), (32, Sl.v a1), (33, .pointer (some (pt b1 2)))]) (by kernel_rfl) (by kernel_rfl) ?_
          refine OJ.kld (d := 34) (T := 3) (y := .tmp 33) (cd := (cI .i64)) (j := 0) (b := b1) (o := 2) a2.Class (pend2 := []) (by kernel_rfl) (by kernel_rfl) Ty3 (by kernel_rfl) rfl (At_weirlaw18_Op_Class a2) (by kernel_rfl) rfl ?_
          refine OJ.idxS (d := 35) (T := 27) (y := .tmp 32) (j := .tmp 34) (E := 41) (cap := a1.cap) (k := .i64) (by kernel_rfl) (by kernel_rfl) (by kernel_rfl) (by kernel_rfl) (by kernel_rfl) (by kernel_rfl) (by kernel_rfl) (by kernel_rfl) (fun p4 => ?_)
          refine OJ.ld (d := 36) (T := 41) (y := .tmp 35) (pend2 := fun x5 => []) (by kernel_rfl) (by kernel_rfl) Ty41 (by kernel_rfl) (by kernel_rfl) (fun _ => rfl) (fun x5 => ?_)
          refine OJ.slotOf (d := 9) (op := (.alloc 41)) (cd := c_api_Class) (u := z_api_Class) (owed := []) (by kernel_rfl) (alloc_run Ty41) (by kernel_rfl) (by kernel_rfl) (by kernel_rfl) (fun b6 => ?_)
          refine OW.nil ?_
          refine OJ.kst (T := 41) (y := .tmp 9) (z := .tmp 36) (cd := c_api_Class) (u := x5) (j := 0) (b := b6) (o := 0) (c_api_Class.enc x5) (h2 := [(b6, c_api_Class.enc x5), (b1, c_weirlaw18_Op.enc a2)]) (owed := []) (by kernel_rfl) (by kernel_rfl) (by kernel_rfl) Ty41 rfl (Upd.whole ((Cod.len _ _).trans (Cod.len _ _).symm)) (by kernel_rfl) (by kernel_rfl) rfl ?_
          refine OW.nil ?_
          refine OJ.nil ?_
          refine SJ.seq (by kernel_rfl) ?_
          refine SJ.seq (by kernel_rfl) ?_
          refine SJ.draw (id := 6) (kd := [0, 0, 0, 1, 0, 1, 0, 1, 0, 0, 1, 0, 0, 0, 0, 0, 1, 0, 1, 0, 1, 0, 1, 0, 0, 1, 0, 0]) (bef := [0, 1, 3, 7, 0, 16, 63, 127, 255, 0, 512, 2047, 4095, 8191, 16383, 32767, 65535, 8191, 139263, 524287, 1048575, 8191, 2105343, 8388607, 8191, 16785407, 67108863, 134217727]) (ord := [0, 1, 2, 3, 4, 5, 6, 7, 8, 9, 10, 11, 12, 13, 14, 15, 16, 17, 18, 19, 20, 21, 22, 23, 24, 25, 26, 27]) (by kernel_rfl) mixed (by kernel_rfl) ?_
          refine OJ.run [0] [1, 2, 3, 4, 5, 6, 7, 8, 9, 10, 11, 12, 13, 14, 15, 16, 17, 18, 19, 20, 21, 22, 23, 24, 25, 26, 27] [0, 3, 6, 9, 37] (m2 := [(0, .pointer a0), (3, .int .i64 a3), (6, .pointer (some (pt b1 0))), (9, .pointer (some (pt b6 0))), (37, .pointer a0)]) (by kernel_rfl) (by kernel_rfl) ?_
          refine OJ.nilck (d := 38) (y := .tmp 37) (by kernel_rfl) (by kernel_rfl) (by kernel_rfl) (by kernel_rfl) (by kernel_rfl) (fun p7 => ?_)
          refine OJ.run [2] [3, 4, 5, 6, 7, 8, 9, 10, 11, 12, 13, 14, 15, 16, 17, 18, 19, 20, 21, 22, 23, 24, 25, 26, 27] [0, 3, 6, 9, 39] (m2 := [(0, .pointer a0), (3, .int .i64 a3), (6, .pointer (some (pt b1 0))), (9, .pointer (some (pt b6 0))), (39, .pointer (some p7))]) (by kernel_rfl) (by kernel_rfl) ?_
          refine OJ.ld (d := 40) (T := 43) (y := .tmp 39) (pend2 := fun x8 => [⟨3, 43, p7, cL.val x8⟩]) (by kernel_rfl) (by kernel_rfl) Ty43 (by kernel_rfl) (by kernel_rfl) (fun _ => rfl) (fun x8 => ?_)
          refine OJ.run [4] [5, 6, 7, 8, 9, 10, 11, 12, 13, 14, 15, 16, 17, 18, 19, 20, 21, 22, 23, 24, 25, 26, 27] [0, 3, 6, 9, 40, 41] (m2 := [(0, .pointer a0), (3, .int .i64 a3), (6, .pointer (some (pt b1 0))), (9, .pointer (some (pt b6 0))), (40, Sl.v x8), (41, .pointer (some (pt b1 2)))]) (by kernel_rfl) (by kernel_rfl) ?_
          refine OJ.kld (d := 42) (T := 3) (y := .tmp 41) (cd := (cI .i64)) (j := 1) (b := b1) (o := 2) a2.Class (pend2 := [⟨5, 3, (pt b1 2), (cI .i64).val a2.Class⟩, ⟨3, 43, p7, cL.val x8⟩]) (by kernel_rfl) (by kernel_rfl) Ty3 (by kernel_rfl) rfl (At_weirlaw18_Op_Class a2) (by kernel_rfl) rfl ?_
          refine OJ.idxS (d := 43) (T := 43) (y := .tmp 40) (j := .tmp 42) (E := 42) (cap := x8.cap) (k := .i64) (by kernel_rfl) (by kernel_rfl) (by kernel_rfl) (by kernel_rfl) (by kernel_rfl) (by kernel_rfl) (by kernel_rfl) (by kernel_rfl) (fun p9 => ?_)
          refine OJ.ld (d := 44) (T := 42) (y := .tmp 43) (pend2 := fun x10 => [⟨7, 42, p9, cL.val x10⟩, ⟨5, 3, (pt b1 2), (cI .i64).val a2.Class⟩, ⟨3, 43, p7, cL.val x8⟩]) (by kernel_rfl) (by kernel_rfl) Ty42 (by kernel_rfl) (by kernel_rfl) (fun _ => rfl) (fun x10 => ?_)
          refine OJ.run [8, 9] [10, 11, 12, 13, 14, 15, 16, 17, 18, 19, 20, 21, 22, 23, 24, 25, 26, 27] [0, 3, 6, 9, 45, 46] (m2 := [(0, .pointer a0), (3, .int .i64 a3), (6, .pointer (some (pt b1 0))), (9, .pointer (some (pt b6 0))), (45, .int .i64 (x10.len : Int)), (46, .pointer (some (pt b6 1)))]) (by kernel_rfl) (by kernel_rfl) ?_
          refine OJ.kld (d := 47) (T := 3) (y := .tmp 46) (cd := (cI .i64)) (j := 0) (b := b6) (o := 1) x5.Items (pend2 := [⟨10, 3, (pt b6 1), (cI .i64).val x5.Items⟩, ⟨7, 42, p9, cL.val x10⟩, ⟨5, 3, (pt b1 2), (cI .i64).val a2.Class⟩, ⟨3, 43, p7, cL.val x8⟩]) (by kernel_rfl) (by kernel_rfl) Ty3 (by kernel_rfl) rfl (At_api_Class_Items x5) (by kernel_rfl) rfl ?_
          refine OJ.run [11, 12] [13, 14, 15, 16, 17, 18, 19, 20, 21, 22, 23, 24, 25, 26, 27] [0, 3, 6, 9, 49] (m2 := [(0, .pointer a0), (3, .int .i64 a3), (6, .pointer (some (pt b1 0))), (9, .pointer (some (pt b6 0))), (49, .bool (decide ((x10.len : Int) ≥ x5.Items)))]) (by kernel_rfl) (by kernel_rfl) ?_
          refine OJ.join (b := decide ((x10.len : Int) ≥ x5.Items)) [13, 14, 15, 16, 17, 18, 19, 20, 21, 22, 23, 24, 25, 26, 27] [] [0, 3, 6, 64] (fun y15 => [(0, .pointer a0), (3, .int .i64 a3), (6, .pointer (some (pt b1 0))), (64, .bool y15)]) [⟨25, 3, (pt b6 2), (cI .i64).val x5.Bytes⟩, ⟨22, 3, (pt b1 3), (cI .i64).val a2.Size⟩, ⟨18, 3, (pt b1 2), (cI .i64).val a2.Class⟩, ⟨10, 3, (pt b6 1), (cI .i64).val x5.Items⟩, ⟨7, 42, p9, cL.val x10⟩, ⟨5, 3, (pt b1 2), (cI .i64).val a2.Class⟩, ⟨3, 43, p7, cL.val x8⟩] [16, 20] (by kernel_rfl) (t := 49) (by kernel_rfl) decide_eq_true_iff (fun hp_ => ?_) (fun hp_ => ?_) (by kernel_rfl) (fun _ _ _ _ _ _ h_ => h_) (fun y15 => ?_)
          · refine OJ.run [13, 14, 15, 16, 17, 18, 19, 20, 21, 22, 23, 24, 25, 26, 27] [] [0, 3, 6, 64] (m2 := [(0, .pointer a0), (3, .int .i64 a3), (6, .pointer (some (pt b1 0))), (64, .bool true)]) (by kernel_rfl) (by kernel_rfl) ?_
            exact OJ.nil ⟨(Cov.mem (Cov.keep (List.mem_of_getElem? (i := 3) rfl) (Cov.keep (List.mem_of_getElem? (i := 4) rfl) (Cov.keep (List.mem_of_getElem? (i := 5) rfl) (Cov.keep (List.mem_of_getElem? (i := 6) rfl) Cov.nil))))), rfl, _, rfl, by kernel_rfl⟩
          · refine OJ.run [13] [14, 15, 16, 17, 18, 19, 20, 21, 22, 23, 24, 25, 26, 27] [0, 3, 6, 9, 49, 50] (m2 := [(0, .pointer a0), (3, .int .i64 a3), (6, .pointer (some (pt b1 0))), (9, .pointer (some (pt b6 0))), (49, .bool false), (50, .pointer a0)]) (by kernel_rfl) (by kernel_rfl) ?_
            refine OJ.nilck (d := 51) (y := .tmp 50) (by kernel_rfl) (by kernel_rfl) (by kernel_rfl) (by kernel_rfl) (by kernel_rfl) (fun p11 => ?_)
            refine OJ.run [15] [16, 17, 18, 19, 20, 21, 22, 23, 24, 25, 26, 27] [0, 3, 6, 9, 49, 52] (m2 := [(0, .pointer a0), (3, .int .i64 a3), (6, .pointer (some (pt b1 0))), (9, .pointer (some (pt b6 0))), (49, .bool false), (52, .pointer (some (Addr.add p11 1)))]) (by kernel_rfl) (by kernel_rfl) ?_
            refine OJ.ld (d := 53) (T := 28) (y := .tmp 52) (pend2 := fun x12 => [⟨16, 28, (Addr.add p11 1), cL.val x12⟩, ⟨10, 3, (pt b6 1), (cI .i64).val x5.Items⟩, ⟨7, 42, p9, cL.val x10⟩, ⟨5, 3, (pt b1 2), (cI .i64).val a2.Class⟩, ⟨3, 43, p7, cL.val x8⟩]) (by kernel_rfl) (by kernel_rfl) Ty28 (by kernel_rfl) (by kernel_rfl) (fun _ => rfl) (fun x12 => ?_)
            refine OJ.run [17] [18, 19, 20, 21, 22, 23, 24, 25, 26, 27] [0, 3, 6, 9, 49, 53, 54] (m2 := [(0, .pointer a0), (3, .int .i64 a3), (6, .pointer (some (pt b1 0))), (9, .pointer (some (pt b6 0))), (49, .bool false), (53, Sl.v x12), (54, .pointer (some (pt b1 2)))]) (by kernel_rfl) (by kernel_rfl) ?_
            refine OJ.kld (d := 55) (T := 3) (y := .tmp 54) (cd := (cI .i64)) (j := 1) (b := b1) (o := 2) a2.Class (pend2 := [⟨18, 3, (pt b1 2), (cI .i64).val a2.Class⟩, ⟨16, 28, (Addr.add p11 1), cL.val x12⟩, ⟨10, 3, (pt b6 1), (cI .i64).val x5.Items⟩, ⟨7, 42, p9, cL.val x10⟩, ⟨5, 3, (pt b1 2), (cI .i64).val a2.Class⟩, ⟨3, 43, p7, cL.val x8⟩]) (by kernel_rfl) (by kernel_rfl) Ty3 (by kernel_rfl) rfl (At_weirlaw18_Op_Class a2) (by kernel_rfl) rfl ?_
            refine OJ.idxS (d := 56) (T := 28) (y := .tmp 53) (j := .tmp 55) (E := 3) (cap := x12.cap) (k := .i64) (by kernel_rfl) (by kernel_rfl) (by kernel_rfl) (by kernel_rfl) (by kernel_rfl) (by kernel_rfl) (by kernel_rfl) (by kernel_rfl) (fun p13 => ?_)
            refine OJ.ld (d := 57) (T := 3) (y := .tmp 56) (pend2 := fun x14 => [⟨20, 3, p13, (cI .i64).val x14⟩, ⟨18, 3, (pt b1 2), (cI .i64).val a2.Class⟩, ⟨16, 28, (Addr.add p11 1), cL.val x12⟩, ⟨10, 3, (pt b6 1), (cI .i64).val x5.Items⟩, ⟨7, 42, p9, cL.val x10⟩, ⟨5, 3, (pt b1 2), (cI .i64).val a2.Class⟩, ⟨3, 43, p7, cL.val x8⟩]) (by kernel_rfl) (by kernel_rfl) Ty3 (by kernel_rfl) (by kernel_rfl) (fun _ => rfl) (fun x14 => ?_)
            refine OJ.run [21] [22, 23, 24, 25, 26, 27] [0, 3, 6, 9, 49, 57, 58] (m2 := [(0, .pointer a0), (3, .int .i64 a3), (6, .pointer (some (pt b1 0))), (9, .pointer (some (pt b6 0))), (49, .bool false), (57, .int .i64 x14), (58, .pointer (some (pt b1 3)))]) (by kernel_rfl) (by kernel_rfl) ?_
            refine OJ.kld (d := 59) (T := 3) (y := .tmp 58) (cd := (cI .i64)) (j := 1) (b := b1) (o := 3) a2.Size (pend2 := [⟨22, 3, (pt b1 3), (cI .i64).val a2.Size⟩, ⟨20, 3, p13, (cI .i64).val x14⟩, ⟨18, 3, (pt b1 2), (cI .i64).val a2.Class⟩, ⟨16, 28, (Addr.add p11 1), cL.val x12⟩, ⟨10, 3, (pt b6 1), (cI .i64).val x5.Items⟩, ⟨7, 42, p9, cL.val x10⟩, ⟨5, 3, (pt b1 2), (cI .i64).val a2.Class⟩, ⟨3, 43, p7, cL.val x8⟩]) (by kernel_rfl) (by kernel_rfl) Ty3 (by kernel_rfl) rfl (At_weirlaw18_Op_Size a2) (by kernel_rfl) rfl ?_
            refine OJ.run [23, 24] [25, 26, 27] [0, 3, 6, 49, 60, 61] (m2 := [(0, .pointer a0), (3, .int .i64 a3), (6, .pointer (some (pt b1 0))), (49, .bool false), (60, .int .i64 (IntKind.wrap .i64 (x14 + a2.Size))), (61, .pointer (some (pt b6 2)))]) (by kernel_rfl) (by kernel_rfl) ?_
            refine OJ.kld (d := 62) (T := 3) (y := .tmp 61) (cd := (cI .i64)) (j := 0) (b := b6) (o := 2) x5.Bytes (pend2 := [⟨25, 3, (pt b6 2), (cI .i64).val x5.Bytes⟩, ⟨22, 3, (pt b1 3), (cI .i64).val a2.Size⟩, ⟨20, 3, p13, (cI .i64).val x14⟩, ⟨18, 3, (pt b1 2), (cI .i64).val a2.Class⟩, ⟨16, 28, (Addr.add p11 1), cL.val x12⟩, ⟨10, 3, (pt b6 1), (cI .i64).val x5.Items⟩, ⟨7, 42, p9, cL.val x10⟩, ⟨5, 3, (pt b1 2), (cI .i64).val a2.Class⟩, ⟨3, 43, p7, cL.val x8⟩]) (by kernel_rfl) (by kernel_rfl) Ty3 (by kernel_rfl) rfl (At_api_Class_Bytes x5) (by kernel_rfl) rfl ?_
            refine OJ.run [26, 27] [] [0, 3, 6, 64] (m2 := [(0, .pointer a0), (3, .int .i64 a3), (6, .pointer (some (pt b1 0))), (64, .bool (decide ((IntKind.wrap .i64 (x14 + a2.Size)) > x5.Bytes)))]) (by kernel_rfl) (by kernel_rfl) ?_
            exact OJ.nil ⟨(Cov.mem (Cov.keep (List.mem_of_getElem? (i := 0) rfl) (Cov.keep (List.mem_of_getElem? (i := 1) rfl) (Cov.drop (List.mem_of_getElem? (i := 1) rfl) (Cov.keep (List.mem_of_getElem? (i := 2) rfl) (Cov.drop (List.mem_of_getElem? (i := 0) rfl) (Cov.keep (List.mem_of_getElem? (i := 3) rfl) (Cov.keep (List.mem_of_getElem? (i := 4) rfl) (Cov.keep (List.mem_of_getElem? (i := 5) rfl) (Cov.keep (List.mem_of_getElem? (i := 6) rfl) Cov.nil)))))))))), rfl, _, rfl, by kernel_rfl⟩
          · refine OJ.nil ?_
            refine SJ.cond (t := (.tmp 64)) (b := y15) (by kernel_rfl) (by kernel_rfl) Iff.rfl (fun hc32 => ?_) (fun hc32 => ?_)
            · refine SJ.seq (by kernel_rfl) ?_
              refine SJ.region (id := 7) (by kernel_rfl) [0, 1, 2] (by kernel_rfl) ?_
              refine OJ.run [0, 1, 2] [] [8] (m2 := [(8, .bool (a3 == 183))]) (by kernel_rfl) (by kernel_rfl) ?_
              refine OJ.nil ?_
              exact SJ.ret (by kernel_rfl) rfl (Res.run (ys := [.bool (a3 == 183)]) (.tmp (by kernel_rfl) .nil) rfl)
            · refine SJ.skip (by kernel_rfl) ?_
              refine SJ.seq (by kernel_rfl) ?_
              refine SJ.draw (id := 8) (kd := [0, 0, 0, 1, 0, 1, 0, 0, 0, 1, 0, 1, 0, 1, 0, 1, 0, 1, 0, 2, 2, 0, 2]) (bef := [0, 1, 3, 7, 0, 16, 0, 64, 192, 448, 0, 1024, 4032, 8128, 0, 16384, 0, 65536, 245760, 507904, 1048512, 2097151, 4194303]) (ord := [0, 1, 2, 3, 4, 5, 6, 7, 8, 9, 10, 11, 12, 13, 14, 15, 16, 17, 18, 19, 20, 21, 22]) (by kernel_rfl) mixed (by kernel_rfl) ?_
              refine OJ.run [0] [1, 2, 3, 4, 5, 6, 7, 8, 9, 10, 11, 12, 13, 14, 15, 16, 17, 18, 19, 20, 21, 22] [0, 3, 6, 67] (m2 := [(0, .pointer a0), (3, .int .i64 a3), (6, .pointer (some (pt b1 0))), (67, .pointer a0)]) (by kernel_rfl) (by kernel_rfl) ?_
              refine OJ.nilck (d := 68) (y := .tmp 67) (by kernel_rfl) (by kernel_rfl) (by kernel_rfl) (by kernel_rfl) (by kernel_rfl) (fun p16 => ?_)
              refine OJ.run [2] [3, 4, 5, 6, 7, 8, 9, 10, 11, 12, 13, 14, 15, 16, 17, 18, 19, 20, 21, 22] [0, 3, 6, 69] (m2 := [(0, .pointer a0), (3, .int .i64 a3), (6, .pointer (some (pt b1 0))), (69, .pointer (some p16))]) (by kernel_rfl) (by kernel_rfl) ?_
              refine OJ.ld (d := 70) (T := 43) (y := .tmp 69) (pend2 := fun x17 => [⟨3, 43, p16, cL.val x17⟩]) (by kernel_rfl) (by kernel_rfl) Ty43 (by kernel_rfl) (by kernel_rfl) (fun _ => rfl) (fun x17 => ?_)
              refine OJ.run [4] [5, 6, 7, 8, 9, 10, 11, 12, 13, 14, 15, 16, 17, 18, 19, 20, 21, 22] [0, 3, 6, 70, 71] (m2 := [(0, .pointer a0), (3, .int .i64 a3), (6, .pointer (some (pt b1 0))), (70, Sl.v x17), (71, .pointer (some (pt b1 2)))]) (by kernel_rfl) (by kernel_rfl) ?_
              refine OJ.kld (d := 72) (T := 3) (y := .tmp 71) (cd := (cI .i64)) (j := 1) (b := b1) (o := 2) a2.Class (pend2 := [⟨5, 3, (pt b1 2), (cI .i64).val a2.Class⟩, ⟨3, 43, p16, cL.val x17⟩]) (by kernel_rfl) (by kernel_rfl) Ty3 (by kernel_rfl) rfl (At_weirlaw18_Op_Class a2) (by kernel_rfl) rfl ?_
              refine OJ.run [6] [7, 8, 9, 10, 11, 12, 13, 14, 15, 16, 17, 18, 19, 20, 21, 22] [0, 3, 6, 70, 72, 73] (m2 := [(0, .pointer a0), (3, .int .i64 a3), (6, .pointer (some (pt b1 0))), (70, Sl.v x17), (72, .int .i64 a2.Class), (73, .pointer a0)]) (by kernel_rfl) (by kernel_rfl) ?_
              refine OJ.nilck (d := 74) (y := .tmp 73) (by kernel_rfl) (by kernel_rfl) (by kernel_rfl) (by kernel_rfl) (by kernel_rfl) (fun p18 => ?_)
              refine OJ.run [8] [9, 10, 11, 12, 13, 14, 15, 16, 17, 18, 19, 20, 21, 22] [0, 3, 6, 70, 72, 75] (m2 := [(0, .pointer a0), (3, .int .i64 a3), (6, .pointer (some (pt b1 0))), (70, Sl.v x17), (72, .int .i64 a2.Class), (75, .pointer (some p18))]) (by kernel_rfl) (by kernel_rfl) ?_
              refine OJ.ld (d := 76) (T := 43) (y := .tmp 75) (pend2 := fun x19 => [⟨9, 43, p18, cL.val x19⟩, ⟨5, 3, (pt b1 2), (cI .i64).val a2.Class⟩, ⟨3, 43, p16, cL.val x17⟩]) (by kernel_rfl) (by kernel_rfl) Ty43 (by kernel_rfl) (by kernel_rfl) (fun _ => rfl) (fun x19 => ?_)
              refine OJ.run [10] [11, 12, 13, 14, 15, 16, 17, 18, 19, 20, 21, 22] [0, 3, 6, 70, 72, 76, 77] (m2 := [(0, .pointer a0), (3, .int .i64 a3), (6, .pointer (some (pt b1 0))), (70, Sl.v x17), (72, .int .i64 a2.Class), (76, Sl.v x19), (77, .pointer (some (pt b1 2)))]) (by kernel_rfl) (by kernel_rfl) ?_
              refine OJ.kld (d := 78) (T := 3) (y := .tmp 77) (cd := (cI .i64)) (j := 1) (b := b1) (o := 2) a2.Class (pend2 := [⟨11, 3, (pt b1 2), (cI .i64).val a2.Class⟩, ⟨9, 43, p18, cL.val x19⟩, ⟨5, 3, (pt b1 2), (cI .i64).val a2.Class⟩, ⟨3, 43, p16, cL.val x17⟩]) (by kernel_rfl) (by kernel_rfl) Ty3 (by kernel_rfl) rfl (At_weirlaw18_Op_Class a2) (by kernel_rfl) rfl ?_
              refine OJ.idxS (d := 79) (T := 43) (y := .tmp 76) (j := .tmp 78) (E := 42) (cap := x19.cap) (k := .i64) (by kernel_rfl) (by kernel_rfl) (by kernel_rfl) (by kernel_rfl) (by kernel_rfl) (by kernel_rfl) (by kernel_rfl) (by kernel_rfl) (fun p20 => ?_)
              refine OJ.ld (d := 80) (T := 42) (y := .tmp 79) (pend2 := fun x21 => [⟨13, 42, p20, cL.val x21⟩, ⟨11, 3, (pt b1 2), (cI .i64).val a2.Class⟩, ⟨9, 43, p18, cL.val x19⟩, ⟨5, 3, (pt b1 2), (cI .i64).val a2.Class⟩, ⟨3, 43, p16, cL.val x17⟩]) (by kernel_rfl) (by kernel_rfl) Ty42 (by kernel_rfl) (by kernel_rfl) (fun _ => rfl) (fun x21 => ?_)
              refine OJ.run [14] [15, 16, 17, 18, 19, 20, 21, 22] [0, 3, 6, 70, 72, 80, 81] (m2 := [(0, .pointer a0), (3, .int .i64 a3), (6, .pointer (some (pt b1 0))), (70, Sl.v x17), (72, .int .i64 a2.Class), (80, Sl.v x21), (81, .pointer (some (pt b1 3)))]) (by kernel_rfl) (by kernel_rfl) ?_
              refine OJ.kld (d := 82) (T := 3) (y := .tmp 81) (cd := (cI .i64)) (j := 1) (b := b1) (o := 3) a2.Size (pend2 := [⟨15, 3, (pt b1 3), (cI .i64).val a2.Size⟩, ⟨13, 42, p20, cL.val x21⟩, ⟨11, 3, (pt b1 2), (cI .i64).val a2.Class⟩, ⟨9, 43, p18, cL.val x19⟩, ⟨5, 3, (pt b1 2), (cI .i64).val a2.Class⟩, ⟨3, 43, p16, cL.val x17⟩]) (by kernel_rfl) (by kernel_rfl) Ty3 (by kernel_rfl) rfl (At_weirlaw18_Op_Size a2) (by kernel_rfl) rfl ?_
              refine OJ.run [16] [17, 18, 19, 20, 21, 22] [0, 3, 6, 70, 72, 80, 82, 83] (m2 := [(0, .pointer a0), (3, .int .i64 a3), (6, .pointer (some (pt b1 0))), (70, Sl.v x17), (72, .int .i64 a2.Class), (80, Sl.v x21), (82, .int .i64 a2.Size), (83, .pointer (some (pt b1 4)))]) (by kernel_rfl) (by kernel_rfl) ?_
              refine OJ.kld (d := 84) (T := 3) (y := .tmp 83) (cd := (cI .i64)) (j := 1) (b := b1) (o := 4) a2.Item (pend2 := [⟨17, 3, (pt b1 4), (cI .i64).val a2.Item⟩, ⟨15, 3, (pt b1 3), (cI .i64).val a2.Size⟩, ⟨13, 42, p20, cL.val x21⟩, ⟨11, 3, (pt b1 2), (cI .i64).val a2.Class⟩, ⟨9, 43, p18, cL.val x19⟩, ⟨5, 3, (pt b1 2), (cI .i64).val a2.Class⟩, ⟨3, 43, p16, cL.val x17⟩]) (by kernel_rfl) (by kernel_rfl) Ty3 (by kernel_rfl) rfl (At_weirlaw18_Op_Item a2) (by kernel_rfl) rfl ?_
              refine OJ.build (d := 85) (T := 66) (parts := [(0, .tmp 82), (1, .tmp 84)]) (ps := [(0, (cI .i64).val a2.Size), (1, (cI .i64).val a2.Item)]) (cd := c_weirlaw18_Item) (z0 := z_weirlaw18_Item) (⟨a2.Size, a2.Item⟩ : weirlaw18_Item) (by kernel_rfl) (by kernel_rfl) Ty66 rfl (by kernel_rfl) (Filled.cons (cd := (cI .i64)) (q := a2.Size) (o := 0) (by kernel_rfl) (Up_weirlaw18_Item_Size z_weirlaw18_Item a2.Size) (Filled.cons (cd := (cI .i64)) (q := a2.Item) (o := 1) (by kernel_rfl) (Up_weirlaw18_Item_Item (⟨a2.Size, z_weirlaw18_Item.Item⟩ : weirlaw18_Item) a2.Item) Filled.nil)) (by kernel_rfl) (by kernel_rfl) (by kernel_rfl) ?_
              refine OJ.rowSlot (d := 86) (t := 42) (parts := [(0, .tmp 85)]) (ps := [(0, c_weirlaw18_Item.val (⟨a2.Size, a2.Item⟩ : weirlaw18_Item))]) (cd := c_weirlaw18_Item) (⟨[(⟨a2.Size, a2.Item⟩ : weirlaw18_Item)], rfl⟩ : Vec weirlaw18_Item 1) (owed := [⟨13, 42, p20, cL.val x21⟩, ⟨11, 3, (pt b1 2), (cI .i64).val a2.Class⟩, ⟨9, 43, p18, cL.val x19⟩, ⟨5, 3, (pt b1 2), (cI .i64).val a2.Class⟩, ⟨3, 43, p16, cL.val x17⟩]) (by kernel_rfl) (by kernel_rfl) (by kernel_rfl) Ty66 (by kernel_rfl) (Filled.cons (cd := c_weirlaw18_Item) (q := (⟨a2.Size, a2.Item⟩ : weirlaw18_Item)) (o := 0) rfl (Upd.arr (i := 0) (by decide) (by decide)) Filled.nil) (by kernel_rfl) (by kernel_rfl) (by kernel_rfl) (fun b22 => ?_)
              refine OW.same Ty42 ?_
              refine OW.known (j := 2) (q := a2.Class) Ty3 rfl (At_weirlaw18_Op_Class a2) ?_
              refine OW.same Ty43 ?_
              refine OW.known (j := 2) (q := a2.Class) Ty3 rfl (At_weirlaw18_Op_Class a2) ?_
              refine OW.same Ty43 ?_
              refine OW.nil ?_
              refine OJ.appl (d := 87) (t := 42) (u := 42) (so := .tmp 80) (xo := .tmp 86) (j := 0) (b := b22) (l := (c_weirlaw18_Item.arr 1).enc (⟨[(⟨a2.Size, a2.Item⟩ : weirlaw18_Item)], rfl⟩ : Vec weirlaw18_Item 1)) (n := 1) (k := 1) [(⟨a2.Size, a2.Item⟩ : weirlaw18_Item)] (owed := [⟨5, 3, (pt b1 2), (cI .i64).val a2.Class⟩, ⟨3, 43, p16, cL.val x17⟩]) (by kernel_rfl) (by kernel_rfl) (by kernel_rfl) Ty66 (by kernel_rfl) (by kernel_rfl) (by kernel_rfl) (by rfl) (Cod.arr_enc _ _ _) (by rfl) (by kernel_rfl) (by kernel_rfl) (by kernel_rfl) (fun r23 => ?_)
              refine OW.known (j := 2) (q := a2.Class) Ty3 rfl (At_weirlaw18_Op_Class a2) ?_
              refine OW.same Ty43 ?_
              refine OW.nil ?_
              refine OJ.idxS (d := 88) (T := 43) (y := .tmp 70) (j := .tmp 72) (E := 42) (cap := x17.cap) (k := .i64) (by kernel_rfl) (by kernel_rfl) (by kernel_rfl) (by kernel_rfl) (by kernel_rfl) (by kernel_rfl) (by kernel_rfl) (by kernel_rfl) (fun p24 => ?_)
              refine OJ.st (T := 42) (y := .tmp 88) (z := .tmp 87) (owed := []) (by kernel_rfl) (by kernel_rfl) (by kernel_rfl) Ty42 (by kernel_rfl) (by kernel_rfl) ?_
              refine OW.nil ?_
              refine OJ.nil ?_
              refine SJ.seq (by kernel_rfl) ?_
              refine SJ.draw (id := 9) (kd := [0, 0, 0, 1, 0, 1, 0, 0, 0, 1, 0, 1, 0, 1, 0, 1, 0, 0, 2]) (bef := [0, 1, 3, 7, 0, 16, 0, 64, 192, 448, 0, 1024, 4032, 8128, 0, 16384, 65472, 131071, 262143]) (ord := [0, 1, 2, 3, 4, 5, 6, 7, 8, 9, 10, 11, 12, 13, 14, 15, 16, 17, 18]) (by kernel_rfl) mixed (by kernel_rfl) ?_
              refine OJ.run [0] [1, 2, 3, 4, 5, 6, 7, 8, 9, 10, 11, 12, 13, 14, 15, 16, 17, 18] [0, 3, 6, 89] (m2 := [(0, .pointer a0), (3, .int .i64 a3), (6, .pointer (some (pt b1 0))), (89, .pointer a0)]) (by kernel_rfl) (by kernel_rfl) ?_
              refine OJ.nilck (d := 90) (y := .tmp 89) (by kernel_rfl) (by kernel_rfl) (by kernel_rfl) (by kernel_rfl) (by kernel_rfl) (fun p25 => ?_)
              refine OJ.run [2] [3, 4, 5, 6, 7, 8, 9, 10, 11, 12, 13, 14, 15, 16, 17, 18] [0, 3, 6, 91] (m2 := [(0, .pointer a0), (3, .int .i64 a3), (6, .pointer (some (pt b1 0))), (91, .pointer (some (Addr.add p25 1)))]) (by kernel_rfl) (by kernel_rfl) ?_
              refine OJ.ld (d := 92) (T := 28) (y := .tmp 91) (pend2 := fun x26 => [⟨3, 28, (Addr.add p25 1), cL.val x26⟩]) (by kernel_rfl) (by kernel_rfl) Ty28 (by kernel_rfl) (by kernel_rfl) (fun _ => rfl) (fun x26 => ?_)
              refine OJ.run [4] [5, 6, 7, 8, 9, 10, 11, 12, 13, 14, 15, 16, 17, 18] [0, 3, 6, 92, 93] (m2 := [(0, .pointer a0), (3, .int .i64 a3), (6, .pointer (some (pt b1 0))), (92, Sl.v x26), (93, .pointer (some (pt b1 2)))]) (by kernel_rfl) (by kernel_rfl) ?_
              refine OJ.kld (d := 94) (T := 3) (y := .tmp 93) (cd := (cI .i64)) (j := 2) (b := b1) (o := 2) a2.Class (pend2 := [⟨5, 3, (pt b1 2), (cI .i64).val a2.Class⟩, ⟨3, 28, (Addr.add p25 1), cL.val x26⟩]) (by kernel_rfl) (by kernel_rfl) Ty3 (by kernel_rfl) rfl (At_weirlaw18_Op_Class a2) (by kernel_rfl) rfl ?_
              refine OJ.run [6] [7, 8, 9, 10, 11, 12, 13, 14, 15, 16, 17, 18] [3, 6, 92, 94, 95] (m2 := [(3, .int .i64 a3), (6, .pointer (some (pt b1 0))), (92, Sl.v x26), (94, .int .i64 a2.Class), (95, .pointer a0)]) (by kernel_rfl) (by kernel_rfl) ?_
              refine OJ.nilck (d := 96) (y := .tmp 95) (by kernel_rfl) (by kernel_rfl) (by kernel_rfl) (by kernel_rfl) (by kernel_rfl) (fun p27 => ?_)
              refine OJ.run [8] [9, 10, 11, 12, 13, 14, 15, 16, 17, 18] [3, 6, 92, 94, 97] (m2 := [(3, .int .i64 a3), (6, .pointer (some (pt b1 0))), (92, Sl.v x26), (94, .int .i64 a2.Class), (97, .pointer (some (Addr.add p27 1)))]) (by kernel_rfl) (by kernel_rfl) ?_
              refine OJ.ld (d := 98) (T := 28) (y := .tmp 97) (pend2 := fun x28 => [⟨9, 28, (Addr.add p27 1), cL.val x28⟩, ⟨5, 3, (pt b1 2), (cI .i64).val a2.Class⟩, ⟨3, 28, (Addr.add p25 1), cL.val x26⟩]) (by kernel_rfl) (by kernel_rfl) Ty28 (by kernel_rfl) (by kernel_rfl) (fun _ => rfl) (fun x28 => ?_)
              refine OJ.run [10] [11, 12, 13, 14, 15, 16, 17, 18] [3, 6, 92, 94, 98, 99] (m2 := [(3, .int .i64 a3), (6, .pointer (some (pt b1 0))), (92, Sl.v x26), (94, .int .i64 a2.Class), (98, Sl.v x28), (99, .pointer (some (pt b1 2)))]) (by kernel_rfl) (by kernel_rfl) ?_
              refine OJ.kld (d := 100) (T := 3) (y := .tmp 99) (cd := (cI .i64)) (j := 2) (b := b1) (o := 2) a2.Class (pend2 := [⟨11, 3, (pt b1 2), (cI .i64).val a2.Class⟩, ⟨9, 28, (Addr.add p27 1), cL.val x28⟩, ⟨5, 3, (pt b1 2), (cI .i64).val a2.Class⟩, ⟨3, 28, (Addr.add p25 1), cL.val x26⟩]) (by kernel_rfl) (by kernel_rfl) Ty3 (by kernel_rfl) rfl (At_weirlaw18_Op_Class a2) (by kernel_rfl) rfl ?_
              refine OJ.idxS (d := 101) (T := 28) (y := .tmp 98) (j := .tmp 100) (E := 3) (cap := x28.cap) (k := .i64) (by kernel_rfl) (by kernel_rfl) (by kernel_rfl) (by kernel_rfl) (by kernel_rfl) (by kernel_rfl) (by kernel_rfl) (by kernel_rfl) (fun p29 => ?_)
              refine OJ.ld (d := 102) (T := 3) (y := .tmp 101) (pend2 := fun x30 => [⟨13, 3, p29, (cI .i64).val x30⟩, ⟨11, 3, (pt b1 2), (cI .i64).val a2.Class⟩, ⟨9, 28, (Addr.add p27 1), cL.val x28⟩, ⟨5, 3, (pt b1 2), (cI .i64).val a2.Class⟩, ⟨3, 28, (Addr.add p25 1), cL.val x26⟩]) (by kernel_rfl) (by kernel_rfl) Ty3 (by kernel_rfl) (by kernel_rfl) (fun _ => rfl) (fun x30 => ?_)
              refine OJ.run [14] [15, 16, 17, 18] [3, 92, 94, 102, 103] (m2 := [(3, .int .i64 a3), (92, Sl.v x26), (94, .int .i64 a2.Class), (102, .int .i64 x30), (103, .pointer (some (pt b1 3)))]) (by kernel_rfl) (by kernel_rfl) ?_
              refine OJ.kld (d := 104) (T := 3) (y := .tmp 103) (cd := (cI .i64)) (j := 2) (b := b1) (o := 3) a2.Size (pend2 := [⟨15, 3, (pt b1 3), (cI .i64).val a2.Size⟩, ⟨13, 3, p29, (cI .i64).val x30⟩, ⟨11, 3, (pt b1 2), (cI .i64).val a2.Class⟩, ⟨9, 28, (Addr.add p27 1), cL.val x28⟩, ⟨5, 3, (pt b1 2), (cI .i64).val a2.Class⟩, ⟨3, 28, (Addr.add p25 1), cL.val x26⟩]) (by kernel_rfl) (by kernel_rfl) Ty3 (by kernel_rfl) rfl (At_weirlaw18_Op_Size a2) (by kernel_rfl) rfl ?_
              refine OJ.run [16] [17, 18] [3, 92, 94, 105] (m2 := [(3, .int .i64 a3), (92, Sl.v x26), (94, .int .i64 a2.Class), (105, .int .i64 (IntKind.wrap .i64 (x30 + a2.Size)))]) (by kernel_rfl) (by kernel_rfl) ?_
              refine OJ.idxS (d := 106) (T := 28) (y := .tmp 92) (j := .tmp 94) (E := 3) (cap := x26.cap) (k := .i64) (by kernel_rfl) (by kernel_rfl) (by kernel_rfl) (by kernel_rfl) (by kernel_rfl) (by kernel_rfl) (by kernel_rfl) (by kernel_rfl) (fun p31 => ?_)
              refine OJ.st (T := 3) (y := .tmp 106) (z := .tmp 105) (owed := []) (by kernel_rfl) (by kernel_rfl) (by kernel_rfl) Ty3 (by kernel_rfl) (by kernel_rfl) ?_
              refine OW.nil ?_
              refine OJ.nil ?_
              refine SJ.seq (by kernel_rfl) ?_
              refine SJ.region (id := 10) (by kernel_rfl) [0, 1, 2] (by kernel_rfl) ?_
              refine OJ.run [0, 1, 2] [] [8] (m2 := [(8, .bool (a3 == 0))]) (by kernel_rfl) (by kernel_rfl) ?_
              refine OJ.nil ?_
              exact SJ.ret (by kernel_rfl) rfl (Res.run (ys := [.bool (a3 == 0)]) (.tmp (by kernel_rfl) .nil) rfl)

/-! ### (*weir/weirlaw18.Purse).tick: function 27 -/
noncomputable def weirlaw18_Purse_tick.B : Code := (Try.f27.body).getD .skip
noncomputable def weirlaw18_Purse_tick.cx : Fx := ⟨Try.prog, 27, Try.f27⟩
noncomputable def weirlaw18_Purse_tick.out (r_ : Unit) : Value := .tuple #[]
noncomputable def weirlaw18_Purse_tick.F0 (r_ : Unit) : Reach := .ret (weirlaw18_Purse_tick.out r_)
noncomputable def weirlaw18_Purse_tick.F1 (a0 : (Option Addr)) (a1 : Sl) : (LS Int Unit) → Reach := loopF [.inLoop (c1 (c1 (c2 weirlaw18_Purse_tick.B))), .inBlock 0] (fun s_ : Int => [(0, .pointer a0), (1, Sl.v a1), (4, .int .i64 s_)]) (fun s_ : Int => []) weirlaw18_Purse_tick.F0
noncomputable def weirlaw18_Purse_tick.L1 (a0 : (Option Addr)) (a1 : Sl) (s1 : Int) : M (LS Int Unit) :=
  if s1 < (a1.len : Int) then
    draw >>= fun _ =>
    nilck a0 >>= fun p2 =>
    ld cL p2 >>= fun x3 =>
    nilck a0 >>= fun p4 =>
    ld cL p4 >>= fun x5 =>
    idx x5.a x5.len s1 1 >>= fun p6 =>
    ld (cI .i64) p6 >>= fun x7 =>
    idx a1.a a1.len s1 5 >>= fun p8 =>
    ld (cI .i64) (Addr.add p8 3) >>= fun x9 =>
    idx x3.a x3.len s1 1 >>= fun p10 =>
    st (cI .i64) p10 (IntKind.wrap .i64 (x7 + x9)) >>= fun _ =>
    draw >>= fun _ =>
    nilck a0 >>= fun p11 =>
    ld cL p11 >>= fun x12 =>
    idx x12.a x12.len s1 1 >>= fun p13 =>
    ld (cI .i64) p13 >>= fun x14 =>
    idx a1.a a1.len s1 5 >>= fun p15 =>
    ld (cI .i64) (Addr.add p15 4) >>= fun x16 =>
    if x14 > x16 then
      draw >>= fun _ =>
      nilck a0 >>= fun p22 =>
      ld cL p22 >>= fun x23 =>
      idx a1.a a1.len s1 5 >>= fun p24 =>
      ld (cI .i64) (Addr.add p24 4) >>= fun x25 =>
      idx x23.a x23.len s1 1 >>= fun p26 =>
      st (cI .i64) p26 x25 >>= fun _ =>
      pure (LS.next (IntKind.wrap .i64 (s1 + 1)))
    else
      pure (LS.next (IntKind.wrap .i64 (s1 + 1)))
  else
    pure (LS.done ())
theorem weirlaw18_Purse_tick.L1_ok (a0 : (Option Addr)) (a1 : Sl) (s1 : Int) :
    SJ weirlaw18_Purse_tick.cx [.code (c1 (c1 (c2 weirlaw18_Purse_tick.B))), .inLoop (c1 (c1 (c2 weirlaw18_Purse_tick.B))), .inBlock 0] [(0, .pointer a0), (1, Sl.v a1), (4, .int .i64 s1)] [] (weirlaw18_Purse_tick.L1 a0 a1 s1) (weirlaw18_Purse_tick.F1 a0 a1) := by
  unfold weirlaw18_Purse_tick.L1
  refine SJ.seq (by kernel_rfl) ?_
  refine SJ.seq (by kernel_rfl) ?_
  refine SJ.region (id := 1) (by kernel_rfl) [0, 1, 2, 3] (by kernel_rfl) ?_
  refine OJ.run [0, 1, 2, 3] [] [0, 1, 4, 8] (m2 := [(0, .pointer a0), (1, Sl.v a1), (4, .int .i64 s1), (8, .bool (decide (s1 < (a1.len : Int))))]) (by kernel_rfl) (by kernel_rfl) ?_
  refine OJ.nil ?_
  refine SJ.cond (t := (.tmp 8)) (b := decide (s1 < (a1.len : Int))) (by kernel_rfl) (by kernel_rfl) decide_eq_true_iff (fun hc28 => ?_) (fun hc28 => ?_)
  · refine SJ.skip (by kernel_rfl) ?_
    refine SJ.seq (by kernel_rfl) ?_
    refine SJ.block (id := 1) (by kernel_rfl) ?_
    refine SJ.seq (by kernel_rfl) ?_
    refine SJ.draw (id := 3) (kd := [0, 0, 0, 1, 0, 0, 0, 0, 1, 0, 0, 1, 0, 0, 0, 0, 1, 0, 0, 2]) (bef := [0, 1, 3, 7, 0, 0, 32, 96, 224, 0, 992, 2016, 0, 0, 12288, 28672, 61440, 131040, 262143, 524287]) (ord := [0, 1, 2, 3, 4, 5, 6, 7, 8, 9, 10, 11, 12, 13, 14, 15, 16, 17, 18, 19]) (by kernel_rfl) mixed (by kernel_rfl) ?_
    refine OJ.run [0] [1, 2, 3, 4, 5, 6, 7, 8, 9, 10, 11, 12, 13, 14, 15, 16, 17, 18, 19] [0, 1, 4, 11] (m2 := [(0, .pointer a0), (1, Sl.v a1), (4, .int .i64 s1), (11, .pointer a0)]) (by kernel_rfl) (by kernel_rfl) ?_
    refine OJ.nilck (d := 12) (y := .tmp 11) (by kernel_rfl) (by kernel_rfl) (by kernel_rfl) (by kernel_rfl) (by kernel_rfl) (fun p2 => ?_)
    refine OJ.run [2] [3, 4, 5, 6, 7, 8, 9, 10, 11, 12, 13, 14, 15, 16, 17, 18, 19] [0, 1, 4, 13] (m2 := [(0, .pointer a0), (1, Sl.v a1), (4, .int .i64 s1), (13, .pointer (some p2))]) (by kernel_rfl) (by kernel_rfl) ?_
    refine OJ.ld (d := 14) (T := 28) (y := .tmp 13) (pend2 := fun x3 => [⟨3, 28, p2, cL.val x3⟩]) (by kernel_rfl) (by kernel_rfl) Ty28 (by kernel_rfl) (by kernel_rfl) (fun _ => rfl) (fun x3 => ?_)
    refine OJ.run [4, 5] [6, 7, 8, 9, 10, 11, 12, 13, 14, 15, 16, 17, 18, 19] [0, 1, 4, 14, 15, 16] (m2 := [(0, .pointer a0), (1, Sl.v a1), (4, .int .i64 s1), (14, Sl.v x3), (15, .int .i64 s1), (16, .pointer a0)]) (by kernel_rfl) (by kernel_rfl) ?_
    refine OJ.nilck (d := 17) (y := .tmp 16) (by kernel_rfl) (by kernel_rfl) (by kernel_rfl) (by kernel_rfl) (by kernel_rfl) (fun p4 => ?_)
    refine OJ.run [7] [8, 9, 10, 11, 12, 13, 14, 15, 16, 17, 18, 19] [0, 1, 4, 14, 15, 18] (m2 := [(0, .pointer a0), (1, Sl.v a1), (4, .int .i64 s1), (14, Sl.v x3), (15, .int .i64 s1), (18, .pointer (some p4))]) (by kernel_rfl) (by kernel_rfl) ?_
    refine OJ.ld (d := 19) (T := 28) (y := .tmp 18) (pend2 := fun x5 => [⟨8, 28, p4, cL.val x5⟩, ⟨3, 28, p2, cL.val x3⟩]) (by kernel_rfl) (by kernel_rfl) Ty28 (by kernel_rfl) (by kernel_rfl) (fun _ => rfl) (fun x5 => ?_)
    refine OJ.run [9] [10, 11, 12, 13, 14, 15, 16, 17, 18, 19] [0, 1, 4, 14, 15, 19, 20] (m2 := [(0, .pointer a0), (1, Sl.v a1), (4, .int .i64 s1), (14, Sl.v x3), (15, .int .i64 s1), (19, Sl.v x5), (20, .int .i64 s1)]) (by kernel_rfl) (by kernel_rfl) ?_
    refine OJ.idxS (d := 21) (T := 28) (y := .tmp 19) (j := .tmp 20) (E := 3) (cap := x5.cap) (k := .i64) (by kernel_rfl) (by kernel_rfl) (by kernel_rfl) (by kernel_rfl) (by kernel_rfl) (by kernel_rfl) (by kernel_rfl) (by kernel_rfl) (fun p6 => ?_)
    refine OJ.ld (d := 22) (T := 3) (y := .tmp 21) (pend2 := fun x7 => [⟨11, 3, p6, (cI .i64).val x7⟩, ⟨8, 28, p4, cL.val x5⟩, ⟨3, 28, p2, cL.val x3⟩]) (by kernel_rfl) (by kernel_rfl) Ty3 (by kernel_rfl) (by kernel_rfl) (fun _ => rfl) (fun x7 => ?_)
    refine OJ.run [12, 13] [14, 15, 16, 17, 18, 19] [0, 1, 4, 14, 15, 22, 23, 24] (m2 := [(0, .pointer a0), (1, Sl.v a1), (4, .int .i64 s1), (14, Sl.v x3), (15, .int .i64 s1), (22, .int .i64 x7), (23, Sl.v a1), (24, .int .i64 s1)]) (by kernel_rfl) (by kernel_rfl) ?_
    refine OJ.idxS (d := 25) (T := 27) (y := .tmp 23) (j := .tmp 24) (E := 41) (cap := a1.cap) (k := .i64) (by kernel_rfl) (by kernel_rfl) (by kernel_rfl) (by kernel_rfl) (by kernel_rfl) (by kernel_rfl) (by kernel_rfl) (by kernel_rfl) (fun p8 => ?_)
    refine OJ.run [15] [16, 17, 18, 19] [0, 1, 4, 14, 15, 22, 26] (m2 := [(0, .pointer a0), (1, Sl.v a1), (4, .int .i64 s1), (14, Sl.v x3), (15, .int .i64 s1), (22, .int .i64 x7), (26, .pointer (some (Addr.add p8 3)))]) (by kernel_rfl) (by kernel_rfl) ?_
    refine OJ.ld (d := 27) (T := 3) (y := .tmp 26) (pend2 := fun x9 => [⟨16, 3, (Addr.add p8 3), (cI .i64).val x9⟩, ⟨11, 3, p6, (cI .i64).val x7⟩, ⟨8, 28, p4, cL.val x5⟩, ⟨3, 28, p2, cL.val x3⟩]) (by kernel_rfl) (by kernel_rfl) Ty3 (by kernel_rfl) (by kernel_rfl) (fun _ => rfl) (fun x9 => ?_)
    refine OJ.run [17] [18, 19] [0, 1, 4, 14, 15, 28] (m2 := [(0, .pointer a0), (1, Sl.v a1), (4, .int .i64 s1), (14, Sl.v x3), (15, .int .i64 s1), (28, .int .i64 (IntKind.wrap .i64 (x7 + x9)))]) (by kernel_rfl) (by kernel_rfl) ?_
    refine OJ.idxS (d := 29) (T := 28) (y := .tmp 14) (j := .tmp 15) (E := 3) (cap := x3.cap) (k := .i64) (by kernel_rfl) (by kernel_rfl) (by kernel_rfl) (by kernel_rfl) (by kernel_rfl) (by kernel_rfl) (by kernel_rfl) (by kernel_rfl) (fun p10 => ?_)
    refine OJ.st (T := 3) (y := .tmp 29) (z := .tmp 28) (owed := []) (by kernel_rfl) (by kernel_rfl) (by kernel_rfl) Ty3 (by kernel_rfl) (by kernel_rfl) ?_
    refine OW.nil ?_
    refine OJ.nil ?_
    refine SJ.seq (by kernel_rfl) ?_
    refine SJ.draw (id := 4) (kd := [0, 0, 0, 1, 0, 0, 1, 0, 0, 0, 0, 1, 0]) (bef := [0, 1, 3, 7, 0, 31, 63, 0, 0, 384, 896, 1920, 4095]) (ord := [0, 1, 2, 3, 4, 5, 6, 7, 8, 9, 10, 11, 12]) (by kernel_rfl) mixed (by kernel_rfl) ?_
    refine OJ.run [0] [1, 2, 3, 4, 5, 6, 7, 8, 9, 10, 11, 12] [0, 1, 4, 30] (m2 := [(0, .pointer a0), (1, Sl.v a1), (4, .int .i64 s1), (30, .pointer a0)]) (by kernel_rfl) (by kernel_rfl) ?_
    refine OJ.nilck (d := 31) (y := .tmp 30) (by kernel_rfl) (by kernel_rfl) (by kernel_rfl) (by kernel_rfl) (by kernel_rfl) (fun p11 => ?_)
    refine OJ.run [2] [3, 4, 5, 6, 7, 8, 9, 10, 11, 12] [0, 1, 4, 32] (m2 := [(0, .pointer a0), (1, Sl.v a1), (4, .int .i64 s1), (32, .pointer (some p11))]) (by kernel_rfl) (by kernel_rfl) ?_
    refine OJ.ld (d := 33) (T := 28) (y := .tmp 32) (pend2 := fun x12 => [⟨3, 28, p11, cL.val x12⟩]) (by kernel_rfl) (by kernel_rfl) Ty28 (by kernel_rfl) (by kernel_rfl) (fun _ => rfl) (fun x12 => ?_)
    refine OJ.run [4] [5, 6, 7, 8, 9, 10, 11, 12] [0, 1, 4, 33, 34] (m2 := [(0, .pointer a0), (1, Sl.v a1), (4, .int .i64 s1), (33, Sl.v x12), (34, .int .i64 s1)]) (by kernel_rfl) (by kernel_rfl) ?_
    refine OJ.idxS (d := 35) (T := 28) (y := .tmp 33) (j := .tmp 34) (E := 3) (cap := x12.cap) (k := .i64) (by kernel_rfl) (by kernel_rfl) (by kernel_rfl) (by kernel_rfl) (by kernel_rfl) (by kernel_rfl) (by kernel_rfl) (by kernel_rfl) (fun p13 => ?_)
    refine OJ.ld (d := 36) (T := 3) (y := .tmp 35) (pend2 := fun x14 => [⟨6, 3, p13, (cI .i64).val x14⟩, ⟨3, 28, p11, cL.val x12⟩]) (by kernel_rfl) (by kernel_rfl) Ty3 (by kernel_rfl) (by kernel_rfl) (fun _ => rfl) (fun x14 => ?_)
    refine OJ.run [7, 8] [9, 10, 11, 12] [0, 1, 4, 36, 37, 38] (m2 := [(0, .pointer a0), (1, Sl.v a1), (4, .int .i64 s1), (36, .int .i64 x14), (37, Sl.v a1), (38, .int .i64 s1)]) (by kernel_rfl) (by kernel_rfl) ?_
    refine OJ.idxS (d := 39) (T := 27) (y := .tmp 37) (j := .tmp 38) (E := 41) (cap := a1.cap) (k := .i64) (by kernel_rfl) (by kernel_rfl) (by kernel_rfl) (by kernel_rfl) (by kernel_rfl) (by kernel_rfl) (by kernel_rfl) (by kernel_rfl) (fun p15 => ?_)
    refine OJ.run [10] [11, 12] [0, 1, 4, 36, 40] (m2 := [(0, .pointer a0), (1, Sl.v a1), (4, .int .i64 s1), (36, .int .i64 x14), (40, .pointer (some (Addr.add p15 4)))]) (by kernel_rfl) (by kernel_rfl) ?_
    refine OJ.ld (d := 41) (T := 3) (y := .tmp 40) (pend2 := fun x16 => [⟨11, 3, (Addr.add p15 4), (cI .i64).val x16⟩, ⟨6, 3, p13, (cI .i64).val x14⟩, ⟨3, 28, p11, cL.val x12⟩]) (by kernel_rfl) (by kernel_rfl) Ty3 (by kernel_rfl) (by kernel_rfl) (fun _ => rfl) (fun x16 => ?_)
    refine OJ.run [12] [] [0, 1, 4, 42] (m2 := [(0, .pointer a0), (1, Sl.v a1), (4, .int .i64 s1), (42, .bool (decide (x14 > x16)))]) (by kernel_rfl) (by kernel_rfl) ?_
    refine OJ.nil ?_
    refine SJ.cond (t := (.tmp 42)) (b := decide (x14 > x16)) (by kernel_rfl) (by kernel_rfl) decide_eq_true_iff (fun hc27 => ?_) (fun hc27 => ?_)
    · refine SJ.draw (id := 5) (kd := [0, 0, 0, 1, 0, 0, 0, 0, 0, 1, 0, 2]) (bef := [0, 1, 3, 7, 0, 0, 0, 96, 224, 480, 1023, 2047]) (ord := [0, 1, 2, 3, 4, 5, 6, 7, 8, 9, 10, 11]) (by kernel_rfl) mixed (by kernel_rfl) ?_
      refine OJ.run [0] [1, 2, 3, 4, 5, 6, 7, 8, 9, 10, 11] [0, 1, 4, 43] (m2 := [(0, .pointer a0), (1, Sl.v a1), (4, .int .i64 s1), (43, .pointer a0)]) (by kernel_rfl) (by kernel_rfl) ?_
      refine OJ.nilck (d := 44) (y := .tmp 43) (by kernel_rfl) (by kernel_rfl) (by kernel_rfl) (by kernel_rfl) (by kernel_rfl) (fun p22 => ?_)
      refine OJ.run [2] [3, 4, 5, 6, 7, 8, 9, 10, 11] [0, 1, 4, 45] (m2 := [(0, .pointer a0), (1, Sl.v a1), (4, .int .i64 s1), (45, .pointer (some p22))]) (by kernel_rfl) (by kernel_rfl) ?_
      refine OJ.ld (d := 46) (T := 28) (y := .tmp 45) (pend2 := fun x23 => [⟨3, 28, p22, cL.val x23⟩]) (by kernel_rfl) (by kernel_rfl) Ty28 (by kernel_rfl) (by kernel_rfl) (fun _ => rfl) (fun x23 => ?_)
      refine OJ.run [4, 5, 6] [7, 8, 9, 10, 11] [0, 1, 4, 46, 47, 48, 49] (m2 := [(0, .pointer a0), (1, Sl.v a1), (4, .int .i64 s1), (46, Sl.v x23), (47, .int .i64 s1), (48, Sl.v a1), (49, .int .i64 s1)]) (by kernel_rfl) (by kernel_rfl) ?_
      refine OJ.idxS (d := 50) (T := 27) (y := .tmp 48) (j := .tmp 49) (E := 41) (cap := a1.cap) (k := .i64) (by kernel_rfl) (by kernel_rfl) (by kernel_rfl) (by kernel_rfl) (by kernel_rfl) (by kernel_rfl) (by kernel_rfl) (by kernel_rfl) (fun p24 => ?_)
      refine OJ.run [8] [9, 10, 11] [0, 1, 4, 46, 47, 51] (m2 := [(0, .pointer a0), (1, Sl.v a1), (4, .int .i64 s1), (46, Sl.v x23), (47, .int .i64 s1), (51, .pointer (some (Addr.add p24 4)))]) (by kernel_rfl) (by kernel_rfl) ?_
      refine OJ.ld (d := 52) (T := 3) (y := .tmp 51) (pend2 := fun x25 => [⟨9, 3, (Addr.add p24 4), (cI .i64).val x25⟩, ⟨3, 28, p22, cL.val x23⟩]) (by kernel_rfl) (by kernel_rfl) Ty3 (by kernel_rfl) (by kernel_rfl) (fun _ => rfl) (fun x25 => ?_)
      refine OJ.idxS (d := 53) (T := 28) (y := .tmp 46) (j := .tmp 47) (E := 3) (cap := x23.cap) (k := .i64) (by kernel_rfl) (by kernel_rfl) (by kernel_rfl) (by kernel_rfl) (by kernel_rfl) (by kernel_rfl) (by kernel_rfl) (by kernel_rfl) (fun p26 => ?_)
      refine OJ.st (T := 3) (y := .tmp 53) (z := .tmp 52) (owed := []) (by kernel_rfl) (by kernel_rfl) (by kernel_rfl) Ty3 (by kernel_rfl) (by kernel_rfl) ?_
      refine OW.nil ?_
      refine OJ.nil ?_
      refine SJ.inBlock ?_
      refine SJ.region (id := 2) (by kernel_rfl) [0, 1, 2] (by kernel_rfl) ?_
      refine OJ.run [0, 1, 2] [] [0, 1, 4] (m2 := [(0, .pointer a0), (1, Sl.v a1), (4, .int .i64 (IntKind.wrap .i64 (s1 + 1)))]) (by kernel_rfl) (by kernel_rfl) ?_
      refine OJ.nil ?_
      exact SJ.at_ [0, 1, 4] rfl (by kernel_rfl)
    · refine SJ.skip (by kernel_rfl) ?_
      refine SJ.inBlock ?_
      refine SJ.region (id := 2) (by kernel_rfl) [0, 1, 2] (by kernel_rfl) ?_
      refine OJ.run [0, 1, 2] [] [0, 1, 4] (m2 := [(0, .pointer a0), (1, Sl.v a1), (4, .int .i64 (IntKind.wrap .i64 (s1 + 1)))]) (by kernel_rfl) (by kernel_rfl) ?_
      refine OJ.nil ?_
      exact SJ.at_ [0, 1, 4] rfl (by kernel_rfl)
  · refine SJ.exit (id := 0) (by kernel_rfl) (by rfl) ?_
    exact SJ.end_ rfl (Res.run (ys := []) .nil rfl)
noncomputable def weirlaw18_Purse_tick (a0 : (Option Addr)) (a1 : Sl) : M Unit :=
  loopM (fun s_ : Int => weirlaw18_Purse_tick.L1 a0 a1 s_) 0
theorem weirlaw18_Purse_tick_ok (a0 : (Option Addr)) (a1 : Sl) : Ref Try.prog 27 [.pointer a0, Sl.v a1] (weirlaw18_Purse_tick a0 a1) weirlaw18_Purse_tick.out := by
  refine Ref.of (cd := weirlaw18_Purse_tick.B) Try.func27 (by kernel_rfl) (by kernel_rfl) ?_
  show SJ weirlaw18_Purse_tick.cx [.code weirlaw18_Purse_tick.B] [(0, .pointer a0), (1, Sl.v a1)] [] (weirlaw18_Purse_tick a0 a1) weirlaw18_Purse_tick.F0
  unfold weirlaw18_Purse_tick
  refine SJ.seq (by kernel_rfl) ?_
  refine SJ.region (id := 0) (by kernel_rfl) [0] (by kernel_rfl) ?_
  refine OJ.run [0] [] [0, 1, 4] (m2 := [(0, .pointer a0), (1, Sl.v a1), (4, .int .i64 0)]) (by kernel_rfl) (by kernel_rfl) ?_
  refine OJ.nil ?_
  refine SJ.block (id := 0) (by kernel_rfl) ?_
  exact SJ.loop (fun s_ : Int => [(0, .pointer a0), (1, Sl.v a1), (4, .int .i64 s_)]) (fun s_ : Int => []) [0, 1, 4] (by kernel_rfl) (by kernel_rfl) rfl (fun _ _ => rfl) (fun s_ => weirlaw18_Purse_tick.L1_ok a0 a1 s_)

/-! ### (*weir/weirlaw18.Purse).ready: function 30 -/
noncomputable def weirlaw18_Purse_ready.B : Code := (Try.f30.body).getD .skip
noncomputable def weirlaw18_Purse_ready.cx : Fx := ⟨Try.prog, 30, Try.f30⟩
noncomputable def weirlaw18_Purse_ready.out (r_ : Bool) : Value := .bool r_
noncomputable def weirlaw18_Purse_ready.F0 (r_ : Bool) : Reach := .ret (weirlaw18_Purse_ready.out r_)
noncomputable def weirlaw18_Purse_ready (a0 : (Option Addr)) (a1 : Sl) (a2 : (Option Addr)) (a3 : Int) : M Bool :=
  draw >>= fun _ =>
  nilck a2 >>= fun p1 =>
  ld cL p1 >>= fun x2 =>
  idx x2.a x2.len a3 1 >>= fun p3 =>
  ld cL p3 >>= fun x4 =>
  (if (x4.len : Int) > 0 then
      idx a1.a a1.len a3 5 >>= fun p5 =>
      ld (cI .i64) (Addr.add p5 3) >>= fun x6 =>
      (if x6 = 0 then
          pure true
        else
          nilck a0 >>= fun p7 =>
          ld cL p7 >>= fun x8 =>
          idx x8.a x8.len a3 1 >>= fun p9 =>
          ld (cI .i64) p9 >>= fun x10 =>
          nilck a2 >>= fun p11 =>
          ld cL p11 >>= fun x12 =>
          idx x12.a x12.len a3 1 >>= fun p13 =>
          ld cL p13 >>= fun x14 =>
          idx x14.a x14.len 0 2 >>= fun p15 =>
          ld (cI .i64) p15 >>= fun x16 =>
          pure (decide (x10 ≥ x16))) >>= fun y17 =>
      pure y17
    else
      pure false) >>= fun y18 =>
  pure y18
theorem weirlaw18_Purse_ready_ok (a0 : (Option Addr)) (a1 : Sl) (a2 : (Option Addr)) (a3 : Int) : Ref Try.prog 30 [.pointer a0, Sl.v a1, .pointer a2, .int .i64 a3] (weirlaw18_Purse_ready a0 a1 a2 a3) weirlaw18_Purse_ready.out := by
  refine Ref.of (cd := weirlaw18_Purse_ready.B) Try.func30 (by kernel_rfl) (by kernel_rfl) ?_
  show SJ weirlaw18_Purse_ready.cx [.code weirlaw18_Purse_ready.B] [(0, .pointer a0), (1, Sl.v a1), (2, .pointer a2), (3, .int .i64 a3)] [] (weirlaw18_Purse_ready a0 a1 a2 a3) weirlaw18_Purse_ready.F0
  unfold weirlaw18_Purse_ready
  refine SJ.seq (by kernel_rfl) ?_
  refine SJ.region (id := 0) (by kernel_rfl) [0] (by kernel_rfl) ?_
  refine OJ.run [0] [] [0, 1, 2, 3] (m2 := [(0, .pointer a0), (1, Sl.v a1), (2, .pointer a2), (3, .int .i64 a3)]) (by kernel_rfl) (by kernel_rfl) ?_
  refine OJ.nil ?_
  refine SJ.seq (by kernel_rfl) ?_
  refine SJ.draw (id := 1) (kd := [0, 0, 0, 1, 0, 0, 1, 0, 0, 0, 0, 0, 0, 0, 1, 0, 0, 0, 0, 0, 1, 0, 0, 1, 0, 0, 0, 1, 0, 0, 1, 0, 0, 1, 0, 0, 0, 0]) (bef := [0, 1, 3, 7, 0, 31, 63, 127, 255, 511, 1023, 1023, 4095, 8191, 16383, 32767, 65535, 131071, 262143, 524287, 1048575, 131071, 4194303, 8388607, 131071, 16908287, 50462719, 117571583, 131071, 520224767, 1057095679, 2130837503, 4278321151, 8573288447, 17179869183, 34359738367, 68719476735, 137438953471]) (ord := [0, 1, 2, 3, 4, 5, 6, 7, 8, 9, 10, 11, 12, 13, 14, 15, 16, 17, 18, 19, 20, 21, 22, 23, 24, 25, 26, 27, 28, 29, 30, 31, 32, 33, 34, 35, 36, 37]) (by kernel_rfl) mixed (by kernel_rfl) ?_
  refine OJ.run [0] [1, 2, 3, 4, 5, 6, 7, 8, 9, 10, 11, 12, 13, 14, 15, 16, 17, 18, 19, 20, 21, 22, 23, 24, 25, 26, 27, 28, 29, 30, 31, 32, 33, 34, 35, 36, 37] [0, 1, 2, 3, 9] (m2 := [(0, .pointer a0), (1, Sl.v a1), (2, .pointer a2), (3, .int .i64 a3), (9, .pointer a2)]) (by kernel_rfl) (by kernel_rfl) ?_
  refine OJ.nilck (d := 10) (y := .tmp 9) (by kernel_rfl) (by kernel_rfl) (by kernel_rfl) (by kernel_rfl) (by kernel_rfl) (fun p1 => ?_)
  refine OJ.run [2] [3, 4, 5, 6, 7, 8, 9, 10, 11, 12, 13, 14, 15, 16, 17, 18, 19, 20, 21, 22, 23, 24, 25, 26, 27, 28, 29, 30, 31, 32, 33, 34, 35, 36, 37] [0, 1, 2, 3, 11] (m2 := [(0, .pointer a0), (1, Sl.v a1), (2, .pointer a2), (3, .int .i64 a3), (11, .pointer (some p1))]) (by kernel_rfl) (by kernel_rfl) ?_
  refine OJ.ld (d := 12) (T := 43) (y := .tmp 11) (pend2 := fun x2 => [⟨3, 43, p1, cL.val x2⟩]) (by kernel_rfl) (by kernel_rfl) Ty43 (by kernel_rfl) (by kernel_rfl) (fun _ => rfl) (fun x2 => ?_)
  refine OJ.run [4] [5, 6, 7, 8, 9, 10, 11, 12, 13, 14, 15, 16, 17, 18, 19, 20, 21, 22, 23, 24, 25, 26, 27, 28, 29, 30, 31, 32, 33, 34, 35, 36, 37] [0, 1, 2, 3, 12, 13] (m2 := [(0, .pointer a0), (1, Sl.v a1), (2, .pointer a2), (3, .int .i64 a3), (12, Sl.v x2), (13, .int .i64 a3)]) (by kernel_rfl) (by kernel_rfl) ?_
  refine OJ.idxS (d := 14) (T := 43) (y := .tmp 12) (j := .tmp 13) (E := 42) (cap := x2.cap) (k := .i64) (by kernel_rfl) (by kernel_rfl) (by kernel_rfl) (by kernel_rfl) (by kernel_rfl) (by kernel_rfl) (by kernel_rfl) (by kernel_rfl) (fun p3 => ?_)
  refine OJ.ld (d := 15) (T := 42) (y := .tmp 14) (pend2 := fun x4 => [⟨6, 42, p3, cL.val x4⟩, ⟨3, 43, p1, cL.val x2⟩]) (by kernel_rfl) (by kernel_rfl) Ty42 (by kernel_rfl) (by kernel_rfl) (fun _ => rfl) (fun x4 => ?_)
  refine OJ.run [7, 8, 9] [10, 11, 12, 13, 14, 15, 16, 17, 18, 19, 20, 21, 22, 23, 24, 25, 26, 27, 28, 29, 30, 31, 32, 33, 34, 35, 36, 37] [0, 1, 2, 3, 18] (m2 := [(0, .pointer a0), (1, Sl.v a1), (2, .pointer a2), (3, .int .i64 a3), (18, .bool (decide ((x4.len : Int) > 0)))]) (by kernel_rfl) (by kernel_rfl) ?_
  refine OJ.join (b := decide ((x4.len : Int) > 0)) [10, 11, 12, 13, 14, 15, 16, 17, 18, 19, 20, 21, 22, 23, 24, 25, 26, 27, 28, 29, 30, 31, 32, 33, 34, 35, 36] [37] [45] (fun y18 => [(45, .bool y18)]) [⟨6, 42, p3, cL.val x4⟩, ⟨3, 43, p1, cL.val x2⟩] [14, 20, 23, 27, 30, 33] (by kernel_rfl) (t := 18) (by kernel_rfl) decide_eq_true_iff (fun hp_ => ?_) (fun hp_ => ?_) (by kernel_rfl) (fun _ _ _ _ _ _ h_ => h_) (fun y18 => ?_)
  · refine OJ.run [10, 11] [12, 13, 14, 15, 16, 17, 18, 19, 20, 21, 22, 23, 24, 25, 26, 27, 28, 29, 30, 31, 32, 33, 34, 35, 36] [0, 2, 3, 18, 19, 20] (m2 := [(0, .pointer a0), (2, .pointer a2), (3, .int .i64 a3), (18, .bool true), (19, Sl.v a1), (20, .int .i64 a3)]) (by kernel_rfl) (by kernel_rfl) ?_
    refine OJ.idxS (d := 21) (T := 27) (y := .tmp 19) (j := .tmp 20) (E := 41) (cap := a1.cap) (k := .i64) (by kernel_rfl) (by kernel_rfl) (by kernel_rfl) (by kernel_rfl) (by kernel_rfl) (by kernel_rfl) (by kernel_rfl) (by kernel_rfl) (fun p5 => ?_)
    refine OJ.run [13] [14, 15, 16, 17, 18, 19, 20, 21, 22, 23, 24, 25, 26, 27, 28, 29, 30, 31, 32, 33, 34, 35, 36] [0, 2, 3, 18, 22] (m2 := [(0, .pointer a0), (2, .pointer a2), (3, .int .i64 a3), (18, .bool true), (22, .pointer (some (Addr.add p5 3)))]) (by kernel_rfl) (by kernel_rfl) ?_
    refine OJ.ld (d := 23) (T := 3) (y := .tmp 22) (pend2 := fun x6 => [⟨14, 3, (Addr.add p5 3), (cI .i64).val x6⟩, ⟨6, 42, p3, cL.val x4⟩, ⟨3, 43, p1, cL.val x2⟩]) (by kernel_rfl) (by kernel_rfl) Ty3 (by kernel_rfl) (by kernel_rfl) (fun _ => rfl) (fun x6 => ?_)
    refine OJ.run [15, 16] [17, 18, 19, 20, 21, 22, 23, 24, 25, 26, 27, 28, 29, 30, 31, 32, 33, 34, 35, 36] [0, 2, 3, 18, 25] (m2 := [(0, .pointer a0), (2, .pointer a2), (3, .int .i64 a3), (18, .bool true), (25, .bool (x6 == 0))]) (by kernel_rfl) (by kernel_rfl) ?_
    refine OJ.join (b := (x6 == 0)) [17, 18, 19, 20, 21, 22, 23, 24, 25, 26, 27, 28, 29, 30, 31, 32, 33, 34, 35] [36] [18, 44] (fun y17 => [(18, .bool true), (44, .bool y17)]) [⟨14, 3, (Addr.add p5 3), (cI .i64).val x6⟩, ⟨6, 42, p3, cL.val x4⟩, ⟨3, 43, p1, cL.val x2⟩] [20, 23, 27, 30, 33] (by kernel_rfl) (t := 25) (by kernel_rfl) beq_iff_eq (fun hp_ => ?_) (fun hp_ => ?_) (by kernel_rfl) (fun _ _ _ _ _ hq_ h_ => ⟨fun e_ he_ => by rcases hq_ e_ he_ with h | h; exact h_.1 e_ h; exact .inr ((by decide : ∀ i ∈ [20, 23, 27, 30, 33], i ∈ [14, 20, 23, 27, 30, 33]) _ h), h_.2⟩) (fun y17 => ?_)
    · refine OJ.run [17, 18, 19, 20, 21, 22, 23, 24, 25, 26, 27, 28, 29, 30, 31, 32, 33, 34, 35] [] [18, 44] (m2 := [(18, .bool true), (44, .bool true)]) (by kernel_rfl) (by kernel_rfl) ?_
      exact OJ.nil ⟨(Cov.mem (Cov.keep (List.mem_of_getElem? (i := 0) rfl) (Cov.keep (List.mem_of_getElem? (i := 1) rfl) (Cov.keep (List.mem_of_getElem? (i := 2) rfl) Cov.nil)))), rfl, _, rfl, by kernel_rfl⟩
    · refine OJ.run [17] [18, 19, 20, 21, 22, 23, 24, 25, 26, 27, 28, 29, 30, 31, 32, 33, 34, 35] [2, 3, 18, 25, 26] (m2 := [(2, .pointer a2), (3, .int .i64 a3), (18, .bool true), (25, .bool false), (26, .pointer a0)]) (by kernel_rfl) (by kernel_rfl) ?_
      refine OJ.nilck (d := 27) (y := .tmp 26) (by kernel_rfl) (by kernel_rfl) (by kernel_rfl) (by kernel_rfl) (by kernel_rfl) (fun p7 => ?_)
      refine OJ.run [19] [20, 21, 22, 23, 24, 25, 26, 27, 28, 29, 30, 31, 32, 33, 34, 35] [2, 3, 18, 25, 28] (m2 := [(2, .pointer a2), (3, .int .i64 a3), (18, .bool true), (25, .bool false), (28, .pointer (some p7))]) (by kernel_rfl) (by kernel_rfl) ?_
      refine OJ.ld (d := 29) (T := 28) (y := .tmp 28) (pend2 := fun x8 => [⟨20, 28, p7, cL.val x8⟩, ⟨14, 3, (Addr.add p5 3), (cI .i64).val x6⟩, ⟨6, 42, p3, cL.val x4⟩, ⟨3, 43, p1, cL.val x2⟩]) (by kernel_rfl) (by kernel_rfl) Ty28 (by kernel_rfl) (by kernel_rfl) (fun _ => rfl) (fun x8 => ?_)
      refine OJ.run [21] [22, 23, 24, 25, 26, 27, 28, 29, 30, 31, 32, 33, 34, 35] [2, 3, 18, 25, 29, 30] (m2 := [(2, .pointer a2), (3, .int .i64 a3), (18, .bool true), (25, .bool false), (29, Sl.v x8), (30, .int .i64 a3)]) (by kernel_rfl) (by kernel_rfl) ?_
      refine OJ.idxS (d := 31) (T := 28) (y := .tmp 29) (j := .tmp 30) (E := 3) (cap := x8.cap) (k := .i64) (by kernel_rfl) (by kernel_rfl) (by kernel_rfl) (by kernel_rfl) (by kernel_rfl) (by kernel_rfl) (by kernel_rfl) (by kernel_rfl) (fun p9 => ?_)
      refine OJ.ld (d := 32) (T := 3) (y := .tmp 31) (pend2 := fun x10 => [⟨23, 3, p9, (cI .i64).val x10⟩, ⟨20, 28, p7, cL.val x8⟩, ⟨14, 3, (Addr.add p5 3), (cI .i64).val x6⟩, ⟨6, 42, p3, cL.val x4⟩, ⟨3, 43, p1, cL.val x2⟩]) (by kernel_rfl) (by kernel_rfl) Ty3 (by kernel_rfl) (by kernel_rfl) (fun _ => rfl) (fun x10 => ?_)
      refine OJ.run [24] [25, 26, 27, 28, 29, 30, 31, 32, 33, 34, 35] [3, 18, 25, 32, 33] (m2 := [(3, .int .i64 a3), (18, .bool true), (25, .bool false), (32, .int .i64 x10), (33, .pointer a2)]) (by kernel_rfl) (by kernel_rfl) ?_
      refine OJ.nilck (d := 34) (y := .tmp 33) (by kernel_rfl) (by kernel_rfl) (by kernel_rfl) (by kernel_rfl) (by kernel_rfl) (fun p11 => ?_)
      refine OJ.run [26] [27, 28, 29, 30, 31, 32, 33, 34, 35] [3, 18, 25, 32, 35] (m2 := [(3, .int .i64 a3), (18, .bool true), (25, .bool false), (32, .int .i64 x10), (35, .pointer (some p11))]) (by kernel_rfl) (by kernel_rfl) ?_
      refine OJ.ld (d := 36) (T := 43) (y := .tmp 35) (pend2 := fun x12 => [⟨27, 43, p11, cL.val x12⟩, ⟨23, 3, p9, (cI .i64).val x10⟩, ⟨20, 28, p7, cL.val x8⟩, ⟨14, 3, (Addr.add p5 3), (cI .i64).val x6⟩, ⟨6, 42, p3, cL.val x4⟩, ⟨3, 43, p1, cL.val x2⟩]) (by kernel_rfl) (by kernel_rfl) Ty43 (by kernel_rfl) (by kernel_rfl) (fun _ => rfl) (fun x12 => ?_)
      refine OJ.run [28] [29, 30, 31, 32, 33, 34, 35] [18, 25, 32, 36, 37] (m2 := [(18, .bool true), (25, .bool false), (32, .int .i64 x10), (36, Sl.v x12), (37, .int .i64 a3)]) (by kernel_rfl) (by kernel_rfl) ?_
      refine OJ.idxS (d := 38) (T := 43) (y := .tmp 36) (j := .tmp 37) (E := 42) (cap := x12.cap) (k := .i64) (by kernel_rfl) (by kernel_rfl) (by kernel_rfl) (by kernel_rfl) (by kernel_rfl) (by kernel_rfl) (by kernel_rfl) (by kernel_rfl) (fun p13 => ?_)
      refine OJ.ld (d := 39) (T := 42) (y := .tmp 38) (pend2 := fun x14 => [⟨30, 42, p13, cL.val x14⟩, ⟨27, 43, p11, cL.val x12⟩, ⟨23, 3, p9, (cI .i64).val x10⟩, ⟨20, 28, p7, cL.val x8⟩, ⟨14, 3, (Addr.add p5 3), (cI .i64).val x6⟩, ⟨6, 42, p3, cL.val x4⟩, ⟨3, 43, p1, cL.val x2⟩]) (by kernel_rfl) (by kernel_rfl) Ty42 (by kernel_rfl) (by kernel_rfl) (fun _ => rfl) (fun x14 => ?_)
      refine OJ.idxS (d := 40) (T := 42) (y := .tmp 39) (j := .const (.int .i64 0)) (E := 66) (cap := x14.cap) (k := .i64) (by kernel_rfl) (by kernel_rfl) (by kernel_rfl) (by kernel_rfl) (by kernel_rfl) (by kernel_rfl) (by kernel_rfl) (by kernel_rfl) (fun p15 => ?_)
      refine OJ.run [32] [33, 34, 35] [18, 25, 32, 41] (m2 := [(18, .bool true), (25, .bool false), (32, .int .i64 x10), (41, .pointer (some p15))]) (by kernel_rfl) (by kernel_rfl) ?_
      refine OJ.ld (d := 42) (T := 3) (y := .tmp 41) (pend2 := fun x16 => [⟨33, 3, p15, (cI .i64).val x16⟩, ⟨30, 42, p13, cL.val x14⟩, ⟨27, 43, p11, cL.val x12⟩, ⟨23, 3, p9, (cI .i64).val x10⟩, ⟨20, 28, p7, cL.val x8⟩, ⟨14, 3, (Addr.add p5 3), (cI .i64).val x6⟩, ⟨6, 42, p3, cL.val x4⟩, ⟨3, 43, p1, cL.val x2⟩]) (by kernel_rfl) (by kernel_rfl) Ty3 (by kernel_rfl) (by kernel_rfl) (fun _ => rfl) (fun x16 => ?_)
      refine OJ.run [34, 35] [] [18, 44] (m2 := [(18, .bool true), (44, .bool (decide (x10 ≥ x16)))]) (by kernel_rfl) (by kernel_rfl) ?_
      exact OJ.nil ⟨(Cov.mem (Cov.drop (List.mem_of_getElem? (i := 4) rfl) (Cov.drop (List.mem_of_getElem? (i := 3) rfl) (Cov.drop (List.mem_of_getElem? (i := 2) rfl) (Cov.drop (List.mem_of_getElem? (i := 1) rfl) (Cov.drop (List.mem_of_getElem? (i := 0) rfl) (Cov.keep (List.mem_of_getElem? (i := 0) rfl) (Cov.keep (List.mem_of_getElem? (i := 1) rfl) (Cov.keep (List.mem_of_getElem? (i := 2) rfl) Cov.nil))))))))), rfl, _, rfl, by kernel_rfl⟩
    · refine OJ.run [36] [] [45] (m2 := [(45, .bool y17)]) (by kernel_rfl) (by kernel_rfl) ?_
      exact OJ.nil ⟨(Cov.mem (Cov.drop (List.mem_of_getElem? (i := 0) rfl) (Cov.keep (List.mem_of_getElem? (i := 0) rfl) (Cov.keep (List.mem_of_getElem? (i := 1) rfl) Cov.nil)))), rfl, _, rfl, by kernel_rfl⟩
  · refine OJ.run [10, 11, 12, 13, 14, 15, 16, 17, 18, 19, 20, 21, 22, 23, 24, 25, 26, 27, 28, 29, 30, 31, 32, 33, 34, 35, 36] [] [45] (m2 := [(45, .bool false)]) (by kernel_rfl) (by kernel_rfl) ?_
    exact OJ.nil ⟨(Cov.mem (Cov.keep (List.mem_of_getElem? (i := 0) rfl) (Cov.keep (List.mem_of_getElem? (i := 1) rfl) Cov.nil))), rfl, _, rfl, by kernel_rfl⟩
  · refine OJ.run [37] [] [8] (m2 := [(8, .bool y18)]) (by kernel_rfl) (by kernel_rfl) ?_
    refine OJ.nil ?_
    exact SJ.ret (by kernel_rfl) rfl (Res.run (ys := [.bool y18]) (.tmp (by kernel_rfl) .nil) rfl)

/-! ### weir/weirlaw18.all: function 28 -/
noncomputable def weirlaw18_all.B : Code := (Try.f28.body).getD .skip
noncomputable def weirlaw18_all.cx : Fx := ⟨Try.prog, 28, Try.f28⟩
noncomputable def weirlaw18_all.out (r_ : Sl) : Value := Sl.v r_
noncomputable def weirlaw18_all.F0 (r_ : Sl) : Reach := .ret (weirlaw18_all.out r_)
noncomputable def weirlaw18_all.F1 (a0 : Sl) (a1 : (Option Addr)) (a2 : (Option Addr)) : (LS (Sl × Int) Sl) → Reach := loopF [.inLoop (c1 (c1 (c2 (c1 (c2 (c2 weirlaw18_all.B)))))), .inBlock 0, .code (c2 (c2 (c2 weirlaw18_all.B)))] (fun s_ : (Sl × Int) => [(0, Sl.v a0), (1, .pointer a1), (2, .pointer a2), (7, Sl.v s_.1), (8, .int .i64 s_.2)]) (fun s_ : (Sl × Int) => []) weirlaw18_all.F0
noncomputable def weirlaw18_all.L1 (a0 : Sl) (a1 : (Option Addr)) (a2 : (Option Addr)) (s1 : Sl) (s2 : Int) : M (LS (Sl × Int) Sl) :=
  if s2 < (a0.len : Int) then
    weirlaw18_Purse_ready a2 a0 a1 s2 >>= fun r7 =>
    slot 4 >>= fun b8 =>
    appl cB 4 1 false s1 [r7] >>= fun r9 =>
    pure (LS.next (r9, IntKind.wrap .i64 (s2 + 1)))
  else
    pure (LS.done s1)
theorem weirlaw18_all.L1_ok (a0 : Sl) (a1 : (Option Addr)) (a2 : (Option Addr)) (s1 : Sl) (s2 : Int) :
    SJ weirlaw18_all.cx [.code (c1 (c1 (c2 (c1 (c2 (c2 weirlaw18_all.B)))))), .inLoop (c1 (c1 (c2 (c1 (c2 (c2 weirlaw18_all.B)))))), .inBlock 0, .code (c2 (c2 (c2 weirlaw18_all.B)))] [(0, Sl.v a0), (1, .pointer a1), (2, .pointer a2), (7, Sl.v s1), (8, .int .i64 s2)] [] (weirlaw18_all.L1 a0 a1 a2 s1 s2) (weirlaw18_all.F1 a0 a1 a2) := by
  unfold weirlaw18_all.L1
  refine SJ.seq (by kernel_rfl) ?_
  refine SJ.seq (by kernel_rfl) ?_
  refine SJ.region (id := 3) (by kernel_rfl) [0, 1, 2, 3] (by kernel_rfl) ?_
  refine OJ.run [0, 1, 2, 3] [] [0, 1, 2, 7, 8, 12] (m2 := [(0, Sl.v a0), (1, .pointer a1), (2, .pointer a2), (7, Sl.v s1), (8, .int .i64 s2), (12, .bool (decide (s2 < (a0.len : Int))))]) (by kernel_rfl) (by kernel_rfl) ?_
  refine OJ.nil ?_
  refine SJ.cond (t := (.tmp 12)) (b := decide (s2 < (a0.len : Int))) (by kernel_rfl) (by kernel_rfl) decide_eq_true_iff (fun hc10 => ?_) (fun hc10 => ?_)
  · refine SJ.skip (by kernel_rfl) ?_
    refine SJ.seq (by kernel_rfl) ?_
    refine SJ.block (id := 1) (by kernel_rfl) ?_
    refine SJ.region (id := 5) (by kernel_rfl) [0, 1, 2, 3, 4, 5, 6, 7, 8] (by kernel_rfl) ?_
    refine OJ.run [0, 1, 2, 3, 4] [5, 6, 7, 8] [0, 1, 2, 7, 8, 15, 16, 17, 18, 19] (m2 := [(0, Sl.v a0), (1, .pointer a1), (2, .pointer a2), (7, Sl.v s1), (8, .int .i64 s2), (15, Sl.v s1), (16, .pointer a2), (17, Sl.v a0), (18, .pointer a1), (19, .int .i64 s2)]) (by kernel_rfl) (by kernel_rfl) ?_
    refine OJ.call (d := 20) (g := 30) (ats := #[54, 27, 32, 3]) (args := [.tmp 16, .tmp 17, .tmp 18, .tmp 19]) (vals := [.pointer a2, Sl.v a0, .pointer a1, .int .i64 s2]) (owed := []) (by kernel_rfl) F30 (by kernel_rfl) (weirlaw18_Purse_ready_ok a2 a0 a1 s2) (by kernel_rfl) (by kernel_rfl) (by kernel_rfl) (fun r7 => ?_)
    refine OW.nil ?_
    refine OJ.rowSlot (d := 21) (t := 58) (parts := [(0, .tmp 20)]) (ps := [(0, cB.val r7)]) (cd := cB) (⟨[r7], rfl⟩ : Vec Bool 1) (owed := []) (by kernel_rfl) (by kernel_rfl) (by kernel_rfl) Ty4 (by kernel_rfl) (Filled.cons (cd := cB) (q := r7) (o := 0) rfl (Upd.arr (i := 0) (by decide) (by decide)) Filled.nil) (by kernel_rfl) (by kernel_rfl) (by kernel_rfl) (fun b8 => ?_)
    refine OW.nil ?_
    refine OJ.appl (d := 22) (t := 58) (u := 58) (so := .tmp 15) (xo := .tmp 21) (j := 0) (b := b8) (l := (cB.arr 1).enc (⟨[r7], rfl⟩ : Vec Bool 1)) (n := 1) (k := 1) [r7] (owed := []) (by kernel_rfl) (by kernel_rfl) (by kernel_rfl) Ty4 (by kernel_rfl) (by kernel_rfl) (by kernel_rfl) (by rfl) (Cod.arr_enc _ _ _) (by rfl) (by kernel_rfl) (by kernel_rfl) (by kernel_rfl) (fun r9 => ?_)
    refine OW.nil ?_
    refine OJ.run [8] [] [0, 1, 2, 7, 8] (m2 := [(0, Sl.v a0), (1, .pointer a1), (2, .pointer a2), (7, Sl.v r9), (8, .int .i64 s2)]) (by kernel_rfl) (by kernel_rfl) ?_
    refine OJ.nil ?_
    refine SJ.inBlock ?_
    refine SJ.region (id := 4) (by kernel_rfl) [0, 1, 2] (by kernel_rfl) ?_
    refine OJ.run [0, 1, 2] [] [0, 1, 2, 7, 8] (m2 := [(0, Sl.v a0), (1, .pointer a1), (2, .pointer a2), (7, Sl.v r9), (8, .int .i64 (IntKind.wrap .i64 (s2 + 1)))]) (by kernel_rfl) (by kernel_rfl) ?_
    refine OJ.nil ?_
    refine SJ.forget (List.Sublist.cons _ List.Sublist.slnil) ?_
    exact SJ.at_ [0, 1, 2, 7, 8] rfl (by kernel_rfl)
  · refine SJ.exit (id := 0) (by kernel_rfl) (by rfl) ?_
    refine SJ.seq (by kernel_rfl) ?_
    refine SJ.region (id := 6) (by kernel_rfl) [0, 1] (by kernel_rfl) ?_
    refine OJ.run [0, 1] [] [6] (m2 := [(6, Sl.v s1)]) (by kernel_rfl) (by kernel_rfl) ?_
    refine OJ.nil ?_
    exact SJ.ret (by kernel_rfl) rfl (Res.run (ys := [Sl.v s1]) (.tmp (by kernel_rfl) .nil) rfl)
noncomputable def weirlaw18_all (a0 : Sl) (a1 : (Option Addr)) (a2 : (Option Addr)) : M Sl :=
  loopM (fun s_ : (Sl × Int) => weirlaw18_all.L1 a0 a1 a2 s_.1 s_.2) (Sl.nil, 0)
theorem weirlaw18_all_ok (a0 : Sl) (a1 : (Option Addr)) (a2 : (Option Addr)) : Ref Try.prog 28 [Sl.v a0, .pointer a1, .pointer a2] (weirlaw18_all a0 a1 a2) weirlaw18_all.out := by
  refine Ref.of (cd := weirlaw18_all.B) Try.func28 (by kernel_rfl) (by kernel_rfl) ?_
  show SJ weirlaw18_all.cx [.code weirlaw18_all.B] [(0, Sl.v a0), (1, .pointer a1), (2, .pointer a2)] [] (weirlaw18_all a0 a1 a2) weirlaw18_all.F0
  unfold weirlaw18_all
  refine SJ.seq (by kernel_rfl) ?_
  refine SJ.region (id := 0) (by kernel_rfl) [0] (by kernel_rfl) ?_
  refine OJ.run [0] [] [0, 1, 2] (m2 := [(0, Sl.v a0), (1, .pointer a1), (2, .pointer a2)]) (by kernel_rfl) (by kernel_rfl) ?_
  refine OJ.nil ?_
  refine SJ.seq (by kernel_rfl) ?_
  refine SJ.region (id := 1) (by kernel_rfl) [0] (by kernel_rfl) ?_
  refine OJ.run [0] [] [0, 1, 2, 7] (m2 := [(0, Sl.v a0), (1, .pointer a1), (2, .pointer a2), (7, Sl.v Sl.nil)]) (by kernel_rfl) (by kernel_rfl) ?_
  refine OJ.nil ?_
  refine SJ.seq (by kernel_rfl) ?_
  refine SJ.seq (by kernel_rfl) ?_
  refine SJ.region (id := 2) (by kernel_rfl) [0] (by kernel_rfl) ?_
  refine OJ.run [0] [] [0, 1, 2, 7, 8] (m2 := [(0, Sl.v a0), (1, .pointer a1), (2, .pointer a2), (7, Sl.v Sl.nil), (8, .int .i64 0)]) (by kernel_rfl) (by kernel_rfl) ?_
  refine OJ.nil ?_
  refine SJ.block (id := 0) (by kernel_rfl) ?_
  exact SJ.loop (fun s_ : (Sl × Int) => [(0, Sl.v a0), (1, .pointer a1), (2, .pointer a2), (7, Sl.v s_.1), (8, .int .i64 s_.2)]) (fun s_ : (Sl × Int) => []) [0, 1, 2, 7, 8] (by kernel_rfl) (by kernel_rfl) rfl (fun _ _ => rfl) (fun s_ => weirlaw18_all.L1_ok a0 a1 a2 s_.1 s_.2)

/-! ### (*weir/weirlaw18.Book).popped: function 23 -/
noncomputable def weirlaw18_Book_popped.B : Code := (Try.f23.body).getD .skip
noncomputable def weirlaw18_Book_popped.cx : Fx := ⟨Try.prog, 23, Try.f23⟩
noncomputable def weirlaw18_Book_popped.out (r_ : Bool) : Value := .bool r_
noncomputable def weirlaw18_Book_popped.F0 (r_ : Bool) : Reach := .ret (weirlaw18_Book_popped.out r_)
noncomputable def weirlaw18_Book_popped (a0 : (Option Addr)) (a1 : Int) (a2 : Int) : M Bool :=
  (if a2 < 0 then
      pure true
    else
      nilck a0 >>= fun p1 =>
      ld cL p1 >>= fun x2 =>
      pure (decide (a2 ≥ (x2.len : Int)))) >>= fun y3 =>
  (if y3 = true then
      pure true
    else
      nilck a0 >>= fun p4 =>
      ld cL p4 >>= fun x5 =>
      idx x5.a x5.len a2 1 >>= fun p6 =>
      ld cL p6 >>= fun x7 =>
      pure ((x7.len : Int) == 0)) >>= fun y8 =>
  (if y8 = true then
      pure true
    else
      nilck a0 >>= fun p9 =>
      ld cL p9 >>= fun x10 =>
      idx x10.a x10.len a2 1 >>= fun p11 =>
      ld cL p11 >>= fun x12 =>
      idx x12.a x12.len 0 2 >>= fun p13 =>
      ld (cI .i64) (Addr.add p13 1) >>= fun x14 =>
      pure (x14 != a1)) >>= fun y15 =>
  if y15 = true then
    pure false
  else
    nilck a0 >>= fun p16 =>
    ld cL p16 >>= fun x17 =>
    idx x17.a x17.len a2 1 >>= fun p18 =>
    ld cL p18 >>= fun x19 =>
    idx x19.a x19.len 0 2 >>= fun p20 =>
    ld (cI .i64) p20 >>= fun x21 =>
    draw >>= fun _ =>
    nilck a0 >>= fun p22 =>
    ld cL p22 >>= fun x23 =>
    nilck a0 >>= fun p24 =>
    ld cL p24 >>= fun x25 =>
    idx x25.a x25.len a2 1 >>= fun p26 =>
    ld cL p26 >>= fun x27 =>
    cut 2 x27 (some 1) none none >>= fun r28 =>
    idx x23.a x23.len a2 1 >>= fun p29 =>
    st cL p29 r28 >>= fun _ =>
    draw >>= fun _ =>
    nilck a0 >>= fun p30 =>
    ld cL (Addr.add p30 1) >>= fun x31 =>
    nilck a0 >>= fun p32 =>
    ld cL (Addr.add p32 1) >>= fun x33 =>
    idx x33.a x33.len a2 1 >>= fun p34 =>
    ld (cI .i64) p34 >>= fun x35 =>
    idx x31.a x31.len a2 1 >>= fun p36 =>
    st (cI .i64) p36 (IntKind.wrap .i64 (x35 - x21)) >>= fun _ =>
    draw >>= fun _ =>
    nilck a0 >>= fun p37 =>
    ld cL (Addr.add p37 2) >>= fun x38 =>
    nilck a0 >>= fun p39 =>
    ld cL (Addr.add p39 2) >>= fun x40 =>
    idx x40.a x40.len a2 1 >>= fun p41 =>
    ld (cI .i64) p41 >>= fun x42 =>
    idx x38.a x38.len a2 1 >>= fun p43 =>
    st (cI .i64) p43 (IntKind.wrap .i64 (x42 + x21)) >>= fun _ =>
    pure true
theorem weirlaw18_Book_popped_ok (a0 : (Option Addr)) (a1 : Int) (a2 : Int) : Ref Try.prog 23 [.pointer a0, .int .i64 a1, .int .i64 a2] (weirlaw18_Book_popped a0 a1 a2) weirlaw18_Book_popped.out := by
  refine Ref.of (cd := weirlaw18_Book_popped.B) Try.func23 (by kernel_rfl) (by kernel_rfl) ?_
  show SJ weirlaw18_Book_popped.cx [.code weirlaw18_Book_popped.B] [(0, .pointer a0), (1, .int .i64 a1), (2, .int .i64 a2)] [] (weirlaw18_Book_popped a0 a1 a2) weirlaw18_Book_popped.F0
  unfold weirlaw18_Book_popped
  refine SJ.seq (by kernel_rfl) ?_
  refine SJ.region (id := 0) (by kernel_rfl) [0] (by kernel_rfl) ?_
  refine OJ.run [0] [] [0, 1, 2] (m2 := [(0, .pointer a0), (1, .int .i64 a1), (2, .int .i64 a2)]) (by kernel_rfl) (by kernel_rfl) ?_
  refine OJ.nil ?_
  refine SJ.seq (by kernel_rfl) ?_
  refine SJ.seq (by kernel_rfl) ?_
  refine SJ.region (id := 1) (by kernel_rfl) [0, 1, 2, 3, 4, 5, 6, 7, 8, 9, 10, 11, 12, 13, 14, 15, 16, 17, 18, 19, 20, 21, 22, 23, 24, 25, 26, 27, 28, 29, 30, 31, 32, 33, 34, 35] (by kernel_rfl) ?_
  refine OJ.run [0, 1, 2] [3, 4, 5, 6, 7, 8, 9, 10, 11, 12, 13, 14, 15, 16, 17, 18, 19, 20, 21, 22, 23, 24, 25, 26, 27, 28, 29, 30, 31, 32, 33, 34, 35] [0, 1, 2, 10] (m2 := [(0, .pointer a0), (1, .int .i64 a1), (2, .int .i64 a2), (10, .bool (decide (a2 < 0)))]) (by kernel_rfl) (by kernel_rfl) ?_
  refine OJ.join (b := decide (a2 < 0)) [3, 4, 5, 6, 7, 8, 9, 10] [11, 12, 13, 14, 15, 16, 17, 18, 19, 20, 21, 22, 23, 24, 25, 26, 27, 28, 29, 30, 31, 32, 33, 34, 35] [0, 1, 2, 18] (fun y3 => [(0, .pointer a0), (1, .int .i64 a1), (2, .int .i64 a2), (18, .bool y3)]) [] [] (by kernel_rfl) (t := 10) (by kernel_rfl) decide_eq_true_iff (fun hp_ => ?_) (fun hp_ => ?_) (by kernel_rfl) (fun _ _ _ _ _ _ h_ => h_) (fun y3 => ?_)
  · refine OJ.run [3, 4, 5, 6, 7, 8, 9, 10] [] [0, 1, 2, 18] (m2 := [(0, .pointer a0), (1, .int .i64 a1), (2, .int .i64 a2), (18, .bool true)]) (by kernel_rfl) (by kernel_rfl) ?_
    exact OJ.nil ⟨(Cov.mem Cov.nil), rfl, _, rfl, by kernel_rfl⟩
  · refine OJ.run [3, 4] [5, 6, 7, 8, 9, 10] [0, 1, 2, 10, 11, 12] (m2 := [(0, .pointer a0), (1, .int .i64 a1), (2, .int .i64 a2), (10, .bool false), (11, .int .i64 a2), (12, .pointer a0)]) (by kernel_rfl) (by kernel_rfl) ?_
    refine OJ.nilck (d := 13) (y := .tmp 12) (by kernel_rfl) (by kernel_rfl) (by kernel_rfl) (by kernel_rfl) (by kernel_rfl) (fun p1 => ?_)
    refine OJ.run [6] [7, 8, 9, 10] [0, 1, 2, 10, 11, 14] (m2 := [(0, .pointer a0), (1, .int .i64 a1), (2, .int .i64 a2), (10, .bool false), (11, .int .i64 a2), (14, .pointer (some p1))]) (by kernel_rfl) (by kernel_rfl) ?_
    refine OJ.ld (d := 15) (T := 43) (y := .tmp 14) (pend2 := fun x2 => []) (by kernel_rfl) (by kernel_rfl) Ty43 (by kernel_rfl) (by kernel_rfl) (fun _ => rfl) (fun x2 => ?_)
    refine OJ.run [8, 9, 10] [] [0, 1, 2, 18] (m2 := [(0, .pointer a0), (1, .int .i64 a1), (2, .int .i64 a2), (18, .bool (decide (a2 ≥ (x2.len : Int))))]) (by kernel_rfl) (by kernel_rfl) ?_
    exact OJ.nil ⟨(Cov.mem Cov.nil), rfl, _, rfl, by kernel_rfl⟩
  · refine OJ.run [11] [12, 13, 14, 15, 16, 17, 18, 19, 20, 21, 22, 23, 24, 25, 26, 27, 28, 29, 30, 31, 32, 33, 34, 35] [0, 1, 2, 19] (m2 := [(0, .pointer a0), (1, .int .i64 a1), (2, .int .i64 a2), (19, .bool y3)]) (by kernel_rfl) (by kernel_rfl) ?_
    refine OJ.join (b := y3) [12, 13, 14, 15, 16, 17, 18, 19, 20, 21] [22, 23, 24, 25, 26, 27, 28, 29, 30, 31, 32, 33, 34, 35] [0, 1, 2, 29] (fun y8 => [(0, .pointer a0), (1, .int .i64 a1), (2, .int .i64 a2), (29, .bool y8)]) [] [] (by kernel_rfl) (t := 19) (by kernel_rfl) Iff.rfl (fun hp_ => ?_) (fun hp_ => ?_) (by kernel_rfl) (fun _ _ _ _ _ _ h_ => h_) (fun y8 => ?_)
    · refine OJ.run [12, 13, 14, 15, 16, 17, 18, 19, 20, 21] [] [0, 1, 2, 29] (m2 := [(0, .pointer a0), (1, .int .i64 a1), (2, .int .i64 a2), (29, .bool true)]) (by kernel_rfl) (by kernel_rfl) ?_
      exact OJ.nil ⟨(Cov.mem Cov.nil), rfl, _, rfl, by kernel_rfl⟩
    · refine OJ.run [12] [13, 14, 15, 16, 17, 18, 19, 20, 21] [0, 1, 2, 19, 20] (m2 := [(0, .pointer a0), (1, .int .i64 a1), (2, .int .i64 a2), (19, .bool false), (20, .pointer a0)]) (by kernel_rfl) (by kernel_rfl) ?_
      refine OJ.nilck (d := 21) (y := .tmp 20) (by kernel_rfl) (by kernel_rfl) (by kernel_rfl) (by kernel_rfl) (by kernel_rfl) (fun p4 => ?_)
      refine OJ.run [14] [15, 16, 17, 18, 19, 20, 21] [0, 1, 2, 19, 22] (m2 := [(0, .pointer a0), (1, .int .i64 a1), (2, .int .i64 a2), (19, .bool false), (22, .pointer (some p4))]) (by kernel_rfl) (by kernel_rfl) ?_
      refine OJ.ld (d := 23) (T := 43) (y := .tmp 22) (pend2 := fun x5 => []) (by kernel_rfl) (by kernel_rfl) Ty43 (by kernel_rfl) (by kernel_rfl) (fun _ => rfl) (fun x5 => ?_)
      refine OJ.run [16] [17, 18, 19, 20, 21] [0, 1, 2, 19, 23, 24] (m2 := [(0, .pointer a0), (1, .int .i64 a1), (2, .int .i64 a2), (19, .bool false), (23, Sl.v x5), (24, .int .i64 a2)]) (by kernel_rfl) (by kernel_rfl) ?_
      refine OJ.idxS (d := 25) (T := 43) (y := .tmp 23) (j := .tmp 24) (E := 42) (cap := x5.cap) (k := .i64) (by kernel_rfl) (by kernel_rfl) (by kernel_rfl) (by kernel_rfl) (by kernel_rfl) (by kernel_rfl) (by kernel_rfl) (by kernel_rfl) (fun p6 => ?_)
      refine OJ.ld (d := 26) (T := 42) (y := .tmp 25) (pend2 := fun x7 => []) (by kernel_rfl) (by kernel_rfl) Ty42 (by kernel_rfl) (by kernel_rfl) (fun _ => rfl) (fun x7 => ?_)
      refine OJ.run [19, 20, 21] [] [0, 1, 2, 29] (m2 := [(0, .pointer a0), (1, .int .i64 a1), (2, .int .i64 a2), (29, .bool ((x7.len : Int) == 0))]) (by kernel_rfl) (by kernel_rfl) ?_
      exact OJ.nil ⟨(Cov.mem Cov.nil), rfl, _, rfl, by kernel_rfl⟩
    · refine OJ.run [22] [23, 24, 25, 26, 27, 28, 29, 30, 31, 32, 33, 34, 35] [0, 1, 2, 30] (m2 := [(0, .pointer a0), (1, .int .i64 a1), (2, .int .i64 a2), (30, .bool y8)]) (by kernel_rfl) (by kernel_rfl) ?_
      refine OJ.join (b := y8) [23, 24, 25, 26, 27, 28, 29, 30, 31, 32, 33, 34, 35] [] [0, 2, 43] (fun y15 => [(0, .pointer a0), (2, .int .i64 a2), (43, .bool y15)]) [] [] (by kernel_rfl) (t := 30) (by kernel_rfl) Iff.rfl (fun hp_ => ?_) (fun hp_ => ?_) (by kernel_rfl) (fun _ _ _ _ _ _ h_ => h_) (fun y15 => ?_)
      · refine OJ.run [23, 24, 25, 26, 27, 28, 29, 30, 31, 32, 33, 34, 35] [] [0, 2, 43] (m2 := [(0, .pointer a0), (2, .int .i64 a2), (43, .bool true)]) (by kernel_rfl) (by kernel_rfl) ?_
        exact OJ.nil ⟨(Cov.mem Cov.nil), rfl, _, rfl, by kernel_rfl⟩
      · refine OJ.run [23] [24, 25, 26, 27, 28, 29, 30, 31, 32, 33, 34, 35] [0, 1, 2, 30, 31] (m2 := [(0, .pointer a0), (1, .int .i64 a1), (2, .int .i64 a2), (30, .bool false), (31, .pointer a0)]) (by kernel_rfl) (by kernel_rfl) ?_
        refine OJ.nilck (d := 32) (y := .tmp 31) (by kernel_rfl) (by kernel_rfl) (by kernel_rfl) (by kernel_rfl) (by kernel_rfl) (fun p9 => ?_)
        refine OJ.run [25] [26, 27, 28, 29, 30, 31, 32, 33, 34, 35] [0, 1, 2, 30, 33] (m2 := [(0, .pointer a0), (1, .int .i64 a1), (2, .int .i64 a2), (30, .bool false), (33, .pointer (some p9))]) (by kernel_rfl) (by kernel_rfl) ?_
        refine OJ.ld (d := 34) (T := 43) (y := .tmp 33) (pend2 := fun x10 => []) (by kernel_rfl) (by kernel_rfl) Ty43 (by kernel_rfl) (by kernel_rfl) (fun _ => rfl) (fun x10 => ?_)
        refine OJ.run [27] [28, 29, 30, 31, 32, 33, 34, 35] [0, 1, 2, 30, 34, 35] (m2 := [(0, .pointer a0), (1, .int .i64 a1), (2, .int .i64 a2), (30, .bool false), (34, Sl.v x10), (35, .int .i64 a2)]) (by kernel_rfl) (by kernel_rfl) ?_
        refine OJ.idxS (d := 36) (T := 43) (y := .tmp 34) (j := .tmp 35) (E := 42) (cap := x10.cap) (k := .i64) (by kernel_rfl) (by kernel_rfl) (by kernel_rfl) (by kernel_rfl) (by kernel_rfl) (by kernel_rfl) (by kernel_rfl) (by kernel_rfl) (fun p11 => ?_)
        refine OJ.ld (d := 37) (T := 42) (y := .tmp 36) (pend2 := fun x12 => []) (by kernel_rfl) (by kernel_rfl) Ty42 (by kernel_rfl) (by kernel_rfl) (fun _ => rfl) (fun x12 => ?_)
        refine OJ.idxS (d := 38) (T := 42) (y := .tmp 37) (j := .const (.int .i64 0)) (E := 66) (cap := x12.cap) (k := .i64) (by kernel_rfl) (by kernel_rfl) (by kernel_rfl) (by kernel_rfl) (by kernel_rfl) (by kernel_rfl) (by kernel_rfl) (by kernel_rfl) (fun p13 => ?_)
        refine OJ.run [31] [32, 33, 34, 35] [0, 1, 2, 30, 39] (m2 := [(0, .pointer a0), (1, .int .i64 a1), (2, .int .i64 a2), (30, .bool false), (39, .pointer (some (Addr.add p13 1)))]) (by kernel_rfl) (by kernel_rfl) ?_
        refine OJ.ld (d := 40) (T := 3) (y := .tmp 39) (pend2 := fun x14 => []) (by kernel_rfl) (by kernel_rfl) Ty3 (by kernel_rfl) (by kernel_rfl) (fun _ => rfl) (fun x14 => ?_)
        refine OJ.run [33, 34, 35] [] [0, 2, 43] (m2 := [(0, .pointer a0), (2, .int .i64 a2), (43, .bool (x14 != a1))]) (by kernel_rfl) (by kernel_rfl) ?_
        exact OJ.nil ⟨(Cov.mem Cov.nil), rfl, _, rfl, by kernel_rfl⟩
      · refine OJ.nil ?_
        refine SJ.cond (t := (.tmp 43)) (b := y15) (by kernel_rfl) (by kernel_rfl) Iff.rfl (fun hc44 => ?_) (fun hc44 => ?_)
        · refine SJ.seq (by kernel_rfl) ?_
          refine SJ.region (id := 2) (by kernel_rfl) [0] (by kernel_rfl) ?_
          refine OJ.run [0] [] [6] (m2 := [(6, .bool false)]) (by kernel_rfl) (by kernel_rfl) ?_
          refine OJ.nil ?_
          exact SJ.ret (by kernel_rfl) rfl (Res.run (ys := [.bool false]) (.tmp (by kernel_rfl) .nil) rfl)
        · refine SJ.skip (by kernel_rfl) ?_
          refine SJ.seq (by kernel_rfl) ?_
          refine SJ.region (id := 3) (by kernel_rfl) [0, 1, 2, 3, 4, 5, 6, 7, 8, 9, 10] (by kernel_rfl) ?_
          refine OJ.run [0] [1, 2, 3, 4, 5, 6, 7, 8, 9, 10] [0, 2, 44] (m2 := [(0, .pointer a0), (2, .int .i64 a2), (44, .pointer a0)]) (by kernel_rfl) (by kernel_rfl) ?_
          refine OJ.nilck (d := 45) (y := .tmp 44) (by kernel_rfl) (by kernel_rfl) (by kernel_rfl) (by kernel_rfl) (by kernel_rfl) (fun p16 => ?_)
          refine OJ.run [2] [3, 4, 5, 6, 7, 8, 9, 10] [0, 2, 46] (m2 := [(0, .pointer a0), (2, .int .i64 a2), (46, .pointer (some p16))]) (by kernel_rfl) (by kernel_rfl) ?_
          refine OJ.ld (d := 47) (T := 43) (y := .tmp 46) (pend2 := fun x17 => []) (by kernel_rfl) (by kernel_rfl) Ty43 (by kernel_rfl) (by kernel_rfl) (fun _ => rfl) (fun x17 => ?_)
          refine OJ.run [4] [5, 6, 7, 8, 9, 10] [0, 2, 47, 48] (m2 := [(0, .pointer a0), (2, .int .i64 a2), (47, Sl.v x17), (48, .int .i64 a2)]) (by kernel_rfl) (by kernel_rfl) ?_
          refine OJ.idxS (d := 49) (T := 43) (y := .tmp 47) (j := .tmp 48) (E := 42) (cap := x17.cap) (k := .i64) (by kernel_rfl) (by kernel_rfl) (by kernel_rfl) (by kernel_rfl) (by kernel_rfl) (by kernel_rfl) (by kernel_rfl) (by kernel_rfl) (fun p18 => ?_)
          refine OJ.ld (d := 50) (T := 42) (y := .tmp 49) (pend2 := fun x19 => []) (by kernel_rfl) (by kernel_rfl) Ty42 (by kernel_rfl) (by kernel_rfl) (fun _ => rfl) (fun x19 => ?_)
          refine OJ.idxS (d := 51) (T := 42) (y := .tmp 50) (j := .const (.int .i64 0)) (E := 66) (cap := x19.cap) (k := .i64) (by kernel_rfl) (by kernel_rfl) (by kernel_rfl) (by kernel_rfl) (by kernel_rfl) (by kernel_rfl) (by kernel_rfl) (by kernel_rfl) (fun p20 => ?_)
          refine OJ.run [8] [9, 10] [0, 2, 52] (m2 := [(0, .pointer a0), (2, .int .i64 a2), (52, .pointer (some p20))]) (by kernel_rfl) (by kernel_rfl) ?_
          refine OJ.ld (d := 53) (T := 3) (y := .tmp 52) (pend2 := fun x21 => []) (by kernel_rfl) (by kernel_rfl) Ty3 (by kernel_rfl) (by kernel_rfl) (fun _ => rfl) (fun x21 => ?_)
          refine OJ.run [10] [] [0, 2, 7] (m2 := [(0, .pointer a0), (2, .int .i64 a2), (7, .int .i64 x21)]) (by kernel_rfl) (by kernel_rfl) ?_
          refine OJ.nil ?_
          refine SJ.seq (by kernel_rfl) ?_
          refine SJ.draw (id := 4) (kd := [0, 0, 0, 1, 0, 0, 0, 0, 1, 0, 0, 1, 0, 0, 2]) (bef := [0, 1, 3, 7, 0, 0, 32, 96, 224, 0, 992, 2016, 4064, 8191, 16383]) (ord := [0, 1, 2, 3, 4, 5, 6, 7, 8, 9, 10, 11, 12, 13, 14]) (by kernel_rfl) mixed (by kernel_rfl) ?_
          refine OJ.run [0] [1, 2, 3, 4, 5, 6, 7, 8, 9, 10, 11, 12, 13, 14] [0, 2, 7, 54] (m2 := [(0, .pointer a0), (2, .int .i64 a2), (7, .int .i64 x21), (54, .pointer a0)]) (by kernel_rfl) (by kernel_rfl) ?_
          refine OJ.nilck (d := 55) (y := .tmp 54) (by kernel_rfl) (by kernel_rfl) (by kernel_rfl) (by kernel_rfl) (by kernel_rfl) (fun p22 => ?_)
          refine OJ.run [2] [3, 4, 5, 6, 7, 8, 9, 10, 11, 12, 13, 14] [0, 2, 7, 56] (m2 := [(0, .pointer a0), (2, .int .i64 a2), (7, .int .i64 x21), (56, .pointer (some p22))]) (by kernel_rfl) (by kernel_rfl) ?_
          refine OJ.ld (d := 57) (T := 43) (y := .tmp 56) (pend2 := fun x23 => [⟨3, 43, p22, cL.val x23⟩]) (by kernel_rfl) (by kernel_rfl) Ty43 (by kernel_rfl) (by kernel_rfl) (fun _ => rfl) (fun x23 => ?_)
          refine OJ.run [4, 5] [6, 7, 8, 9, 10, 11, 12, 13, 14] [0, 2, 7, 57, 58, 59] (m2 := [(0, .pointer a0), (2, .int .i64 a2), (7, .int .i64 x21), (57, Sl.v x23), (58, .int .i64 a2), (59, .pointer a0)]) (by kernel_rfl) (by kernel_rfl) ?_
          refine OJ.nilck (d := 60) (y := .tmp 59) (by kernel_rfl) (by kernel_rfl) (by kernel_rfl) (by kernel_rfl) (by kernel_rfl) (fun p24 => ?_)
          refine OJ.run [7] [8, 9, 10, 11, 12, 13, 14] [0, 2, 7, 57, 58, 61] (m2 := [(0, .pointer a0), (2, .int .i64 a2), (7, .int .i64 x21), (57, Sl.v x23), (58, .int .i64 a2), (61, .pointer (some p24))]) (by kernel_rfl) (by kernel_rfl) ?_
          refine OJ.ld (d := 62) (T := 43) (y := .tmp 61) (pend2 := fun x25 => [⟨8, 43, p24, cL.val x25⟩, ⟨3, 43, p22, cL.val x23⟩]) (by kernel_rfl) (by kernel_rfl) Ty43 (by kernel_rfl) (by kernel_rfl) (fun _ => rfl) (fun x25 => ?_)
          refine OJ.run [9] [10, 11, 12, 13, 14] [0, 2, 7, 57, 58, 62, 63] (m2 := [(0, .pointer a0), (2, .int .i64 a2), (7, .int .i64 x21), (57, Sl.v x23), (58, .int .i64 a2), (62, Sl.v x25), (63, .int .i64 a2)]) (by kernel_rfl) (by kernel_rfl) ?_
          refine OJ.idxS (d := 64) (T := 43) (y := .tmp 62) (j := .tmp 63) (E := 42) (cap := x25.cap) (k := .i64) (by kernel_rfl) (by kernel_rfl) (by kernel_rfl) (by kernel_rfl) (by kernel_rfl) (by kernel_rfl) (by kernel_rfl) (by kernel_rfl) (fun p26 => ?_)
          refine OJ.ld (d := 65) (T := 42) (y := .tmp 64) (pend2 := fun x27 => [⟨11, 42, p26, cL.val x27⟩, ⟨8, 43, p24, cL.val x25⟩, ⟨3, 43, p22, cL.val x23⟩]) (by kernel_rfl) (by kernel_rfl) Ty42 (by kernel_rfl) (by kernel_rfl) (fun _ => rfl) (fun x27 => ?_)
          refine OJ.cut (d := 66) (t := 42) (E := 66) (y := .tmp 65) (lo := (some (.const (.int .i64 1)))) (hi := none) (mx := none) (lo' := some (.i64, 1)) (hi' := none) (mx' := none) (by kernel_rfl) (by kernel_rfl) (by kernel_rfl) (by kernel_rfl) (by kernel_rfl) (by kernel_rfl) (by kernel_rfl) (fun h => by cases h) (by kernel_rfl) (by kernel_rfl) (by kernel_rfl) (fun r28 => ?_)
          refine OJ.idxS (d := 67) (T := 43) (y := .tmp 57) (j := .tmp 58) (E := 42) (cap := x23.cap) (k := .i64) (by kernel_rfl) (by kernel_rfl) (by kernel_rfl) (by kernel_rfl) (by kernel_rfl) (by kernel_rfl) (by kernel_rfl) (by kernel_rfl) (fun p29 => ?_)
          refine OJ.st (T := 42) (y := .tmp 67) (z := .tmp 66) (owed := []) (by kernel_rfl) (by kernel_rfl) (by kernel_rfl) Ty42 (by kernel_rfl) (by kernel_rfl) ?_
          refine OW.nil ?_
          refine OJ.nil ?_
          refine SJ.seq (by kernel_rfl) ?_
          refine SJ.draw (id := 5) (kd := [0, 0, 0, 1, 0, 0, 0, 0, 1, 0, 0, 1, 0, 0, 0, 2]) (bef := [0, 1, 3, 7, 0, 0, 32, 96, 224, 0, 992, 2016, 0, 8160, 16383, 32767]) (ord := [0, 1, 2, 3, 4, 5, 6, 7, 8, 9, 10, 11, 12, 13, 14, 15]) (by kernel_rfl) mixed (by kernel_rfl) ?_
          refine OJ.run [0] [1, 2, 3, 4, 5, 6, 7, 8, 9, 10, 11, 12, 13, 14, 15] [0, 2, 7, 68] (m2 := [(0, .pointer a0), (2, .int .i64 a2), (7, .int .i64 x21), (68, .pointer a0)]) (by kernel_rfl) (by kernel_rfl) ?_
          refine OJ.nilck (d := 69) (y := .tmp 68) (by kernel_rfl) (by kernel_rfl) (by kernel_rfl) (by kernel_rfl) (by kernel_rfl) (fun p30 => ?_)
          refine OJ.run [2] [3, 4, 5, 6, 7, 8, 9, 10, 11, 12, 13, 14, 15] [0, 2, 7, 70] (m2 := [(0, .pointer a0), (2, .int .i64 a2), (7, .int .i64 x21), (70, .pointer (some (Addr.add p30 1)))]) (by kernel_rfl) (by kernel_rfl) ?_
          refine OJ.ld (d := 71) (T := 28) (y := .tmp 70) (pend2 := fun x31 => [⟨3, 28, (Addr.add p30 1), cL.val x31⟩]) (by kernel_rfl) (by kernel_rfl) Ty28 (by kernel_rfl) (by kernel_rfl) (fun _ => rfl) (fun x31 => ?_)
          refine OJ.run [4, 5] [6, 7, 8, 9, 10, 11, 12, 13, 14, 15] [0, 2, 7, 71, 72, 73] (m2 := [(0, .pointer a0), (2, .int .i64 a2), (7, .int .i64 x21), (71, Sl.v x31), (72, .int .i64 a2), (73, .pointer a0)]) (by kernel_rfl) (by kernel_rfl) ?_
          refine OJ.nilck (d := 74) (y := .tmp 73) (by kernel_rfl) (by kernel_rfl) (by kernel_rfl) (by kernel_rfl) (by kernel_rfl) (fun p32 => ?_)
          refine OJ.run [7] [8, 9, 10, 11, 12, 13, 14, 15] [0, 2, 7, 71, 72, 75] (m2 := [(0, .pointer a0), (2, .int .i64 a2), (7, .int .i64 x21), (71, Sl.v x31), (72, .int .i64 a2), (75, .pointer (some (Addr.add p32 1)))]) (by kernel_rfl) (by kernel_rfl) ?_
          refine OJ.ld (d := 76) (T := 28) (y := .tmp 75) (pend2 := fun x33 => [⟨8, 28, (Addr.add p32 1), cL.val x33⟩, ⟨3, 28, (Addr.add p30 1), cL.val x31⟩]) (by kernel_rfl) (by kernel_rfl) Ty28 (by kernel_rfl) (by kernel_rfl) (fun _ => rfl) (fun x33 => ?_)
          refine OJ.run [9] [10, 11, 12, 13, 14, 15] [0, 2, 7, 71, 72, 76, 77] (m2 := [(0, .pointer a0), (2, .int .i64 a2), (7, .int .i64 x21), (71, Sl.v x31), (72, .int .i64 a2), (76, Sl.v x33), (77, .int .i64 a2)]) (by kernel_rfl) (by kernel_rfl) ?_
          refine OJ.idxS (d := 78) (T := 28) (y := .tmp 76) (j := .tmp 77) (E := 3) (cap := x33.cap) (k := .i64) (by kernel_rfl) (by kernel_rfl) (by kernel_rfl) (by kernel_rfl) (by kernel_rfl) (by kernel_rfl) (by kernel_rfl) (by kernel_rfl) (fun p34 => ?_)
          refine OJ.ld (d := 79) (T := 3) (y := .tmp 78) (pend2 := fun x35 => [⟨11, 3, p34, (cI .i64).val x35⟩, ⟨8, 28, (Addr.add p32 1), cL.val x33⟩, ⟨3, 28, (Addr.add p30 1), cL.val x31⟩]) (by kernel_rfl) (by kernel_rfl) Ty3 (by kernel_rfl) (by kernel_rfl) (fun _ => rfl) (fun x35 => ?_)
          refine OJ.run [12, 13] [14, 15] [0, 2, 7, 71, 72, 81] (m2 := [(0, .pointer a0), (2, .int .i64 a2), (7, .int .i64 x21), (71, Sl.v x31), (72, .int .i64 a2), (81, .int .i64 (IntKind.wrap .i64 (x35 - x21)))]) (by kernel_rfl) (by kernel_rfl) ?_
          refine OJ.idxS (d := 82) (T := 28) (y := .tmp 71) (j := .tmp 72) (E := 3) (cap := x31.cap) (k := .i64) (by kernel_rfl) (by kernel_rfl) (by kernel_rfl) (by kernel_rfl) (by kernel_rfl) (by kernel_rfl) (by kernel_rfl) (by kernel_rfl) (fun p36 => ?_)
          refine OJ.st (T := 3) (y := .tmp 82) (z := .tmp 81) (owed := []) (by kernel_rfl) (by kernel_rfl) (by kernel_rfl) Ty3 (by kernel_rfl) (by kernel_rfl) ?_
          refine OW.nil ?_
          refine OJ.nil ?_
          refine SJ.seq (by kernel_rfl) ?_
          refine SJ.draw (id := 6) (kd := [0, 0, 0, 1, 0, 0, 0, 0, 1, 0, 0, 1, 0, 0, 0, 2]) (bef := [0, 1, 3, 7, 0, 0, 32, 96, 224, 0, 992, 2016, 0, 8160, 16383, 32767]) (ord := [0, 1, 2, 3, 4, 5, 6, 7, 8, 9, 10, 11, 12, 13, 14, 15]) (by kernel_rfl) mixed (by kernel_rfl) ?_
          refine OJ.run [0] [1, 2, 3, 4, 5, 6, 7, 8, 9, 10, 11, 12, 13, 14, 15] [0, 2, 7, 83] (m2 := [(0, .pointer a0), (2, .int .i64 a2), (7, .int .i64 x21), (83, .pointer a0)]) (by kernel_rfl) (by kernel_rfl) ?_
          refine OJ.nilck (d := 84) (y := .tmp 83) (by kernel_rfl) (by kernel_rfl) (by kernel_rfl) (by kernel_rfl) (by kernel_rfl) (fun p37 => ?_)
          refine OJ.run [2] [3, 4, 5, 6, 7, 8, 9, 10, 11, 12, 13, 14, 15] [0, 2, 7, 85] (m2 := [(0, .pointer a0), (2, .int .i64 a2), (7, .int .i64 x21), (85, .pointer (some (Addr.add p37 2)))]) (by kernel_rfl) (by kernel_rfl) ?_
          refine OJ.ld (d := 86) (T := 28) (y := .tmp 85) (pend2 := fun x38 => [⟨3, 28, (Addr.add p37 2), cL.val x38⟩]) (by kernel_rfl) (by kernel_rfl) Ty28 (by kernel_rfl) (by kernel_rfl) (fun _ => rfl) (fun x38 => ?_)
          refine OJ.run [4, 5] [6, 7, 8, 9, 10, 11, 12, 13, 14, 15] [2, 7, 86, 87, 88] (m2 := [(2, .int .i64 a2), (7, .int .i64 x21), (86, Sl.v x38), (87, .int .i64 a2), (88, .pointer a0)]) (by kernel_rfl) (by kernel_rfl) ?_
          refine OJ.nilck (d := 89) (y := .tmp 88) (by kernel_rfl) (by kernel_rfl) (by kernel_rfl) (by kernel_rfl) (by kernel_rfl) (fun p39 => ?_)
          refine OJ.run [7] [8, 9, 10, 11, 12, 13, 14, 15] [2, 7, 86, 87, 90] (m2 := [(2, .int .i64 a2), (7, .int .i64 x21), (86, Sl.v x38), (87, .int .i64 a2), (90, .pointer (some (Addr.add p39 2)))]) (by kernel_rfl) (by kernel_rfl) ?_
          refine OJ.ld (d := 91) (T := 28) (y := .tmp 90) (pend2 := fun x40 => [⟨8, 28, (Addr.add p39 2), cL.val x40⟩, ⟨3, 28, (Addr.add p37 2), cL.val x38⟩]) (by kernel_rfl) (by kernel_rfl) Ty28 (by kernel_rfl) (by kernel_rfl) (fun _ => rfl) (fun x40 => ?_)
          refine OJ.run [9] [10, 11, 12, 13, 14, 15] [7, 86, 87, 91, 92] (m2 := [(7, .int .i64 x21), (86, Sl.v x38), (87, .int .i64 a2), (91, Sl.v x40), (92, .int .i64 a2)]) (by kernel_rfl) (by kernel_rfl) ?_
          refine OJ.idxS (d := 93) (T := 28) (y := .tmp 91) (j := .tmp 92) (E := 3) (cap := x40.cap) (k := .i64) (by kernel_rfl) (by kernel_rfl) (by kernel_rfl) (by kernel_rfl) (by kernel_rfl) (by kernel_rfl) (by kernel_rfl) (by kernel_rfl) (fun p41 => ?_)
          refine OJ.ld (d := 94) (T := 3) (y := .tmp 93) (pend2 := fun x42 => [⟨11, 3, p41, (cI .i64).val x42⟩, ⟨8, 28, (Addr.add p39 2), cL.val x40⟩, ⟨3, 28, (Addr.add p37 2), cL.val x38⟩]) (by kernel_rfl) (by kernel_rfl) Ty3 (by kernel_rfl) (by kernel_rfl) (fun _ => rfl) (fun x42 => ?_)
          refine OJ.run [12, 13] [14, 15] [86, 87, 96] (m2 := [(86, Sl.v x38), (87, .int .i64 a2), (96, .int .i64 (IntKind.wrap .i64 (x42 + x21)))]) (by kernel_rfl) (by kernel_rfl) ?_
          refine OJ.idxS (d := 97) (T := 28) (y := .tmp 86) (j := .tmp 87) (E := 3) (cap := x38.cap) (k := .i64) (by kernel_rfl) (by kernel_rfl) (by kernel_rfl) (by kernel_rfl) (by kernel_rfl) (by kernel_rfl) (by kernel_rfl) (by kernel_rfl) (fun p43 => ?_)
          refine OJ.st (T := 3) (y := .tmp 97) (z := .tmp 96) (owed := []) (by kernel_rfl) (by kernel_rfl) (by kernel_rfl) Ty3 (by kernel_rfl) (by kernel_rfl) ?_
          refine OW.nil ?_
          refine OJ.nil ?_
          refine SJ.seq (by kernel_rfl) ?_
          refine SJ.region (id := 7) (by kernel_rfl) [0] (by kernel_rfl) ?_
          refine OJ.run [0] [] [6] (m2 := [(6, .bool true)]) (by kernel_rfl) (by kernel_rfl) ?_
          refine OJ.nil ?_
          exact SJ.ret (by kernel_rfl) rfl (Res.run (ys := [.bool true]) (.tmp (by kernel_rfl) .nil) rfl)

/-! ### weir/weirlaw18.even: function 29 -/
noncomputable def weirlaw18_even.B : Code := (Try.f29.body).getD .skip
noncomputable def weirlaw18_even.cx : Fx := ⟨Try.prog, 29, Try.f29⟩
noncomputable def weirlaw18_even.out (r_ : Bool) : Value := .bool r_
noncomputable def weirlaw18_even.F0 (r_ : Bool) : Reach := .ret (weirlaw18_even.out r_)
noncomputable def weirlaw18_even.F1 (a0 : Sl) (a1 : Sl) (a2 : Sl) (a3 : Sl) (a4 : Int) (a5 : Int) : (LS Int Bool) → Reach := loopF [.inLoop (c1 (c1 (c2 (c1 (c2 weirlaw18_even.B))))), .inBlock 0, .code (c2 (c2 weirlaw18_even.B))] (fun s_ : Int => [(0, Sl.v a0), (1, Sl.v a1), (2, Sl.v a2), (3, Sl.v a3), (4, .int .i64 a4), (5, .int .i64 a5), (13, .int .i64 s_)]) (fun s_ : Int => []) weirlaw18_even.F0
noncomputable def weirlaw18_even.F2 (a0 : Sl) (a1 : Sl) (a2 : Sl) (a3 : Sl) (a4 : Int) (a5 : Int) (s1 : Int) : (LS Int (LS Int Bool)) → Reach := loopF [.inLoop (c1 (c1 (c2 (c1 (c1 (c2 (c1 (c1 (c2 (c1 (c2 weirlaw18_even.B))))))))))), .inBlock 2, .inBlock 1, .code (c2 (c2 (c1 (c1 (c2 (c1 (c2 weirlaw18_even.B))))))), .inLoop (c1 (c1 (c2 (c1 (c2 weirlaw18_even.B))))), .inBlock 0, .code (c2 (c2 weirlaw18_even.B))] (fun s_ : Int => [(0, Sl.v a0), (1, Sl.v a1), (2, Sl.v a2), (3, Sl.v a3), (4, .int .i64 a4), (5, .int .i64 a5), (13, .int .i64 s1), (14, .int .i64 s_)]) (fun s_ : Int => []) (weirlaw18_even.F1 a0 a1 a2 a3 a4 a5)
noncomputable def weirlaw18_even.K1 (a0 : Sl) (a1 : Sl) (s1 : Int) (s96 : Int) : M (LS Int (LS Int Bool)) :=
  draw >>= fun _ =>
  idx a1.a a1.len (IntKind.wrap .i64 ((IntKind.wrap .i64 (s1 * (a0.len : Int))) + s96)) 2 >>= fun p162 =>
  ld (cI .i64) p162 >>= fun x163 =>
  idx a0.a a0.len s96 5 >>= fun p164 =>
  ld (cI .i64) p164 >>= fun x165 =>
  idx a1.a a1.len (IntKind.wrap .i64 ((IntKind.wrap .i64 (s1 * (a0.len : Int))) + s96)) 2 >>= fun p166 =>
  ld (cI .i64) (Addr.add p166 1) >>= fun x167 =>
  idx a0.a a0.len s1 5 >>= fun p168 =>
  ld (cI .i64) p168 >>= fun x169 =>
  idx a0.a a0.len s1 5 >>= fun p170 =>
  ld (cI .i64) p170 >>= fun x171 =>
  idx a0.a a0.len s96 5 >>= fun p172 =>
  ld (cI .i64) p172 >>= fun x173 =>
  idx a0.a a0.len s1 5 >>= fun p174 =>
  ld (cI .i64) p174 >>= fun x175 =>
  idx a0.a a0.len s96 5 >>= fun p176 =>
  ld (cI .i64) p176 >>= fun x177 =>
  if (IntKind.wrap .i64 ((IntKind.wrap .i64 (x163 * x165)) - (IntKind.wrap .i64 (x167 * x169)))) > (IntKind.wrap .i64 ((IntKind.wrap .i64 ((IntKind.wrap .i64 (2 * x171)) * x173)) + (IntKind.wrap .i64 (65535 * (IntKind.wrap .i64 (x175 + x177)))))) then
    pure (LS.done (LS.done false))
  else
    pure (LS.next (IntKind.wrap .i64 (s96 + 1)))
theorem weirlaw18_even.K1_ok (a0 : Sl) (a1 : Sl) (a2 : Sl) (a3 : Sl) (a4 : Int) (a5 : Int) (s1 : Int) (s96 : Int) :
    SJ weirlaw18_even.cx [.code (c2 (c2 (c2 (c2 (c1 (c1 (c2 (c1 (c1 (c2 (c1 (c1 (c2 (c1 (c1 (c2 (c1 (c2 weirlaw18_even.B)))))))))))))))))), .inBlock 3, .code (c2 (c2 (c1 (c1 (c2 (c1 (c1 (c2 (c1 (c1 (c2 (c1 (c2 weirlaw18_even.B))))))))))))), .inLoop (c1 (c1 (c2 (c1 (c1 (c2 (c1 (c1 (c2 (c1 (c2 weirlaw18_even.B))))))))))), .inBlock 2, .inBlock 1, .code (c2 (c2 (c1 (c1 (c2 (c1 (c2 weirlaw18_even.B))))))), .inLoop (c1 (c1 (c2 (c1 (c2 weirlaw18_even.B))))), .inBlock 0, .code (c2 (c2 weirlaw18_even.B))] [(0, Sl.v a0), (1, Sl.v a1), (2, Sl.v a2), (3, Sl.v a3), (4, .int .i64 a4), (5, .int .i64 a5), (13, .int .i64 s1), (14, .int .i64 s96), (15, .int .i64 (IntKind.wrap .i64 ((IntKind.wrap .i64 (s1 * (a0.len : Int))) + s96)))] [] (weirlaw18_even.K1 a0 a1 s1 s96) (weirlaw18_even.F2 a0 a1 a2 a3 a4 a5 s1) := by
  unfold weirlaw18_even.K1
  refine SJ.seq (by kernel_rfl) ?_
  refine SJ.draw (id := 14) (kd := [0, 0, 0, 0, 1, 0, 0, 0, 0, 1, 0, 0, 0, 0, 0, 1, 0, 0, 0, 0, 1, 0, 0, 0, 0, 0, 0, 1, 0, 0, 0, 0, 0, 1, 0, 0, 0, 0, 0, 1, 0, 0, 0, 0, 1, 0, 0, 0, 0]) (bef := [0, 0, 3, 7, 15, 0, 0, 96, 224, 480, 1023, 0, 0, 6144, 14336, 30720, 0, 0, 196608, 458752, 983040, 2095104, 4194303, 0, 0, 25165824, 58720256, 125829120, 260046848, 0, 0, 1610612736, 3758096384, 8053063680, 17171480576, 0, 0, 103079215104, 240518168576, 515396075520, 0, 0, 3298534883328, 7696581394432, 16492674416640, 35150012350464, 70334384439296, 140737479966720, 281474976710655]) (ord := [0, 1, 2, 3, 4, 5, 6, 7, 8, 9, 10, 11, 12, 13, 14, 15, 16, 17, 18, 19, 20, 21, 22, 23, 24, 25, 26, 27, 28, 29, 30, 31, 32, 33, 34, 35, 36, 37, 38, 39, 40, 41, 42, 43, 44, 45, 46, 47, 48]) (by kernel_rfl) mixed (by kernel_rfl) ?_
  refine OJ.run [0, 1] [2, 3, 4, 5, 6, 7, 8, 9, 10, 11, 12, 13, 14, 15, 16, 17, 18, 19, 20, 21, 22, 23, 24, 25, 26, 27, 28, 29, 30, 31, 32, 33, 34, 35, 36, 37, 38, 39, 40, 41, 42, 43, 44, 45, 46, 47, 48] [0, 1, 2, 3, 4, 5, 13, 14, 15, 92, 93] (m2 := [(0, Sl.v a0), (1, Sl.v a1), (2, Sl.v a2), (3, Sl.v a3), (4, .int .i64 a4), (5, .int .i64 a5), (13, .int .i64 s1), (14, .int .i64 s96), (15, .int .i64 (IntKind.wrap .i64 ((IntKind.wrap .i64 (s1 * (a0.len : Int))) + s96))), (92, Sl.v a1), (93, .int .i64 (IntKind.wrap .i64 ((IntKind.wrap .i64 (s1 * (a0.len : Int))) + s96)))]) (by kernel_rfl) (by kernel_rfl) ?_
  refine OJ.idxS (d := 94) (T := 56) (y := .tmp 92) (j := .tmp 93) (E := 111) (cap := a1.cap) (k := .i64) (by kernel_rfl) (by kernel_rfl) (by kernel_rfl) (by kernel_rfl) (by kernel_rfl) (by kernel_rfl) (by kernel_rfl) (by kernel_rfl) (fun p162 => ?_)
  refine OJ.run [3] [4, 5, 6, 7, 8, 9, 10, 11, 12, 13, 14, 15, 16, 17, 18, 19, 20, 21, 22, 23, 24, 25, 26, 27, 28, 29, 30, 31, 32, 33, 34, 35, 36, 37, 38, 39, 40, 41, 42, 43, 44, 45, 46, 47, 48] [0, 1, 2, 3, 4, 5, 13, 14, 15, 95] (m2 := [(0, Sl.v a0), (1, Sl.v a1), (2, Sl.v a2), (3, Sl.v a3), (4, .int .i64 a4), (5, .int .i64 a5), (13, .int .i64 s1), (14, .int .i64 s96), (15, .int .i64 (IntKind.wrap .i64 ((IntKind.wrap .i64 (s1 * (a0.len : Int))) + s96))), (95, .pointer (some p162))]) (by kernel_rfl) (by kernel_rfl) ?_
  refine OJ.ld (d := 96) (T := 3) (y := .tmp 95) (pend2 := fun x163 => [⟨4, 3, p162, (cI .i64).val x163⟩]) (by kernel_rfl) (by kernel_rfl) Ty3 (by kernel_rfl) (by kernel_rfl) (fun _ => rfl) (fun x163 => ?_)
  refine OJ.run [5, 6] [7, 8, 9, 10, 11, 12, 13, 14, 15, 16, 17, 18, 19, 20, 21, 22, 23, 24, 25, 26, 27, 28, 29, 30, 31, 32, 33, 34, 35, 36, 37, 38, 39, 40, 41, 42, 43, 44, 45, 46, 47, 48] [0, 1, 2, 3, 4, 5, 13, 14, 15, 96, 97, 98] (m2 := [(0, Sl.v a0), (1, Sl.v a1), (2, Sl.v a2), (3, Sl.v a3), (4, .int .i64 a4), (5, .int .i64 a5), (13, .int .i64 s1), (14, .int .i64 s96), (15, .int .i64 (IntKind.wrap .i64 ((IntKind.wrap .i64 (s1 * (a0.len : Int))) + s96))), (96, .int .i64 x163), (97, Sl.v a0), (98, .int .i64 s96)]) (by kernel_rfl) (by kernel_rfl) ?_
  refine OJ.idxS (d := 99) (T := 27) (y := .tmp 97) (j := .tmp 98) (E := 41) (cap := a0.cap) (k := .i64) (by kernel_rfl) (by kernel_rfl) (by kernel_rfl) (by kernel_rfl) (by kernel_rfl) (by kernel_rfl) (by kernel_rfl) (by kernel_rfl) (fun p164 => ?_)
  refine OJ.run [8] [9, 10, 11, 12, 13, 14, 15, 16, 17, 18, 19, 20, 21, 22, 23, 24, 25, 26, 27, 28, 29, 30, 31, 32, 33, 34, 35, 36, 37, 38, 39, 40, 41, 42, 43, 44, 45, 46, 47, 48] [0, 1, 2, 3, 4, 5, 13, 14, 15, 96, 100] (m2 := [(0, Sl.v a0), (1, Sl.v a1), (2, Sl.v a2), (3, Sl.v a3), (4, .int .i64 a4), (5, .int .i64 a5), (13, .int .i64 s1), (14, .int .i64 s96), (15, .int .i64 (IntKind.wrap .i64 ((IntKind.wrap .i64 (s1 * (a0.len : Int))) + s96))), (96, .int .i64 x163), (100, .pointer (some p164))]) (by kernel_rfl) (by kernel_rfl) ?_
  refine OJ.ld (d := 101) (T := 3) (y := .tmp 100) (pend2 := fun x165 => [⟨9, 3, p164, (cI .i64).val x165⟩, ⟨4, 3, p162, (cI .i64).val x163⟩]) (by kernel_rfl) (by kernel_rfl) Ty3 (by kernel_rfl) (by kernel_rfl) (fun _ => rfl) (fun x165 => ?_)
  refine OJ.run [10, 11, 12] [13, 14, 15, 16, 17, 18, 19, 20, 21, 22, 23, 24, 25, 26, 27, 28, 29, 30, 31, 32, 33, 34, 35, 36, 37, 38, 39, 40, 41, 42, 43, 44, 45, 46, 47, 48] [0, 1, 2, 3, 4, 5, 13, 14, 102, 103, 104] (m2 := [(0, Sl.v a0), (1, Sl.v a1), (2, Sl.v a2), (3, Sl.v a3), (4, .int .i64 a4), (5, .int .i64 a5), (13, .int .i64 s1), (14, .int .i64 s96), (102, .int .i64 (IntKind.wrap .i64 (x163 * x165))), (103, Sl.v a1), (104, .int .i64 (IntKind.wrap .i64 ((IntKind.wrap .i64 (s1 * (a0.len : Int))) + s96)))]) (by kernel_rfl) (by kernel_rfl) ?_
  refine OJ.idxS (d := 105) (T := 56) (y := .tmp 103) (j := .tmp 104) (E := 111) (cap := a1.cap) (k := .i64) (by kernel_rfl) (by kernel_rfl) (by kernel_rfl) (by kernel_rfl) (by kernel_rfl) (by kernel_rfl) (by kernel_rfl) (by kernel_rfl) (fun p166 => ?_)
  refine OJ.run [14] [15, 16, 17, 18, 19, 20, 21, 22, 23, 24, 25, 26, 27, 28, 29, 30, 31, 32, 33, 34, 35, 36, 37, 38, 39, 40, 41, 42, 43, 44, 45, 46, 47, 48] [0, 1, 2, 3, 4, 5, 13, 14, 102, 106] (m2 := [(0, Sl.v a0), (1, Sl.v a1), (2, Sl.v a2), (3, Sl.v a3), (4, .int .i64 a4), (5, .int .i64 a5), (13, .int .i64 s1), (14, .int .i64 s96), (102, .int .i64 (IntKind.wrap .i64 (x163 * x165))), (106, .pointer (some (Addr.add p166 1)))]) (by kernel_rfl) (by kernel_rfl) ?_
  refine OJ.ld (d := 107) (T := 3) (y := .tmp 106) (pend2 := fun x167 => [⟨15, 3, (Addr.add p166 1), (cI .i64).val x167⟩, ⟨9, 3, p164, (cI .i64).val x165⟩, ⟨4, 3, p162, (cI .i64).val x163⟩]) (by kernel_rfl) (by kernel_rfl) Ty3 (by kernel_rfl) (by kernel_rfl) (fun _ => rfl) (fun x167 => ?_)
  refine OJ.run [16, 17] [18, 19, 20, 21, 22, 23, 24, 25, 26, 27, 28, 29, 30, 31, 32, 33, 34, 35, 36, 37, 38, 39, 40, 41, 42, 43, 44, 45, 46, 47, 48] [0, 1, 2, 3, 4, 5, 13, 14, 102, 107, 108, 109] (m2 := [(0, Sl.v a0), (1, Sl.v a1), (2, Sl.v a2), (3, Sl.v a3), (4, .int .i64 a4), (5, .int .i64 a5), (13, .int .i64 s1), (14, .int .i64 s96), (102, .int .i64 (IntKind.wrap .i64 (x163 * x165))), (107, .int .i64 x167), (108, Sl.v a0), (109, .int .i64 s1)]) (by kernel_rfl) (by kernel_rfl) ?_
  refine OJ.idxS (d := 110) (T := 27) (y := .tmp 108) (j := .tmp 109) (E := 41) (cap := a0.cap) (k := .i64) (by kernel_rfl) (by kernel_rfl) (by kernel_rfl) (by kernel_rfl) (by kernel_rfl) (by kernel_rfl) (by kernel_rfl) (by kernel_rfl) (fun p168 => ?_)
  refine OJ.run [19] [20, 21, 22, 23, 24, 25, 26, 27, 28, 29, 30, 31, 32, 33, 34, 35, 36, 37, 38, 39, 40, 41, 42, 43, 44, 45, 46, 47, 48] [0, 1, 2, 3, 4, 5, 13, 14, 102, 107, 111] (m2 := [(0, Sl.v a0), (1, Sl.v a1), (2, Sl.v a2), (3, Sl.v a3), (4, .int .i64 a4), (5, .int .i64 a5), (13, .int .i64 s1), (14, .int .i64 s96), (102, .int .i64 (IntKind.wrap .i64 (x163 * x165))), (107, .int .i64 x167), (111, .pointer (some p168))]) (by kernel_rfl) (by kernel_rfl) ?_
  refine OJ.ld (d := 112) (T := 3) (y := .tmp 111) (pend2 := fun x169 => [⟨20, 3, p168, (cI .i64).val x169⟩, ⟨15, 3, (Addr.add p166 1), (cI .i64).val x167⟩, ⟨9, 3, p164, (cI .i64).val x165⟩, ⟨4, 3, p162, (cI .i64).val x163⟩]) (by kernel_rfl) (by kernel_rfl) Ty3 (by kernel_rfl) (by kernel_rfl) (fun _ => rfl) (fun x169 => ?_)
  refine OJ.run [21, 22, 23, 24] [25, 26, 27, 28, 29, 30, 31, 32, 33, 34, 35, 36, 37, 38, 39, 40, 41, 42, 43, 44, 45, 46, 47, 48] [0, 1, 2, 3, 4, 5, 13, 14, 114, 115, 116] (m2 := [(0, Sl.v a0), (1, Sl.v a1), (2, Sl.v a2), (3, Sl.v a3), (4, .int .i64 a4), (5, .int .i64 a5), (13, .int .i64 s1), (14, .int .i64 s96), (114, .int .i64 (IntKind.wrap .i64 ((IntKind.wrap .i64 (x163 * x165)) - (IntKind.wrap .i64 (x167 * x169))))), (115, Sl.v a0), (116, .int .i64 s1)]) (by kernel_rfl) (by kernel_rfl) ?_
  refine OJ.idxS (d := 117) (T := 27) (y := .tmp 115) (j := .tmp 116) (E := 41) (cap := a0.cap) (k := .i64) (by kernel_rfl) (by kernel_rfl) (by kernel_rfl) (by kernel_rfl) (by kernel_rfl) (by kernel_rfl) (by kernel_rfl) (by kernel_rfl) (fun p170 => ?_)
  refine OJ.run [26] [27, 28, 29, 30, 31, 32, 33, 34, 35, 36, 37, 38, 39, 40, 41, 42, 43, 44, 45, 46, 47, 48] [0, 1, 2, 3, 4, 5, 13, 14, 114, 118] (m2 := [(0, Sl.v a0), (1, Sl.v a1), (2, Sl.v a2), (3, Sl.v a3), (4, .int .i64 a4), (5, .int .i64 a5), (13, .int .i64 s1), (14, .int .i64 s96), (114, .int .i64 (IntKind.wrap .i64 ((IntKind.wrap .i64 (x163 * x165)) - (IntKind.wrap .i64 (x167 * x169))))), (118, .pointer (some p170))]) (by kernel_rfl) (by kernel_rfl) ?_
  refine OJ.ld (d := 119) (T := 3) (y := .tmp 118) (pend2 := fun x171 => [⟨27, 3, p170, (cI .i64).val x171⟩, ⟨20, 3, p168, (cI .i64).val x169⟩, ⟨15, 3, (Addr.add p166 1), (cI .i64).val x167⟩, ⟨9, 3, p164, (cI .i64).val x165⟩, ⟨4, 3, p162, (cI .i64).val x163⟩]) (by kernel_rfl) (by kernel_rfl) Ty3 (by kernel_rfl) (by kernel_rfl) (fun _ => rfl) (fun x171 => ?_)
  refine OJ.run [28, 29, 30] [31, 32, 33, 34, 35, 36, 37, 38, 39, 40, 41, 42, 43, 44, 45, 46, 47, 48] [0, 1, 2, 3, 4, 5, 13, 14, 114, 120, 121, 122] (m2 := [(0, Sl.v a0), (1, Sl.v a1), (2, Sl.v a2), (3, Sl.v a3), (4, .int .i64 a4), (5, .int .i64 a5), (13, .int .i64 s1), (14, .int .i64 s96), (114, .int .i64 (IntKind.wrap .i64 ((IntKind.wrap .i64 (x163 * x165)) - (IntKind.wrap .i64 (x167 * x169))))), (120, .int .i64 (IntKind.wrap .i64 (2 * x171))), (121, Sl.v a0), (122, .int .i64 s96)]) (by kernel_rfl) (by kernel_rfl) ?_
  refine OJ.idxS (d := 123) (T := 27) (y := .tmp 121) (j := .tmp 122) (E := 41) (cap := a0.cap) (k := .i64) (by kernel_rfl) (by kernel_rfl) (by kernel_rfl) (by kernel_rfl) (by kernel_rfl) (by kernel_rfl) (by kernel_rfl) (by kernel_rfl) (fun p172 => ?_)
  refine OJ.run [32] [33, 34, 35, 36, 37, 38, 39, 40, 41, 42, 43, 44, 45, 46, 47, 48] [0, 1, 2, 3, 4, 5, 13, 14, 114, 120, 124] (m2 := [(0, Sl.v a0), (1, Sl.v a1), (2, Sl.v a2), (3, Sl.v a3), (4, .int .i64 a4), (5, .int .i64 a5), (13, .int .i64 s1), (14, .int .i64 s96), (114, .int .i64 (IntKind.wrap .i64 ((IntKind.wrap .i64 (x163 * x165)) - (IntKind.wrap .i64 (x167 * x169))))), (120, .int .i64 (IntKind.wrap .i64 (2 * x171))), (124, .pointer (some p172))]) (by kernel_rfl) (by kernel_rfl) ?_
  refine OJ.ld (d := 125) (T := 3) (y := .tmp 124) (pend2 := fun x173 => [⟨33, 3, p172, (cI .i64).val x173⟩, ⟨27, 3, p170, (cI .i64).val x171⟩, ⟨20, 3, p168, (cI .i64).val x169⟩, ⟨15, 3, (Addr.add p166 1), (cI .i64).val x167⟩, ⟨9, 3, p164, (cI .i64).val x165⟩, ⟨4, 3, p162, (cI .i64).val x163⟩]) (by kernel_rfl) (by kernel_rfl) Ty3 (by kernel_rfl) (by kernel_rfl) (fun _ => rfl) (fun x173 => ?_)
  refine OJ.run [34, 35, 36] [37, 38, 39, 40, 41, 42, 43, 44, 45, 46, 47, 48] [0, 1, 2, 3, 4, 5, 13, 14, 114, 126, 127, 128] (m2 := [(0, Sl.v a0), (1, Sl.v a1), (2, Sl.v a2), (3, Sl.v a3), (4, .int .i64 a4), (5, .int .i64 a5), (13, .int .i64 s1), (14, .int .i64 s96), (114, .int .i64 (IntKind.wrap .i64 ((IntKind.wrap .i64 (x163 * x165)) - (IntKind.wrap .i64 (x167 * x169))))), (126, .int .i64 (IntKind.wrap .i64 ((IntKind.wrap .i64 (2 * x171)) * x173))), (127, Sl.v a0), (128, .int .i64 s1)]) (by kernel_rfl) (by kernel_rfl) ?_
  refine OJ.idxS (d := 129) (T := 27) (y := .tmp 127) (j := .tmp 128) (E := 41) (cap := a0.cap) (k := .i64) (by kernel_rfl) (by kernel_rfl) (by kernel_rfl) (by kernel_rfl) (by kernel_rfl) (by kernel_rfl) (by kernel_rfl) (by kernel_rfl) (fun p174 => ?_)
  refine OJ.run [38] [39, 40, 41, 42, 43, 44, 45, 46, 47, 48] [0, 1, 2, 3, 4, 5, 13, 14, 114, 126, 130] (m2 := [(0, Sl.v a0), (1, Sl.v a1), (2, Sl.v a2), (3, Sl.v a3), (4, .int .i64 a4), (5, .int .i64 a5), (13, .int .i64 s1), (14, .int .i64 s96), (114, .int .i64 (IntKind.wrap .i64 ((IntKind.wrap .i64 (x163 * x165)) - (IntKind.wrap .i64 (x167 * x169))))), (126, .int .i64 (IntKind.wrap .i64 ((IntKind.wrap .i64 (2 * x171)) * x173))), (130, .pointer (some p174))]) (by kernel_rfl) (by kernel_rfl) ?_
  refine OJ.ld (d := 131) (T := 3) (y := .tmp 130) (pend2 := fun x175 => [⟨39, 3, p174, (cI .i64).val x175⟩, ⟨33, 3, p172, (cI .i64).val x173⟩, ⟨27, 3, p170, (cI .i64).val x171⟩, ⟨20, 3, p168, (cI .i64).val x169⟩, ⟨15, 3, (Addr.add p166 1), (cI .i64).val x167⟩, ⟨9, 3, p164, (cI .i64).val x165⟩, ⟨4, 3, p162, (cI .i64).val x163⟩]) (by kernel_rfl) (by kernel_rfl) Ty3 (by kernel_rfl) (by kernel_rfl) (fun _ => rfl) (fun x175 => ?_)
  refine OJ.run [40, 41] [42, 43, 44, 45, 46, 47, 48] [0, 1, 2, 3, 4, 5, 13, 14, 114, 126, 131, 132, 133] (m2 := [(0, Sl.v a0), (1, Sl.v a1), (2, Sl.v a2), (3, Sl.v a3), (4, .int .i64 a4), (5, .int .i64 a5), (13, .int .i64 s1), (14, .int .i64 s96), (114, .int .i64 (IntKind.wrap .i64 ((IntKind.wrap .i64 (x163 * x165)) - (IntKind.wrap .i64 (x167 * x169))))), (126, .int .i64 (IntKind.wrap .i64 ((IntKind.wrap .i64 (2 * x171)) * x173))), (131, .int .i64 x175), (132, Sl.v a0), (133, .int .i64 s96)]) (by kernel_rfl) (by kernel_rfl) ?_
  refine OJ.idxS (d := 134) (T := 27) (y := .tmp 132) (j := .tmp 133) (E := 41) (cap := a0.cap) (k := .i64) (by kernel_rfl) (by kernel_rfl) (by kernel_rfl) (by kernel_rfl) (by kernel_rfl) (by kernel_rfl) (by kernel_rfl) (by kernel_rfl) (fun p176 => ?_)
  refine OJ.run [43] [44, 45, 46, 47, 48] [0, 1, 2, 3, 4, 5, 13, 14, 114, 126, 131, 135] (m2 := [(0, Sl.v a0), (1, Sl.v a1), (2, Sl.v a2), (3, Sl.v a3), (4, .int .i64 a4), (5, .int .i64 a5), (13, .int .i64 s1), (14, .int .i64 s96), (114, .int .i64 (IntKind.wrap .i64 ((IntKind.wrap .i64 (x163 * x165)) - (IntKind.wrap .i64 (x167 * x169))))), (126, .int .i64 (IntKind.wrap .i64 ((IntKind.wrap .i64 (2 * x171)) * x173))), (131, .int .i64 x175), (135, .pointer (some p176))]) (by kernel_rfl) (by kernel_rfl) ?_
  refine OJ.ld (d := 136) (T := 3) (y := .tmp 135) (pend2 := fun x177 => [⟨44, 3, p176, (cI .i64).val x177⟩, ⟨39, 3, p174, (cI .i64).val x175⟩, ⟨33, 3, p172, (cI .i64).val x173⟩, ⟨27, 3, p170, (cI .i64).val x171⟩, ⟨20, 3, p168, (cI .i64).val x169⟩, ⟨15, 3, (Addr.add p166 1), (cI .i64).val x167⟩, ⟨9, 3, p164, (cI .i64).val x165⟩, ⟨4, 3, p162, (cI .i64).val x163⟩]) (by kernel_rfl) (by kernel_rfl) Ty3 (by kernel_rfl) (by kernel_rfl) (fun _ => rfl) (fun x177 => ?_)
  refine OJ.run [45, 46, 47, 48] [] [0, 1, 2, 3, 4, 5, 13, 14, 140] (m2 := [(0, Sl.v a0), (1, Sl.v a1), (2, Sl.v a2), (3, Sl.v a3), (4, .int .i64 a4), (5, .int .i64 a5), (13, .int .i64 s1), (14, .int .i64 s96), (140, .bool (decide ((IntKind.wrap .i64 ((IntKind.wrap .i64 (x163 * x165)) - (IntKind.wrap .i64 (x167 * x169)))) > (IntKind.wrap .i64 ((IntKind.wrap .i64 ((IntKind.wrap .i64 (2 * x171)) * x173)) + (IntKind.wrap .i64 (65535 * (IntKind.wrap .i64 (x175 + x177)))))))))]) (by kernel_rfl) (by kernel_rfl) ?_
  refine OJ.nil ?_
  refine SJ.cond (t := (.tmp 140)) (b := decide ((IntKind.wrap .i64 ((IntKind.wrap .i64 (x163 * x165)) - (IntKind.wrap .i64 (x167 * x169)))) > (IntKind.wrap .i64 ((IntKind.wrap .i64 ((IntKind.wrap .i64 (2 * x171)) * x173)) + (IntKind.wrap .i64 (65535 * (IntKind.wrap .i64 (x175 + x177)))))))) (by kernel_rfl) (by kernel_rfl) decide_eq_true_iff (fun hc178 => ?_) (fun hc178 => ?_)
  · refine SJ.seq (by kernel_rfl) ?_
    refine SJ.region (id := 15) (by kernel_rfl) [0] (by kernel_rfl) ?_
    refine OJ.run [0] [] [12] (m2 := [(12, .bool false)]) (by kernel_rfl) (by kernel_rfl) ?_
    refine OJ.nil ?_
    exact SJ.ret (by kernel_rfl) rfl (Res.run (ys := [.bool false]) (.tmp (by kernel_rfl) .nil) rfl)
  · refine SJ.skip (by kernel_rfl) ?_
    refine SJ.inBlock ?_
    refine SJ.region (id := 6) (by kernel_rfl) [0, 1, 2] (by kernel_rfl) ?_
    refine OJ.run [0, 1, 2] [] [0, 1, 2, 3, 4, 5, 13, 14] (m2 := [(0, Sl.v a0), (1, Sl.v a1), (2, Sl.v a2), (3, Sl.v a3), (4, .int .i64 a4), (5, .int .i64 a5), (13, .int .i64 s1), (14, .int .i64 (IntKind.wrap .i64 (s96 + 1)))]) (by kernel_rfl) (by kernel_rfl) ?_
    refine OJ.nil ?_
    exact SJ.at_ [0, 1, 2, 3, 4, 5, 13, 14] rfl (by kernel_rfl)
noncomputable def weirlaw18_even.K2 (a0 : Sl) (a1 : Sl) (a4 : Int) (a5 : Int) (s1 : Int) (s96 : Int) : M (LS Int (LS Int Bool)) :=
  if s96 = a4 then
    idx a1.a a1.len (IntKind.wrap .i64 ((IntKind.wrap .i64 (s1 * (a0.len : Int))) + s96)) 2 >>= fun p179 =>
    ld (cI .i64) (Addr.add p179 1) >>= fun x180 =>
    idx a1.a a1.len (IntKind.wrap .i64 ((IntKind.wrap .i64 (s1 * (a0.len : Int))) + s96)) 2 >>= fun p181 =>
    st (cI .i64) (Addr.add p181 1) (IntKind.wrap .i64 (x180 + a5)) >>= fun _ =>
    weirlaw18_even.K1 a0 a1 s1 s96
  else
    weirlaw18_even.K1 a0 a1 s1 s96
theorem weirlaw18_even.K2_ok (a0 : Sl) (a1 : Sl) (a2 : Sl) (a3 : Sl) (a4 : Int) (a5 : Int) (s1 : Int) (s96 : Int) :
    SJ weirlaw18_even.cx [.code (c2 (c2 (c2 (c1 (c1 (c2 (c1 (c1 (c2 (c1 (c1 (c2 (c1 (c1 (c2 (c1 (c2 weirlaw18_even.B))))))))))))))))), .inBlock 3, .code (c2 (c2 (c1 (c1 (c2 (c1 (c1 (c2 (c1 (c1 (c2 (c1 (c2 weirlaw18_even.B))))))))))))), .inLoop (c1 (c1 (c2 (c1 (c1 (c2 (c1 (c1 (c2 (c1 (c2 weirlaw18_even.B))))))))))), .inBlock 2, .inBlock 1, .code (c2 (c2 (c1 (c1 (c2 (c1 (c2 weirlaw18_even.B))))))), .inLoop (c1 (c1 (c2 (c1 (c2 weirlaw18_even.B))))), .inBlock 0, .code (c2 (c2 weirlaw18_even.B))] [(0, Sl.v a0), (1, Sl.v a1), (2, Sl.v a2), (3, Sl.v a3), (4, .int .i64 a4), (5, .int .i64 a5), (13, .int .i64 s1), (14, .int .i64 s96), (15, .int .i64 (IntKind.wrap .i64 ((IntKind.wrap .i64 (s1 * (a0.len : Int))) + s96)))] [] (weirlaw18_even.K2 a0 a1 a4 a5 s1 s96) (weirlaw18_even.F2 a0 a1 a2 a3 a4 a5 s1) := by
  unfold weirlaw18_even.K2
  refine SJ.seq (by kernel_rfl) ?_
  refine SJ.seq (by kernel_rfl) ?_
  refine SJ.region (id := 12) (by kernel_rfl) [0, 1, 2] (by kernel_rfl) ?_
  refine OJ.run [0, 1, 2] [] [0, 1, 2, 3, 4, 5, 13, 14, 15, 80] (m2 := [(0, Sl.v a0), (1, Sl.v a1), (2, Sl.v a2), (3, Sl.v a3), (4, .int .i64 a4), (5, .int .i64 a5), (13, .int .i64 s1), (14, .int .i64 s96), (15, .int .i64 (IntKind.wrap .i64 ((IntKind.wrap .i64 (s1 * (a0.len : Int))) + s96))), (80, .bool (s96 == a4))]) (by kernel_rfl) (by kernel_rfl) ?_
  refine OJ.nil ?_
  refine SJ.cond (t := (.tmp 80)) (b := (s96 == a4)) (by kernel_rfl) (by kernel_rfl) beq_iff_eq (fun hc182 => ?_) (fun hc182 => ?_)
  · refine SJ.region (id := 13) (by kernel_rfl) [0, 1, 2, 3, 4, 5, 6, 7, 8, 9, 10, 11] (by kernel_rfl) ?_
    refine OJ.run [0, 1, 2, 3] [4, 5, 6, 7, 8, 9, 10, 11] [0, 1, 2, 3, 4, 5, 13, 14, 15, 81, 82, 83, 84] (m2 := [(0, Sl.v a0), (1, Sl.v a1), (2, Sl.v a2), (3, Sl.v a3), (4, .int .i64 a4), (5, .int .i64 a5), (13, .int .i64 s1), (14, .int .i64 s96), (15, .int .i64 (IntKind.wrap .i64 ((IntKind.wrap .i64 (s1 * (a0.len : Int))) + s96))), (81, Sl.v a1), (82, .int .i64 (IntKind.wrap .i64 ((IntKind.wrap .i64 (s1 * (a0.len : Int))) + s96))), (83, Sl.v a1), (84, .int .i64 (IntKind.wrap .i64 ((IntKind.wrap .i64 (s1 * (a0.len : Int))) + s96)))]) (by kernel_rfl) (by kernel_rfl) ?_
    refine OJ.idxS (d := 85) (T := 56) (y := .tmp 83) (j := .tmp 84) (E := 111) (cap := a1.cap) (k := .i64) (by kernel_rfl) (by kernel_rfl) (by kernel_rfl) (by kernel_rfl) (by kernel_rfl) (by kernel_rfl) (by kernel_rfl) (by kernel_rfl) (fun p179 => ?_)
    refine OJ.run [5] [6, 7, 8, 9, 10, 11] [0, 1, 2, 3, 4, 5, 13, 14, 15, 81, 82, 86] (m2 := [(0, Sl.v a0), (1, Sl.v a1), (2, Sl.v a2), (3, Sl.v a3), (4, .int .i64 a4), (5, .int .i64 a5), (13, .int .i64 s1), (14, .int .i64 s96), (15, .int .i64 (IntKind.wrap .i64 ((IntKind.wrap .i64 (s1 * (a0.len : Int))) + s96))), (81, Sl.v a1), (82, .int .i64 (IntKind.wrap .i64 ((IntKind.wrap .i64 (s1 * (a0.len : Int))) + s96))), (86, .pointer (some (Addr.add p179 1)))]) (by kernel_rfl) (by kernel_rfl) ?_
    refine OJ.ld (d := 87) (T := 3) (y := .tmp 86) (pend2 := fun x180 => []) (by kernel_rfl) (by kernel_rfl) Ty3 (by kernel_rfl) (by kernel_rfl) (fun _ => rfl) (fun x180 => ?_)
    refine OJ.run [7, 8] [9, 10, 11] [0, 1, 2, 3, 4, 5, 13, 14, 15, 81, 82, 89] (m2 := [(0, Sl.v a0), (1, Sl.v a1), (2, Sl.v a2), (3, Sl.v a3), (4, .int .i64 a4), (5, .int .i64 a5), (13, .int .i64 s1), (14, .int .i64 s96), (15, .int .i64 (IntKind.wrap .i64 ((IntKind.wrap .i64 (s1 * (a0.len : Int))) + s96))), (81, Sl.v a1), (82, .int .i64 (IntKind.wrap .i64 ((IntKind.wrap .i64 (s1 * (a0.len : Int))) + s96))), (89, .int .i64 (IntKind.wrap .i64 (x180 + a5)))]) (by kernel_rfl) (by kernel_rfl) ?_
    refine OJ.idxS (d := 90) (T := 56) (y := .tmp 81) (j := .tmp 82) (E := 111) (cap := a1.cap) (k := .i64) (by kernel_rfl) (by kernel_rfl) (by kernel_rfl) (by kernel_rfl) (by kernel_rfl) (by kernel_rfl) (by kernel_rfl) (by kernel_rfl) (fun p181 => ?_)
    refine OJ.run [10] [11] [0, 1, 2, 3, 4, 5, 13, 14, 15, 89, 91] (m2 := [(0, Sl.v a0), (1, Sl.v a1), (2, Sl.v a2), (3, Sl.v a3), (4, .int .i64 a4), (5, .int .i64 a5), (13, .int .i64 s1), (14, .int .i64 s96), (15, .int .i64 (IntKind.wrap .i64 ((IntKind.wrap .i64 (s1 * (a0.len : Int))) + s96))), (89, .int .i64 (IntKind.wrap .i64 (x180 + a5))), (91, .pointer (some (Addr.add p181 1)))]) (by kernel_rfl) (by kernel_rfl) ?_
    refine OJ.st (T := 3) (y := .tmp 91) (z := .tmp 89) (owed := []) (by kernel_rfl) (by kernel_rfl) (by kernel_rfl) Ty3 (by kernel_rfl) (by kernel_rfl) ?_
    refine OW.nil ?_
    refine OJ.nil ?_
    refine SJ.less [0, 1, 2, 3, 4, 5, 13, 14, 15] (m' := [(0, Sl.v a0), (1, Sl.v a1), (2, Sl.v a2), (3, Sl.v a3), (4, .int .i64 a4), (5, .int .i64 a5), (13, .int .i64 s1), (14, .int .i64 s96), (15, .int .i64 (IntKind.wrap .i64 ((IntKind.wrap .i64 (s1 * (a0.len : Int))) + s96)))]) (by kernel_rfl) ?_
    exact weirlaw18_even.K1_ok a0 a1 a2 a3 a4 a5 s1 s96
  · refine SJ.skip (by kernel_rfl) ?_
    refine SJ.less [0, 1, 2, 3, 4, 5, 13, 14, 15] (m' := [(0, Sl.v a0), (1, Sl.v a1), (2, Sl.v a2), (3, Sl.v a3), (4, .int .i64 a4), (5, .int .i64 a5), (13, .int .i64 s1), (14, .int .i64 s96), (15, .int .i64 (IntKind.wrap .i64 ((IntKind.wrap .i64 (s1 * (a0.len : Int))) + s96)))]) (by kernel_rfl) ?_
    exact weirlaw18_even.K1_ok a0 a1 a2 a3 a4 a5 s1 s96
noncomputable def weirlaw18_even.L2 (a0 : Sl) (a1 : Sl) (a2 : Sl) (a3 : Sl) (a4 : Int) (a5 : Int) (s1 : Int) (s96 : Int) : M (LS Int (LS Int Bool)) :=
  if s96 < (a0.len : Int) then
    idx a2.a a2.len s1 1 >>= fun p143 =>
    ld cB p143 >>= fun x144 =>
    (if ¬ (x144 = true) then
        pure true
      else
        idx a2.a a2.len s96 1 >>= fun p145 =>
        ld cB p145 >>= fun x146 =>
        pure (!x146)) >>= fun y147 =>
    (if y147 = true then
        pure true
      else
        idx a3.a a3.len s1 1 >>= fun p148 =>
        ld cB p148 >>= fun x149 =>
        pure (!x149)) >>= fun y150 =>
    (if y150 = true then
        pure true
      else
        idx a3.a a3.len s96 1 >>= fun p151 =>
        ld cB p151 >>= fun x152 =>
        pure (!x152)) >>= fun y153 =>
    if y153 = true then
      idx a1.a a1.len (IntKind.wrap .i64 ((IntKind.wrap .i64 (s1 * (a0.len : Int))) + s96)) 2 >>= fun p155 =>
      st c_weirlaw18_Pair p155 z_weirlaw18_Pair >>= fun _ =>
      pure (LS.next (IntKind.wrap .i64 (s96 + 1)))
    else
      if s1 = a4 then
        idx a1.a a1.len (IntKind.wrap .i64 ((IntKind.wrap .i64 (s1 * (a0.len : Int))) + s96)) 2 >>= fun p183 =>
        ld (cI .i64) p183 >>= fun x184 =>
        idx a1.a a1.len (IntKind.wrap .i64 ((IntKind.wrap .i64 (s1 * (a0.len : Int))) + s96)) 2 >>= fun p185 =>
        st (cI .i64) p185 (IntKind.wrap .i64 (x184 + a5)) >>= fun _ =>
        weirlaw18_even.K2 a0 a1 a4 a5 s1 s96
      else
        weirlaw18_even.K2 a0 a1 a4 a5 s1 s96
  else
    pure (LS.done (LS.next (IntKind.wrap .i64 (s1 + 1))))
theorem weirlaw18_even.L2_ok (a0 : Sl) (a1 : Sl) (a2 : Sl) (a3 : Sl) (a4 : Int) (a5 : Int) (s1 : Int) (s96 : Int) :
    SJ weirlaw18_even.cx [.code (c1 (c1 (c2 (c1 (c1 (c2 (c1 (c1 (c2 (c1 (c2 weirlaw18_even.B))))))))))), .inLoop (c1 (c1 (c2 (c1 (c1 (c2 (c1 (c1 (c2 (c1 (c2 weirlaw18_even.B))))))))))), .inBlock 2, .inBlock 1, .code (c2 (c2 (c1 (c1 (c2 (c1 (c2 weirlaw18_even.B))))))), .inLoop (c1 (c1 (c2 (c1 (c2 weirlaw18_even.B))))), .inBlock 0, .code (c2 (c2 weirlaw18_even.B))] [(0, Sl.v a0), (1, Sl.v a1), (2, Sl.v a2), (3, Sl.v a3), (4, .int .i64 a4), (5, .int .i64 a5), (13, .int .i64 s1), (14, .int .i64 s96)] [] (weirlaw18_even.L2 a0 a1 a2 a3 a4 a5 s1 s96) (weirlaw18_even.F2 a0 a1 a2 a3 a4 a5 s1) := by
  unfold weirlaw18_even.L2
  refine SJ.seq (by kernel_rfl) ?_
  refine SJ.seq (by kernel_rfl) ?_
  refine SJ.region (id := 5) (by kernel_rfl) [0, 1, 2, 3] (by kernel_rfl) ?_
  refine OJ.run [0, 1, 2, 3] [] [0, 1, 2, 3, 4, 5, 13, 14, 25] (m2 := [(0, Sl.v a0), (1, Sl.v a1), (2, Sl.v a2), (3, Sl.v a3), (4, .int .i64 a4), (5, .int .i64 a5), (13, .int .i64 s1), (14, .int .i64 s96), (25, .bool (decide (s96 < (a0.len : Int))))]) (by kernel_rfl) (by kernel_rfl) ?_
  refine OJ.nil ?_
  refine SJ.cond (t := (.tmp 25)) (b := decide (s96 < (a0.len : Int))) (by kernel_rfl) (by kernel_rfl) decide_eq_true_iff (fun hc188 => ?_) (fun hc188 => ?_)
  · refine SJ.skip (by kernel_rfl) ?_
    refine SJ.seq (by kernel_rfl) ?_
    refine SJ.block (id := 3) (by kernel_rfl) ?_
    refine SJ.seq (by kernel_rfl) ?_
    refine SJ.region (id := 7) (by kernel_rfl) [0, 1, 2, 3, 4, 5, 6] (by kernel_rfl) ?_
    refine OJ.run [0, 1, 2, 3, 4, 5, 6] [] [0, 1, 2, 3, 4, 5, 13, 14, 15] (m2 := [(0, Sl.v a0), (1, Sl.v a1), (2, Sl.v a2), (3, Sl.v a3), (4, .int .i64 a4), (5, .int .i64 a5), (13, .int .i64 s1), (14, .int .i64 s96), (15, .int .i64 (IntKind.wrap .i64 ((IntKind.wrap .i64 (s1 * (a0.len : Int))) + s96)))]) (by kernel_rfl) (by kernel_rfl) ?_
    refine OJ.nil ?_
    refine SJ.seq (by kernel_rfl) ?_
    refine SJ.seq (by kernel_rfl) ?_
    refine SJ.region (id := 8) (by kernel_rfl) [0, 1, 2, 3, 4, 5, 6, 7, 8, 9, 10, 11, 12, 13, 14, 15, 16, 17, 18, 19, 20, 21, 22, 23, 24, 25] (by kernel_rfl) ?_
    refine OJ.run [0, 1] [2, 3, 4, 5, 6, 7, 8, 9, 10, 11, 12, 13, 14, 15, 16, 17, 18, 19, 20, 21, 22, 23, 24, 25] [0, 1, 2, 3, 4, 5, 13, 14, 15, 34, 35] (m2 := [(0, Sl.v a0), (1, Sl.v a1), (2, Sl.v a2), (3, Sl.v a3), (4, .int .i64 a4), (5, .int .i64 a5), (13, .int .i64 s1), (14, .int .i64 s96), (15, .int .i64 (IntKind.wrap .i64 ((IntKind.wrap .i64 (s1 * (a0.len : Int))) + s96))), (34, Sl.v a2), (35, .int .i64 s1)]) (by kernel_rfl) (by kernel_rfl) ?_
    refine OJ.idxS (d := 36) (T := 58) (y := .tmp 34) (j := .tmp 35) (E := 4) (cap := a2.cap) (k := .i64) (by kernel_rfl) (by kernel_rfl) (by kernel_rfl) (by kernel_rfl) (by kernel_rfl) (by kernel_rfl) (by kernel_rfl) (by kernel_rfl) (fun p143 => ?_)
    refine OJ.ld (d := 37) (T := 4) (y := .tmp 36) (pend2 := fun x144 => []) (by kernel_rfl) (by kernel_rfl) Ty4 (by kernel_rfl) (by kernel_rfl) (fun _ => rfl) (fun x144 => ?_)
    refine OJ.run [4, 5] [6, 7, 8, 9, 10, 11, 12, 13, 14, 15, 16, 17, 18, 19, 20, 21, 22, 23, 24, 25] [0, 1, 2, 3, 4, 5, 13, 14, 15, 39] (m2 := [(0, Sl.v a0), (1, Sl.v a1), (2, Sl.v a2), (3, Sl.v a3), (4, .int .i64 a4), (5, .int .i64 a5), (13, .int .i64 s1), (14, .int .i64 s96), (15, .int .i64 (IntKind.wrap .i64 ((IntKind.wrap .i64 (s1 * (a0.len : Int))) + s96))), (39, .bool (!x144))]) (by kernel_rfl) (by kernel_rfl) ?_
    refine OJ.join (b := (!x144)) [6, 7, 8, 9, 10, 11] [12, 13, 14, 15, 16, 17, 18, 19, 20, 21, 22, 23, 24, 25] [0, 1, 2, 3, 4, 5, 13, 14, 15, 45] (fun y147 => [(0, Sl.v a0), (1, Sl.v a1), (2, Sl.v a2), (3, Sl.v a3), (4, .int .i64 a4), (5, .int .i64 a5), (13, .int .i64 s1), (14, .int .i64 s96), (15, .int .i64 (IntKind.wrap .i64 ((IntKind.wrap .i64 (s1 * (a0.len : Int))) + s96))), (45, .bool y147)]) [] [] (by kernel_rfl) (t := 39) (by kernel_rfl) (bnot_iff Iff.rfl) (fun hp_ => ?_) (fun hp_ => ?_) (by kernel_rfl) (fun _ _ _ _ _ _ h_ => h_) (fun y147 => ?_)
    · refine OJ.run [6, 7, 8, 9, 10, 11] [] [0, 1, 2, 3, 4, 5, 13, 14, 15, 45] (m2 := [(0, Sl.v a0), (1, Sl.v a1), (2, Sl.v a2), (3, Sl.v a3), (4, .int .i64 a4), (5, .int .i64 a5), (13, .int .i64 s1), (14, .int .i64 s96), (15, .int .i64 (IntKind.wrap .i64 ((IntKind.wrap .i64 (s1 * (a0.len : Int))) + s96))), (45, .bool true)]) (by kernel_rfl) (by kernel_rfl) ?_
      exact OJ.nil ⟨(Cov.mem Cov.nil), rfl, _, rfl, by kernel_rfl⟩
    · refine OJ.run [6, 7] [8, 9, 10, 11] [0, 1, 2, 3, 4, 5, 13, 14, 15, 39, 40, 41] (m2 := [(0, Sl.v a0), (1, Sl.v a1), (2, Sl.v a2), (3, Sl.v a3), (4, .int .i64 a4), (5, .int .i64 a5), (13, .int .i64 s1), (14, .int .i64 s96), (15, .int .i64 (IntKind.wrap .i64 ((IntKind.wrap .i64 (s1 * (a0.len : Int))) + s96))), (39, .bool false), (40, Sl.v a2), (41, .int .i64 s96)]) (by kernel_rfl) (by kernel_rfl) ?_
      refine OJ.idxS (d := 42) (T := 58) (y := .tmp 40) (j := .tmp 41) (E := 4) (cap := a2.cap) (k := .i64) (by kernel_rfl) (by kernel_rfl) (by kernel_rfl) (by kernel_rfl) (by kernel_rfl) (by kernel_rfl) (by kernel_rfl) (by kernel_rfl) (fun p145 => ?_)
      refine OJ.ld (d := 43) (T := 4) (y := .tmp 42) (pend2 := fun x146 => []) (by kernel_rfl) (by kernel_rfl) Ty4 (by kernel_rfl) (by kernel_rfl) (fun _ => rfl) (fun x146 => ?_)
      refine OJ.run [10, 11] [] [0, 1, 2, 3, 4, 5, 13, 14, 15, 45] (m2 := [(0, Sl.v a0), (1, Sl.v a1), (2, Sl.v a2), (3, Sl.v a3), (4, .int .i64 a4), (5, .int .i64 a5), (13, .int .i64 s1), (14, .int .i64 s96), (15, .int .i64 (IntKind.wrap .i64 ((IntKind.wrap .i64 (s1 * (a0.len : Int))) + s96))), (45, .bool (!x146))]) (by kernel_rfl) (by kernel_rfl) ?_
      exact OJ.nil ⟨(Cov.mem Cov.nil), rfl, _, rfl, by kernel_rfl⟩
    · refine OJ.run [12] [13, 14, 15, 16, 17, 18, 19, 20, 21, 22, 23, 24, 25] [0, 1, 2, 3, 4, 5, 13, 14, 15, 46] (m2 := [(0, Sl.v a0), (1, Sl.v a1), (2, Sl.v a2), (3, Sl.v a3), (4, .int .i64 a4), (5, .int .i64 a5), (13, .int .i64 s1), (14, .int .i64 s96), (15, .int .i64 (IntKind.wrap .i64 ((IntKind.wrap .i64 (s1 * (a0.len : Int))) + s96))), (46, .bool y147)]) (by kernel_rfl) (by kernel_rfl) ?_
      refine OJ.join (b := y147) [13, 14, 15, 16, 17, 18] [19, 20, 21, 22, 23, 24, 25] [0, 1, 2, 3, 4, 5, 13, 14, 15, 52] (fun y150 => [(0, Sl.v a0), (1, Sl.v a1), (2, Sl.v a2), (3, Sl.v a3), (4, .int .i64 a4), (5, .int .i64 a5), (13, .int .i64 s1), (14, .int .i64 s96), (15, .int .i64 (IntKind.wrap .i64 ((IntKind.wrap .i64 (s1 * (a0.len : Int))) + s96))), (52, .bool y150)]) [] [] (by kernel_rfl) (t := 46) (by kernel_rfl) Iff.rfl (fun hp_ => ?_) (fun hp_ => ?_) (by kernel_rfl) (fun _ _ _ _ _ _ h_ => h_) (fun y150 => ?_)
      · refine OJ.run [13, 14, 15, 16, 17, 18] [] [0, 1, 2, 3, 4, 5, 13, 14, 15, 52] (m2 := [(0, Sl.v a0), (1, Sl.v a1), (2, Sl.v a2), (3, Sl.v a3), (4, .int .i64 a4), (5, .int .i64 a5), (13, .int .i64 s1), (14, .int .i64 s96), (15, .int .i64 (IntKind.wrap .i64 ((IntKind.wrap .i64 (s1 * (a0.len : Int))) + s96))), (52, .bool true)]) (by kernel_rfl) (by kernel_rfl) ?_
        exact OJ.nil ⟨(Cov.mem Cov.nil), rfl, _, rfl, by kernel_rfl⟩
      · refine OJ.run [13, 14] [15, 16, 17, 18] [0, 1, 2, 3, 4, 5, 13, 14, 15, 46, 47, 48] (m2 := [(0, Sl.v a0), (1, Sl.v a1), (2, Sl.v a2), (3, Sl.v a3), (4, .int .i64 a4), (5, .int .i64 a5), (13, .int .i64 s1), (14, .int .i64 s96), (15, .int .i64 (IntKind.wrap .i64 ((IntKind.wrap .i64 (s1 * (a0.len : Int))) + s96))), (46, .bool false), (47, Sl.v a3), (48, .int .i64 s1)]) (by kernel_rfl) (by kernel_rfl) ?_
        refine OJ.idxS (d := 49) (T := 58) (y := .tmp 47) (j := .tmp 48) (E := 4) (cap := a3.cap) (k := .i64) (by kernel_rfl) (by kernel_rfl) (by kernel_rfl) (by kernel_rfl) (by kernel_rfl) (by kernel_rfl) (by kernel_rfl) (by kernel_rfl) (fun p148 => ?_)
        refine OJ.ld (d := 50) (T := 4) (y := .tmp 49) (pend2 := fun x149 => []) (by kernel_rfl) (by kernel_rfl) Ty4 (by kernel_rfl) (by kernel_rfl) (fun _ => rfl) (fun x149 => ?_)
        refine OJ.run [17, 18] [] [0, 1, 2, 3, 4, 5, 13, 14, 15, 52] (m2 := [(0, Sl.v a0), (1, Sl.v a1), (2, Sl.v a2), (3, Sl.v a3), (4, .int .i64 a4), (5, .int .i64 a5), (13, .int .i64 s1), (14, .int .i64 s96), (15, .int .i64 (IntKind.wrap .i64 ((IntKind.wrap .i64 (s1 * (a0.len : Int))) + s96))), (52, .bool (!x149))]) (by kernel_rfl) (by kernel_rfl) ?_
        exact OJ.nil ⟨(Cov.mem Cov.nil), rfl, _, rfl, by kernel_rfl⟩
      · refine OJ.run [19] [20, 21, 22, 23, 24, 25] [0, 1, 2, 3, 4, 5, 13, 14, 15, 53] (m2 := [(0, Sl.v a0), (1, Sl.v a1), (2, Sl.v a2), (3, Sl.v a3), (4, .int .i64 a4), (5, .int .i64 a5), (13, .int .i64 s1), (14, .int .i64 s96), (15, .int .i64 (IntKind.wrap .i64 ((IntKind.wrap .i64 (s1 * (a0.len : Int))) + s96))), (53, .bool y150)]) (by kernel_rfl) (by kernel_rfl) ?_
        refine OJ.join (b := y150) [20, 21, 22, 23, 24, 25] [] [0, 1, 2, 3, 4, 5, 13, 14, 15, 59] (fun y153 => [(0, Sl.v a0), (1, Sl.v a1), (2, Sl.v a2), (3, Sl.v a3), (4, .int .i64 a4), (5, .int .i64 a5), (13, .int .i64 s1), (14, .int .i64 s96), (15, .int .i64 (IntKind.wrap .i64 ((IntKind.wrap .i64 (s1 * (a0.len : Int))) + s96))), (59, .bool y153)]) [] [] (by kernel_rfl) (t := 53) (by kernel_rfl) Iff.rfl (fun hp_ => ?_) (fun hp_ => ?_) (by kernel_rfl) (fun _ _ _ _ _ _ h_ => h_) (fun y153 => ?_)
        · refine OJ.run [20, 21, 22, 23, 24, 25] [] [0, 1, 2, 3, 4, 5, 13, 14, 15, 59] (m2 := [(0, Sl.v a0), (1, Sl.v a1), (2, Sl.v a2), (3, Sl.v a3), (4, .int .i64 a4), (5, .int .i64 a5), (13, .int .i64 s1), (14, .int .i64 s96), (15, .int .i64 (IntKind.wrap .i64 ((IntKind.wrap .i64 (s1 * (a0.len : Int))) + s96))), (59, .bool true)]) (by kernel_rfl) (by kernel_rfl) ?_
          exact OJ.nil ⟨(Cov.mem Cov.nil), rfl, _, rfl, by kernel_rfl⟩
        · refine OJ.run [20, 21] [22, 23, 24, 25] [0, 1, 2, 3, 4, 5, 13, 14, 15, 53, 54, 55] (m2 := [(0, Sl.v a0), (1, Sl.v a1), (2, Sl.v a2), (3, Sl.v a3), (4, .int .i64 a4), (5, .int .i64 a5), (13, .int .i64 s1), (14, .int .i64 s96), (15, .int .i64 (IntKind.wrap .i64 ((IntKind.wrap .i64 (s1 * (a0.len : Int))) + s96))), (53, .bool false), (54, Sl.v a3), (55, .int .i64 s96)]) (by kernel_rfl) (by kernel_rfl) ?_
          refine OJ.idxS (d := 56) (T := 58) (y := .tmp 54) (j := .tmp 55) (E := 4) (cap := a3.cap) (k := .i64) (by kernel_rfl) (by kernel_rfl) (by kernel_rfl) (by kernel_rfl) (by kernel_rfl) (by kernel_rfl) (by kernel_rfl) (by kernel_rfl) (fun p151 => ?_)
          refine OJ.ld (d := 57) (T := 4) (y := .tmp 56) (pend2 := fun x152 => []) (by kernel_rfl) (by kernel_rfl) Ty4 (by kernel_rfl) (by kernel_rfl) (fun _ => rfl) (fun x152 => ?_)
          refine OJ.run [24, 25] [] [0, 1, 2, 3, 4, 5, 13, 14, 15, 59] (m2 := [(0, Sl.v a0), (1, Sl.v a1), (2, Sl.v a2), (3, Sl.v a3), (4, .int .i64 a4), (5, .int .i64 a5), (13, .int .i64 s1), (14, .int .i64 s96), (15, .int .i64 (IntKind.wrap .i64 ((IntKind.wrap .i64 (s1 * (a0.len : Int))) + s96))), (59, .bool (!x152))]) (by kernel_rfl) (by kernel_rfl) ?_
          exact OJ.nil ⟨(Cov.mem Cov.nil), rfl, _, rfl, by kernel_rfl⟩
        · refine OJ.nil ?_
          refine SJ.cond (t := (.tmp 59)) (b := y153) (by kernel_rfl) (by kernel_rfl) Iff.rfl (fun hc187 => ?_) (fun hc187 => ?_)
          · refine SJ.seq (by kernel_rfl) ?_
            refine SJ.region (id := 9) (by kernel_rfl) [0, 1, 2, 3, 4] (by kernel_rfl) ?_
            refine OJ.run [0, 1] [2, 3, 4] [0, 1, 2, 3, 4, 5, 13, 14, 60, 61] (m2 := [(0, Sl.v a0), (1, Sl.v a1), (2, Sl.v a2), (3, Sl.v a3), (4, .int .i64 a4), (5, .int .i64 a5), (13, .int .i64 s1), (14, .int .i64 s96), (60, Sl.v a1), (61, .int .i64 (IntKind.wrap .i64 ((IntKind.wrap .i64 (s1 * (a0.len : Int))) + s96)))]) (by kernel_rfl) (by kernel_rfl) ?_
            refine OJ.build (d := 62) (T := 111) (parts := []) (ps := []) (cd := c_weirlaw18_Pair) (z0 := z_weirlaw18_Pair) z_weirlaw18_Pair (by kernel_rfl) (by kernel_rfl) Ty111 rfl (by kernel_rfl) Filled.nil (by kernel_rfl) (by kernel_rfl) (by kernel_rfl) ?_
            refine OJ.idxS (d := 63) (T := 56) (y := .tmp 60) (j := .tmp 61) (E := 111) (cap := a1.cap) (k := .i64) (by kernel_rfl) (by kernel_rfl) (by kernel_rfl) (by kernel_rfl) (by kernel_rfl) (by kernel_rfl) (by kernel_rfl) (by kernel_rfl) (fun p155 => ?_)
            refine OJ.st (T := 111) (y := .tmp 63) (z := .tmp 62) (owed := []) (by kernel_rfl) (by kernel_rfl) (by kernel_rfl) Ty111 (by kernel_rfl) (by kernel_rfl) ?_
            refine OW.nil ?_
            refine OJ.nil ?_
            refine SJ.exit (id := 3) (by kernel_rfl) (by rfl) ?_
            refine SJ.region (id := 6) (by kernel_rfl) [0, 1, 2] (by kernel_rfl) ?_
            refine OJ.run [0, 1, 2] [] [0, 1, 2, 3, 4, 5, 13, 14] (m2 := [(0, Sl.v a0), (1, Sl.v a1), (2, Sl.v a2), (3, Sl.v a3), (4, .int .i64 a4), (5, .int .i64 a5), (13, .int .i64 s1), (14, .int .i64 (IntKind.wrap .i64 (s96 + 1)))]) (by kernel_rfl) (by kernel_rfl) ?_
            refine OJ.nil ?_
            exact SJ.at_ [0, 1, 2, 3, 4, 5, 13, 14] rfl (by kernel_rfl)
          · refine SJ.skip (by kernel_rfl) ?_
            refine SJ.seq (by kernel_rfl) ?_
            refine SJ.seq (by kernel_rfl) ?_
            refine SJ.region (id := 10) (by kernel_rfl) [0, 1, 2] (by kernel_rfl) ?_
            refine OJ.run [0, 1, 2] [] [0, 1, 2, 3, 4, 5, 13, 14, 15, 66] (m2 := [(0, Sl.v a0), (1, Sl.v a1), (2, Sl.v a2), (3, Sl.v a3), (4, .int .i64 a4), (5, .int .i64 a5), (13, .int .i64 s1), (14, .int .i64 s96), (15, .int .i64 (IntKind.wrap .i64 ((IntKind.wrap .i64 (s1 * (a0.len : Int))) + s96))), (66, .bool (s1 == a4))]) (by kernel_rfl) (by kernel_rfl) ?_
            refine OJ.nil ?_
            refine SJ.cond (t := (.tmp 66)) (b := (s1 == a4)) (by kernel_rfl) (by kernel_rfl) beq_iff_eq (fun hc186 => ?_) (fun hc186 => ?_)
            · refine SJ.region (id := 11) (by kernel_rfl) [0, 1, 2, 3, 4, 5, 6, 7, 8, 9, 10, 11] (by kernel_rfl) ?_
              refine OJ.run [0, 1, 2, 3] [4, 5, 6, 7, 8, 9, 10, 11] [0, 1, 2, 3, 4, 5, 13, 14, 15, 67, 68, 69, 70] (m2 := [(0, Sl.v a0), (1, Sl.v a1), (2, Sl.v a2), (3, Sl.v a3), (4, .int .i64 a4), (5, .int .i64 a5), (13, .int .i64 s1), (14, .int .i64 s96), (15, .int .i64 (IntKind.wrap .i64 ((IntKind.wrap .i64 (s1 * (a0.len : Int))) + s96))), (67, Sl.v a1), (68, .int .i64 (IntKind.wrap .i64 ((IntKind.wrap .i64 (s1 * (a0.len : Int))) + s96))), (69, Sl.v a1), (70, .int .i64 (IntKind.wrap .i64 ((IntKind.wrap .i64 (s1 * (a0.len : Int))) + s96)))]) (by kernel_rfl) (by kernel_rfl) ?_
              refine OJ.idxS (d := 71) (T := 56) (y := .tmp 69) (j := .tmp 70) (E := 111) (cap := a1.cap) (k := .i64) (by kernel_rfl) (by kernel_rfl) (by kernel_rfl) (by kernel_rfl) (by kernel_rfl) (by kernel_rfl) (by kernel_rfl) (by kernel_rfl) (fun p183 => ?_)
              refine OJ.run [5] [6, 7, 8, 9, 10, 11] [0, 1, 2, 3, 4, 5, 13, 14, 15, 67, 68, 72] (m2 := [(0, Sl.v a0), (1, Sl.v a1), (2, Sl.v a2), (3, Sl.v a3), (4, .int .i64 a4), (5, .int .i64 a5), (13, .int .i64 s1), (14, .int .i64 s96), (15, .int .i64 (IntKind.wrap .i64 ((IntKind.wrap .i64 (s1 * (a0.len : Int))) + s96))), (67, Sl.v a1), (68, .int .i64 (IntKind.wrap .i64 ((IntKind.wrap .i64 (s1 * (a0.len : Int))) + s96))), (72, .pointer (some p183))]) (by kernel_rfl) (by kernel_rfl) ?_
              refine OJ.ld (d := 73) (T := 3) (y := .tmp 72) (pend2 := fun x184 => []) (by kernel_rfl) (by kernel_rfl) Ty3 (by kernel_rfl) (by kernel_rfl) (fun _ => rfl) (fun x184 => ?_)
              refine OJ.run [7, 8] [9, 10, 11] [0, 1, 2, 3, 4, 5, 13, 14, 15, 67, 68, 75] (m2 := [(0, Sl.v a0), (1, Sl.v a1), (2, Sl.v a2), (3, Sl.v a3), (4, .int .i64 a4), (5, .int .i64 a5), (13, .int .i64 s1), (14, .int .i64 s96), (15, .int .i64 (IntKind.wrap .i64 ((IntKind.wrap .i64 (s1 * (a0.len : Int))) + s96))), (67, Sl.v a1), (68, .int .i64 (IntKind.wrap .i64 ((IntKind.wrap .i64 (s1 * (a0.len : Int))) + s96))), (75, .int .i64 (IntKind.wrap .i64 (x184 + a5)))]) (by kernel_rfl) (by kernel_rfl) ?_
              refine OJ.idxS (d := 76) (T := 56) (y := .tmp 67) (j := .tmp 68) (E := 111) (cap := a1.cap) (k := .i64) (by kernel_rfl) (by kernel_rfl) (by kernel_rfl) (by kernel_rfl) (by kernel_rfl) (by kernel_rfl) (by kernel_rfl) (by kernel_rfl) (fun p185 => ?_)
              refine OJ.run [10] [11] [0, 1, 2, 3, 4, 5, 13, 14, 15, 75, 77] (m2 := [(0, Sl.v a0), (1, Sl.v a1), (2, Sl.v a2), (3, Sl.v a3), (4, .int .i64 a4), (5, .int .i64 a5), (13, .int .i64 s1), (14, .int .i64 s96), (15, .int .i64 (IntKind.wrap .i64 ((IntKind.wrap .i64 (s1 * (a0.len : Int))) + s96))), (75, .int .i64 (IntKind.wrap .i64 (x184 + a5))), (77, .pointer (some p185))]) (by kernel_rfl) (by kernel_rfl) ?_
              refine OJ.st (T := 3) (y := .tmp 77) (z := .tmp 75) (owed := []) (by kernel_rfl) (by kernel_rfl) (by kernel_rfl) Ty3 (by kernel_rfl) (by kernel_rfl) ?_
              refine OW.nil ?_
              refine OJ.nil ?_
              refine SJ.less [0, 1, 2, 3, 4, 5, 13, 14, 15] (m' := [(0, Sl.v a0), (1, Sl.v a1), (2, Sl.v a2), (3, Sl.v a3), (4, .int .i64 a4), (5, .int .i64 a5), (13, .int .i64 s1), (14, .int .i64 s96), (15, .int .i64 (IntKind.wrap .i64 ((IntKind.wrap .i64 (s1 * (a0.len : Int))) + s96)))]) (by kernel_rfl) ?_
              exact weirlaw18_even.K2_ok a0 a1 a2 a3 a4 a5 s1 s96
            · refine SJ.skip (by kernel_rfl) ?_
              refine SJ.less [0, 1, 2, 3, 4, 5, 13, 14, 15] (m' := [(0, Sl.v a0), (1, Sl.v a1), (2, Sl.v a2), (3, Sl.v a3), (4, .int .i64 a4), (5, .int .i64 a5), (13, .int .i64 s1), (14, .int .i64 s96), (15, .int .i64 (IntKind.wrap .i64 ((IntKind.wrap .i64 (s1 * (a0.len : Int))) + s96)))]) (by kernel_rfl) ?_
              exact weirlaw18_even.K2_ok a0 a1 a2 a3 a4 a5 s1 s96
  · refine SJ.exit (id := 2) (by kernel_rfl) (by rfl) ?_
    refine SJ.inBlock ?_
    refine SJ.region (id := 3) (by kernel_rfl) [0, 1, 2] (by kernel_rfl) ?_
    refine OJ.run [0, 1, 2] [] [0, 1, 2, 3, 4, 5, 13] (m2 := [(0, Sl.v a0), (1, Sl.v a1), (2, Sl.v a2), (3, Sl.v a3), (4, .int .i64 a4), (5, .int .i64 a5), (13, .int .i64 (IntKind.wrap .i64 (s1 + 1)))]) (by kernel_rfl) (by kernel_rfl) ?_
    refine OJ.nil ?_
    exact SJ.at_ [0, 1, 2, 3, 4, 5, 13] rfl (by kernel_rfl)
noncomputable def weirlaw18_even.L1 (a0 : Sl) (a1 : Sl) (a2 : Sl) (a3 : Sl) (a4 : Int) (a5 : Int) (s1 : Int) : M (LS Int Bool) :=
  if s1 < (a0.len : Int) then
    loopM (fun s_ : Int => weirlaw18_even.L2 a0 a1 a2 a3 a4 a5 s1 s_) 0
  else
    pure (LS.done true)
theorem weirlaw18_even.L1_ok (a0 : Sl) (a1 : Sl) (a2 : Sl) (a3 : Sl) (a4 : Int) (a5 : Int) (s1 : Int) :
    SJ weirlaw18_even.cx [.code (c1 (c1 (c2 (c1 (c2 weirlaw18_even.B))))), .inLoop (c1 (c1 (c2 (c1 (c2 weirlaw18_even.B))))), .inBlock 0, .code (c2 (c2 weirlaw18_even.B))] [(0, Sl.v a0), (1, Sl.v a1), (2, Sl.v a2), (3, Sl.v a3), (4, .int .i64 a4), (5, .int .i64 a5), (13, .int .i64 s1)] [] (weirlaw18_even.L1 a0 a1 a2 a3 a4 a5 s1) (weirlaw18_even.F1 a0 a1 a2 a3 a4 a5) := by
  unfold weirlaw18_even.L1
  refine SJ.seq (by kernel_rfl) ?_
  refine SJ.seq (by kernel_rfl) ?_
  refine SJ.region (id := 2) (by kernel_rfl) [0, 1, 2, 3] (by kernel_rfl) ?_
  refine OJ.run [0, 1, 2, 3] [] [0, 1, 2, 3, 4, 5, 13, 19] (m2 := [(0, Sl.v a0), (1, Sl.v a1), (2, Sl.v a2), (3, Sl.v a3), (4, .int .i64 a4), (5, .int .i64 a5), (13, .int .i64 s1), (19, .bool (decide (s1 < (a0.len : Int))))]) (by kernel_rfl) (by kernel_rfl) ?_
  refine OJ.nil ?_
  refine SJ.cond (t := (.tmp 19)) (b := decide (s1 < (a0.len : Int))) (by kernel_rfl) (by kernel_rfl) decide_eq_true_iff (fun hc189 => ?_) (fun hc189 => ?_)
  · refine SJ.skip (by kernel_rfl) ?_
    refine SJ.seq (by kernel_rfl) ?_
    refine SJ.block (id := 1) (by kernel_rfl) ?_
    refine SJ.seq (by kernel_rfl) ?_
    refine SJ.region (id := 4) (by kernel_rfl) [0] (by kernel_rfl) ?_
    refine OJ.run [0] [] [0, 1, 2, 3, 4, 5, 13, 14] (m2 := [(0, Sl.v a0), (1, Sl.v a1), (2, Sl.v a2), (3, Sl.v a3), (4, .int .i64 a4), (5, .int .i64 a5), (13, .int .i64 s1), (14, .int .i64 0)]) (by kernel_rfl) (by kernel_rfl) ?_
    refine OJ.nil ?_
    refine SJ.block (id := 2) (by kernel_rfl) ?_
    exact SJ.loop (fun s_ : Int => [(0, Sl.v a0), (1, Sl.v a1), (2, Sl.v a2), (3, Sl.v a3), (4, .int .i64 a4), (5, .int .i64 a5), (13, .int .i64 s1), (14, .int .i64 s_)]) (fun s_ : Int => []) [0, 1, 2, 3, 4, 5, 13, 14] (by kernel_rfl) (by kernel_rfl) rfl (fun _ _ => rfl) (fun s_ => weirlaw18_even.L2_ok a0 a1 a2 a3 a4 a5 s1 s_)
  · refine SJ.exit (id := 0) (by kernel_rfl) (by rfl) ?_
    refine SJ.seq (by kernel_rfl) ?_
    refine SJ.region (id := 16) (by kernel_rfl) [0] (by kernel_rfl) ?_
    refine OJ.run [0] [] [12] (m2 := [(12, .bool true)]) (by kernel_rfl) (by kernel_rfl) ?_
    refine OJ.nil ?_
    exact SJ.ret (by kernel_rfl) rfl (Res.run (ys := [.bool true]) (.tmp (by kernel_rfl) .nil) rfl)
noncomputable def weirlaw18_even (a0 : Sl) (a1 : Sl) (a2 : Sl) (a3 : Sl) (a4 : Int) (a5 : Int) : M Bool :=
  loopM (fun s_ : Int => weirlaw18_even.L1 a0 a1 a2 a3 a4 a5 s_) 0
theorem weirlaw18_even_ok (a0 : Sl) (a1 : Sl) (a2 : Sl) (a3 : Sl) (a4 : Int) (a5 : Int) : Ref Try.prog 29 [Sl.v a0, Sl.v a1, Sl.v a2, Sl.v a3, .int .i64 a4, .int .i64 a5] (weirlaw18_even a0 a1 a2 a3 a4 a5) weirlaw18_even.out := by
  refine Ref.of (cd := weirlaw18_even.B) Try.func29 (by kernel_rfl) (by kernel_rfl) ?_
  show SJ weirlaw18_even.cx [.code weirlaw18_even.B] [(0, Sl.v a0), (1, Sl.v a1), (2, Sl.v a2), (3, Sl.v a3), (4, .int .i64 a4), (5, .int .i64 a5)] [] (weirlaw18_even a0 a1 a2 a3 a4 a5) weirlaw18_even.F0
  unfold weirlaw18_even
  refine SJ.seq (by kernel_rfl) ?_
  refine SJ.region (id := 0) (by kernel_rfl) [0] (by kernel_rfl) ?_
  refine OJ.run [0] [] [0, 1, 2, 3, 4, 5] (m2 := [(0, Sl.v a0), (1, Sl.v a1), (2, Sl.v a2), (3, Sl.v a3), (4, .int .i64 a4), (5, .int .i64 a5)]) (by kernel_rfl) (by kernel_rfl) ?_
  refine OJ.nil ?_
  refine SJ.seq (by kernel_rfl) ?_
  refine SJ.seq (by kernel_rfl) ?_
  refine SJ.region (id := 1) (by kernel_rfl) [0] (by kernel_rfl) ?_
  refine OJ.run [0] [] [0, 1, 2, 3, 4, 5, 13] (m2 := [(0, Sl.v a0), (1, Sl.v a1), (2, Sl.v a2), (3, Sl.v a3), (4, .int .i64 a4), (5, .int .i64 a5), (13, .int .i64 0)]) (by kernel_rfl) (by kernel_rfl) ?_
  refine OJ.nil ?_
  refine SJ.block (id := 0) (by kernel_rfl) ?_
  exact SJ.loop (fun s_ : Int => [(0, Sl.v a0), (1, Sl.v a1), (2, Sl.v a2), (3, Sl.v a3), (4, .int .i64 a4), (5, .int .i64 a5), (13, .int .i64 s_)]) (fun s_ : Int => []) [0, 1, 2, 3, 4, 5, 13] (by kernel_rfl) (by kernel_rfl) rfl (fun _ _ => rfl) (fun s_ => weirlaw18_even.L1_ok a0 a1 a2 a3 a4 a5 s_)
end Go.Proofs.Ytgddbpmfendaeaa.Lx
