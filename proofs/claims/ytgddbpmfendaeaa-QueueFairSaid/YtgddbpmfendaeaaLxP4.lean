/- Programs of the M-world for Go functions, each with the proof that the Go text does what it says. Printed by lxgen.py. -/
import Derived.Test.YtgddbpmfendaeaaLxT
import Derived.Test.YtgddbpmfendaeaaLxP0
import Derived.Test.YtgddbpmfendaeaaLxP1
import Derived.Test.YtgddbpmfendaeaaLxP2
import Derived.Test.YtgddbpmfendaeaaLxP3
set_option linter.unusedVariables false
set_option linter.unusedSimpArgs false
namespace Go.Proofs.Ytgddbpmfendaeaa.Lx
open Go Go.Proofs
/-! ### (*weir/weirlaw18.Book).pushed: function 21 -/
noncomputable def weirlaw18_Book_pushed.B : Code := (Try.f21.body).getD .skip
noncomputable def weirlaw18_Book_pushed.cx : Fx := ⟨Try.prog, 21, Try.f21⟩
noncomputable def weirlaw18_Book_pushed.out (r_ : Bool) : Value := .bool r_
noncomputable def weirlaw18_Book_pushed.F0 (r_ : Bool) : Reach := .ret (weirlaw18_Book_pushed.out r_)
noncomputable def weirlaw18_Book_pushed (a0 : (Option Addr)) (a1 : Sl) (a2 : weirlaw18_Op) (a3 : Int) : M Bool :=
  slot 48 >>= fun b1 =>
  (if a2.Class < 0 then
      pure true
    else
      pure (decide (a2.Class ≥ (a1.len : Int)))) >>= fun y2 =>
  if y2 = true then
    pure (a3 == 181)
  else
    (if a2.Size < 1 then
        pure true
      else
        pure (decide (a2.Size > 65535))) >>= fun y3 =>
    if y3 = true then
      pure (a3 == 182)
    else
      idx a1.a a1.len a2.Class 5 >>= fun p4 =>
      ld c_api_Class p4 >>= fun x5 =>
      slot 41 >>= fun b6 =>
      draw >>= fun _ =>
      nilck a0 >>= fun p7 =>
      ld cL p7 >>= fun x8 =>
      idx x8.a x8.len a2.Class 1 >>= fun p9 =>
      ld cL p9 >>= fun x10 =>
      (if (x10.len : Int) ≥ x5.Items then
          pure true
        else
          nilck a0 >>= fun p11 =>
          ld cL (Addr.add p11 1) >>= fun x12 =>
          idx x12.a x12.len a2.Class 1 >>= fun p13 =>
          ld (cI .i64) p13 >>= fun x14 =>
          pure (decide ((IntKind.wrap .i64 (x14 + a2.Size)) > x5.Bytes))) >>= fun y15 =>
      if y15 = true then
        pure (a3 == 183)
      else
        draw >>= fun _ =>
        nilck a0 >>= fun p16 =>
        ld cL p16 >>= fun x17 =>
        nilck a0 >>= fun p18 =>
        ld cL p18 >>= fun x19 =>
        idx x19.a x19.len a2.Class 1 >>= fun p20 =>
        ld cL p20 >>= fun x21 =>
        slot 66 >>= fun b22 =>
        same cL p20 x21 >>= fun _ =>
        same cL p18 x19 >>= fun _ =>
        same cL p16 x17 >>= fun _ =>
        appl c_weirlaw18_Item 66 16 z_weirlaw18_Item x21 [(⟨a2.Size, a2.Item⟩ : weirlaw18_Item)] >>= fun r23 =>
        same cL p16 x17 >>= fun _ =>
        idx x17.a x17.len a2.Class 1 >>= fun p24 =>
        st cL p24 r23 >>= fun _ =>
        draw >>= fun _ =>
        nilck a0 >>= fun p25 =>
        ld cL (Addr.add p25 1) >>= fun x26 =>
        nilck a0 >>= fun p27 =>
        ld cL (Addr.add p27 1) >>= fun x28 =>
        idx x28.a x28.len a2.Class 1 >>= fun p29 =>
        ld (cI .i64) p29 >>= fun x30 =>
        idx x26.a x26.len a2.Class 1 >>= fun p31 =>
        st (cI .i64) p31 (IntKind.wrap .i64 (x30 + a2.Size)) >>= fun _ =>
        pure (a3 == 0)
theorem weirlaw18_Book_pushed_ok (a0 : (Option Addr)) (a1 : Sl) (a2 : weirlaw18_Op) (a3 : Int) : Ref Try.prog 21 [.pointer a0, Sl.v a1, c_weirlaw18_Op.val a2, .int .i64 a3] (weirlaw18_Book_pushed a0 a1 a2 a3) weirlaw18_Book_pushed.out := by
  refine Ref.of (cd := weirlaw18_Book_pushed.B) Try.func21 (by kernel_rfl) (by kernel_rfl) ?_
  show SJ weirlaw18_Book_pushed.cx [.code weirlaw18_Book_pushed.B] [(0, .pointer a0), (1, Sl.v a1), (2, c_weirlaw18_Op.val a2), (3, .int .i64 a3)] [] (weirlaw18_Book_pushed a0 a1 a2 a3) weirlaw18_Book_pushed.F0
  unfold weirlaw18_Book_pushed
  refine SJ.seq (by kernel_rfl) ?_
  refine SJ.region (id := 0) (by kernel_rfl) [0, 1] (by kernel_rfl) ?_
  refine OJ.slotOf (d := 6) (op := (.box 48 (.tmp 2))) (cd := c_weirlaw18_Op) (u := a2) (owed := []) (by kernel_rfl) (box_run (by kernel_rfl)) (by kernel_rfl) (by kernel_rfl) (by kernel_rfl) (fun b1 => ?_)
  refine OW.nil ?_
  refine OJ.run [1] [] [0, 1, 3, 6] (m2 := [(0, .pointer a0), (1, Sl.v a1), (3, .int .i64 a3), (6, .pointer (some (pt b1 0)))]) (by kernel_rfl) (by kernel_rfl) ?_
  refine OJ.nil ?_
  refine SJ.seq (by kernel_rfl) ?_
  refine SJ.seq (by kernel_rfl) ?_
  refine SJ.region (id := 1) (by kernel_rfl) [0, 1, 2, 3, 4, 5, 6, 7, 8, 9] (by kernel_rfl) ?_
  refine OJ.run [0] [1, 2, 3, 4, 5, 6, 7, 8, 9] [0, 1, 3, 6, 10] (m2 := [(0, .pointer a0), (1, Sl.v a1), (3, .int .i64 a3), (6, .pointer (some (pt b1 0))), (10, .pointer (some (pt b1 2)))]) (by kernel_rfl) (by kernel_rfl) ?_
  refine OJ.kld (d := 11) (T := 3) (y := .tmp 10) (cd := (cI .i64)) (j := 0) (b := b1) (o := 2) a2.Class (pend2 := []) (by kernel_rfl) (by kernel_rfl) Ty3 (by kernel_rfl) rfl (At_weirlaw18_Op_Class a2) (by kernel_rfl) rfl ?_
  refine OJ.run [2, 3] [4, 5, 6, 7, 8, 9] [0, 1, 3, 6, 13] (m2 := [(0, .pointer a0), (1, Sl.v a1), (3, .int .i64 a3), (6, .pointer (some (pt b1 0))), (13, .bool (decide (a2.Class < 0)))]) (by kernel_rfl) (by kernel_rfl) ?_
  refine OJ.join (b := decide (a2.Class < 0)) [4, 5, 6, 7, 8, 9] [] [0, 1, 3, 6, 19] (fun y2 => [(0, .pointer a0), (1, Sl.v a1), (3, .int .i64 a3), (6, .pointer (some (pt b1 0))), (19, .bool y2)]) [] [] (by kernel_rfl) (t := 13) (by kernel_rfl) decide_eq_true_iff (fun hp_ => ?_) (fun hp_ => ?_) (by kernel_rfl) (fun _ _ _ _ _ _ h_ => h_) (fun y2 => ?_)
  · refine OJ.run [4, 5, 6, 7, 8, 9] [] [0, 1, 3, 6, 19] (m2 := [(0, .pointer a0), (1, Sl.v a1), (3, .int .i64 a3), (6, .pointer (some (pt b1 0))), (19, .bool true)]) (by kernel_rfl) (by kernel_rfl) ?_
    exact OJ.nil ⟨(Cov.mem Cov.nil), rfl, _, rfl, by kernel_rfl⟩
  · refine OJ.run [4] [5, 6, 7, 8, 9] [0, 1, 3, 6, 13, 14] (m2 := [(0, .pointer a0), (1, Sl.v a1), (3, .int .i64 a3), (6, .pointer (some (pt b1 0))), (13, .bool false), (14, .pointer (some (pt b1 2)))]) (by kernel_rfl) (by kernel_rfl) ?_
    refine OJ.kld (d := 15) (T := 3) (y := .tmp 14) (cd := (cI .i64)) (j := 0) (b := b1) (o := 2) a2.Class (pend2 := []) (by kernel_rfl) (by kernel_rfl) Ty3 (by kernel_rfl) rfl (At_weirlaw18_Op_Class a2) (by kernel_rfl) rfl ?_
    refine OJ.run [6, 7, 8, 9] [] [0, 1, 3, 6, 19] (m2 := [(0, .pointer a0), (1, Sl.v a1), (3, .int .i64 a3), (6, .pointer (some (pt b1 0))), (19, .bool (decide (a2.Class ≥ (a1.len : Int))))]) (by kernel_rfl) (by kernel_rfl) ?_
    exact OJ.nil ⟨(Cov.mem Cov.nil), rfl, _, rfl, by kernel_rfl⟩
  · refine OJ.nil ?_
    refine SJ.cond (t := (.tmp 19)) (b := y2) (by kernel_rfl) (by kernel_rfl) Iff.rfl (fun hc34 => ?_) (fun hc34 => ?_)
    · refine SJ.seq (by kernel_rfl) ?_
      refine SJ.region (id := 2) (by kernel_rfl) [0, 1, 2] (by kernel_rfl) ?_
      refine OJ.run [0, 1, 2] [] [8] (m2 := [(8, .bool (a3 == 181))]) (by kernel_rfl) (by kernel_rfl) ?_
      refine OJ.nil ?_
      exact SJ.ret (by kernel_rfl) rfl (Res.run (ys := [.bool (a3 == 181)]) (.tmp (by kernel_rfl) .nil) rfl)
    · refine SJ.skip (by kernel_rfl) ?_
      refine SJ.seq (by kernel_rfl) ?_
      refine SJ.seq (by kernel_rfl) ?_
      refine SJ.region (id := 3) (by kernel_rfl) [0, 1, 2, 3, 4, 5, 6, 7] (by kernel_rfl) ?_
      refine OJ.run [0] [1, 2, 3, 4, 5, 6, 7] [0, 1, 3, 6, 22] (m2 := [(0, .pointer a0), (1, Sl.v a1), (3, .int .i64 a3), (6, .pointer (some (pt b1 0))), (22, .pointer (some (pt b1 3)))]) (by kernel_rfl) (by kernel_rfl) ?_
      refine OJ.kld (d := 23) (T := 3) (y := .tmp 22) (cd := (cI .i64)) (j := 0) (b := b1) (o := 3) a2.Size (pend2 := []) (by kernel_rfl) (by kernel_rfl) Ty3 (by kernel_rfl) rfl (At_weirlaw18_Op_Size a2) (by kernel_rfl) rfl ?_
      refine OJ.run [2, 3] [4, 5, 6, 7] [0, 1, 3, 6, 25] (m2 := [(0, .pointer a0), (1, Sl.v a1), (3, .int .i64 a3), (6, .pointer (some (pt b1 0))), (25, .bool (decide (a2.Size < 1)))]) (by kernel_rfl) (by kernel_rfl) ?_
      refine OJ.join (b := decide (a2.Size < 1)) [4, 5, 6, 7] [] [0, 1, 3, 6, 29] (fun y3 => [(0, .pointer a0), (1, Sl.v a1), (3, .int .i64 a3), (6, .pointer (some (pt b1 0))), (29, .bool y3)]) [] [] (by kernel_rfl) (t := 25) (by kernel_rfl) decide_eq_true_iff (fun hp_ => ?_) (fun hp_ => ?_) (by kernel_rfl) (fun _ _ _ _ _ _ h_ => h_) (fun y3 => ?_)
      · refine OJ.run [4, 5, 6, 7] [] [0, 1, 3, 6, 29] (m2 := [(0, .pointer a0), (1, Sl.v a1), (3, .int .i64 a3), (6, .pointer (some (pt b1 0))), (29, .bool true)]) (by kernel_rfl) (by kernel_rfl) ?_
        exact OJ.nil ⟨(Cov.mem Cov.nil), rfl, _, rfl, by kernel_rfl⟩
      · refine OJ.run [4] [5, 6, 7] [0, 1, 3, 6, 25, 26] (m2 := [(0, .pointer a0), (1, Sl.v a1), (3, .int .i64 a3), (6, .pointer (some (pt b1 0))), (25, .bool false), (26, .pointer (some (pt b1 3)))]) (by kernel_rfl) (by kernel_rfl) ?_
        refine OJ.kld (d := 27) (T := 3) (y := .tmp 26) (cd := (cI .i64)) (j := 0) (b := b1) (o := 3) a2.Size (pend2 := []) (by kernel_rfl) (by kernel_rfl) Ty3 (by kernel_rfl) rfl (At_weirlaw18_Op_Size a2) (by kernel_rfl) rfl ?_
        refine OJ.run [6, 7] [] [0, 1, 3, 6, 29] (m2 := [(0, .pointer a0), (1, Sl.v a1), (3, .int .i64 a3), (6, .pointer (some (pt b1 0))), (29, .bool (decide (a2.Size > 65535)))]) (by kernel_rfl) (by kernel_rfl) ?_
        exact OJ.nil ⟨(Cov.mem Cov.nil), rfl, _, rfl, by kernel_rfl⟩
      · refine OJ.nil ?_
        refine SJ.cond (t := (.tmp 29)) (b := y3) (by kernel_rfl) (by kernel_rfl) Iff.rfl (fun hc33 => ?_) (fun hc33 => ?_)
        · refine SJ.seq (by kernel_rfl) ?_
          refine SJ.region (id := 4) (by kernel_rfl) [0, 1, 2] (by kernel_rfl) ?_
          refine OJ.run [0, 1, 2] [] [8] (m2 := [(8, .bool (a3 == 182))]) (by kernel_rfl) (by kernel_rfl) ?_
          refine OJ.nil ?_
          exact SJ.ret (by kernel_rfl) rfl (Res.run (ys := [.bool (a3 == 182)]) (.tmp (by kernel_rfl) .nil) rfl)
        · refine SJ.skip (by kernel_rfl) ?_
          refine SJ.seq (by kernel_rfl) ?_
          refine SJ.region (id := 5) (by kernel_rfl) [0, 1, 2, 3, 4, 5, 6] (by kernel_rfl) ?_
          refine OJ.run [0, 1] [2, 3, 4, 5, 6] [0, 3, 6, 32, 33] (m2 := [(0, .pointer a0), (3, .int .i64 a3), (6, .pointer (some (pt b1 0))), (32, Sl.v a1), (33, .pointer (some (pt b1 2)))]) (by kernel_rfl) (by kernel_rfl) ?_
          refine OJ.kld (d := 34) (T := 3) (y := .tmp 33) (cd := (cI .i64)) (j := 0) (b := b1) (o := 2) a2.Class (pend2 := []) (by kernel_rfl) (by kernel_rfl) Ty3 (by kernel_rfl) rfl (At_weirlaw18_Op_Class a2) (by kernel_rfl) rfl ?_
          refine OJ.idxS (d := 35) (T := 27) (y := .tmp 32) (j := .tmp 34) (E := 41) (cap := a1.cap) (k := .i64) (by kernel_rfl) (by kernel_rfl) (by kernel_rfl) (by kernel_rfl) (by kernel_rfl) (by kernel_rfl) (by kernel_rfl) (by kernel_rfl) (fun p4 => ?_)
          refine OJ.ld (d := 36) (T := 41) (y := .tmp 35) (pend2 := fun x5 => []) (by kernel_rfl) (by kernel_rfl) Ty41 (by kernel_rfl) (by kernel_rfl) (fun _ => rfl) (fun x5 => ?_)
          refine OJ.slotOf (d := 9) (op := (.alloc 41)) (cd := c_api_Class) (u := z_api_Class) (owed := []) (by kernel_rfl) (alloc_run Ty41) (by kernel_rfl) (by kernel_rfl) (by kernel_rfl) (fun b6 => ?_)
          refine OW.nil ?_
          refine OJ.kst (T := 41) (y := .tmp 9) (z := .tmp 36) (cd := c_api_Class) (u := x5) (j := 0) (b := b6) (o := 0) (c_api_Class.enc x5) (h2 := [(b6, c_api_Class.enc x5), (b1, c_weirlaw18_Op.enc a2)]) (owed := []) (by kernel_rfl) (by kernel_rfl) (by kernel_rfl) Ty41 rfl (Upd.whole ((Cod.len _ _).trans (Cod.len _ _).symm)) (by kernel_rfl) (by kernel_rfl) rfl ?_
          refine OW.nil ?_
          refine OJ.nil ?_
          refine SJ.seq (by kernel_rfl) ?_
          refine SJ.seq (by kernel_rfl) ?_
          refine SJ.draw (id := 6) (kd := [0, 0, 0, 1, 0, 1, 0, 1, 0, 0, 1, 0, 0, 0, 0, 0, 1, 0, 1, 0, 1, 0, 1, 0, 0, 1, 0, 0]) (bef := [0, 1, 3, 7, 0, 16, 63, 127, 255, 0, 512, 2047, 4095, 8191, 16383, 32767, 65535, 8191, 139263, 524287, 1048575, 8191, 2105343, 8388607, 8191, 16785407, 67108863, 134217727]) (ord := [0, 1, 2, 3, 4, 5, 6, 7, 8, 9, 10, 11, 12, 13, 14, 15, 16, 17, 18, 19, 20, 21, 22, 23, 24, 25, 26, 27]) (by kernel_rfl) mixed (by kernel_rfl) ?_
          refine OJ.run [0] [1, 2, 3, 4, 5, 6, 7, 8, 9, 10, 11, 12, 13, 14, 15, 16, 17, 18, 19, 20, 21, 22, 23, 24, 25, 26, 27] [0, 3, 6, 9, 37] (m2 := [(0, .pointer a0), (3, .int .i64 a3), (6, .pointer (some (pt b1 0))), (9, .pointer (some (pt b6 0))), (37, .pointer a0)]) (by kernel_rfl) (by kernel_rfl) ?_
          refine OJ.nilck (d := 38) (y := .tmp 37) (by kernel_rfl) (by kernel_rfl) (by kernel_rfl) (by kernel_rfl) (by kernel_rfl) (fun p7 => ?_)
          refine OJ.run [2] [3, 4, 5, 6, 7, 8, 9, 10, 11, 12, 13, 14, 15, 16, 17, 18, 19, 20, 21, 22, 23, 24, 25, 26, 27] [0, 3, 6, 9, 39] (m2 := [(0, .pointer a0), (3, .int .i64 a3), (6, .pointer (some (pt b1 0))), (9, .pointer (some (pt b6 0))), (39, .pointer (some p7))]) (by kernel_rfl) (by kernel_rfl) ?_
          refine OJ.ld (d := 40) (T := 43) (y := .tmp 39) (pend2 := fun x8 => [⟨3, 43, p7, cL.val x8⟩]) (by kernel_rfl) (by kernel_rfl) Ty43 (by kernel_rfl) (by kernel_rfl) (fun _ => rfl) (fun x8 => ?_)
          refine OJ.run [4] [5, 6, 7, 8, 9, 10, 11, 12, 13, 14, 15, 16, 17, 18, 19, 20, 21, 22, 23, 24, 25, 26, 27] [0, 3, 6, 9, 40, 41] (m2 := [(0, .pointer a0), (3, .int .i64 a3), (6, .pointer (some (pt b1 0))), (9, .pointer (some (pt b6 0))), (40, Sl.v x8), (41, .pointer (some (pt b1 2)))]) (by kernel_rfl) (by kernel_rfl) ?_
          refine OJ.kld (d := 42) (T := 3) (y := .tmp 41) (cd := (cI .i64)) (j := 1) (b := b1) (o := 2) a2.Class (pend2 := [⟨5, 3, (pt b1 2), (cI .i64).val a2.Class⟩, ⟨3, 43, p7, cL.val x8⟩]) (by kernel_rfl) (by kernel_rfl) Ty3 (by kernel_rfl) rfl (At_weirlaw18_Op_Class a2) (by kernel_rfl) rfl ?_
          refine OJ.idxS (d := 43) (T := 43) (y := .tmp 40) (j := .tmp 42) (E := 42) (cap := x8.cap) (k := .i64) (by kernel_rfl) (by kernel_rfl) (by kernel_rfl) (by kernel_rfl) (by kernel_rfl) (by kernel_rfl) (by kernel_rfl) (by kernel_rfl) (fun p9 => ?_)
          refine OJ.ld (d := 44) (T := 42) (y := .tmp 43) (pend2 := fun x10 => [⟨7, 42, p9, cL.val x10⟩, ⟨5, 3, (pt b1 2), (cI .i64).val a2.Class⟩, ⟨3, 43, p7, cL.val x8⟩]) (by kernel_rfl) (by kernel_rfl) Ty42 (by kernel_rfl) (by kernel_rfl) (fun _ => rfl) (fun x10 => ?_)
          refine OJ.run [8, 9] [10, 11, 12, 13, 14, 15, 16, 17, 18, 19, 20, 21, 22, 23, 24, 25, 26, 27] [0, 3, 6, 9, 45, 46] (m2 := [(0, .pointer a0), (3, .int .i64 a3), (6, .pointer (some (pt b1 0))), (9, .pointer (some (pt b6 0))), (45, .int .i64 (x10.len : Int)), (46, .pointer (some (pt b6 1)))]) (by kernel_rfl) (by kernel_rfl) ?_
          refine OJ.kld (d := 47) (T := 3) (y := .tmp 46) (cd := (cI .i64)) (j := 0) (b := b6) (o := 1) x5.Items (pend2 := [⟨10, 3, (pt b6 1), (cI .i64).val x5.Items⟩, ⟨7, 42, p9, cL.val x10⟩, ⟨5, 3, (pt b1 2), (cI .i64).val a2.Class⟩, ⟨3, 43, p7, cL.val x8⟩]) (by kernel_rfl) (by kernel_rfl) Ty3 (by kernel_rfl) rfl (At_api_Class_Items x5) (by kernel_rfl) rfl ?_
          refine OJ.run [11, 12] [13, 14, 15, 16, 17, 18, 19, 20, 21, 22, 23, 24, 25, 26, 27] [0, 3, 6, 9, 49] (m2 := [(0, .pointer a0), (3, .int .i64 a3), (6, .pointer (some (pt b1 0))), (9, .pointer (some (pt b6 0))), (49, .bool (decide ((x10.len : Int) ≥ x5.Items)))]) (by kernel_rfl) (by kernel_rfl) ?_
          refine OJ.join (b := decide ((x10.len : Int) ≥ x5.Items)) [13, 14, 15, 16, 17, 18, 19, 20, 21, 22, 23, 24, 25, 26, 27] [] [0, 3, 6, 64] (fun y15 => [(0, .pointer a0), (3, .int .i64 a3), (6, .pointer (some (pt b1 0))), (64, .bool y15)]) [⟨25, 3, (pt b6 2), (cI .i64).val x5.Bytes⟩, ⟨22, 3, (pt b1 3), (cI .i64).val a2.Size⟩, ⟨18, 3, (pt b1 2), (cI .i64).val a2.Class⟩, ⟨10, 3, (pt b6 1), (cI .i64).val x5.Items⟩, ⟨7, 42, p9, cL.val x10⟩, ⟨5, 3, (pt b1 2), (cI .i64).val a2.Class⟩, ⟨3, 43, p7, cL.val x8⟩] [16, 20] (by kernel_rfl) (t := 49) (by kernel_rfl) decide_eq_true_iff (fun hp_ => ?_) (fun hp_ => ?_) (by kernel_rfl) (fun _ _ _ _ _ _ h_ => h_) (fun y15 => ?_)
          · refine OJ.run [13, 14, 15, 16, 17, 18, 19, 20, 21, 22, 23, 24, 25, 26, 27] [] [0, 3, 6, 64] (m2 := [(0, .pointer a0), (3, .int .i64 a3), (6, .pointer (some (pt b1 0))), (64, .bool true)]) (by kernel_rfl) (by kernel_rfl) ?_
            exact OJ.nil ⟨(Cov.mem (Cov.keep (List.mem_of_getElem? (i := 3) rfl) (Cov.keep (List.mem_of_getElem? (i := 4) rfl) (Cov.keep (List.mem_of_getElem? (i := 5) rfl) (Cov.keep (List.mem_of_getElem? (i := 6) rfl) Cov.nil))))), rfl, _, rfl, by kernel_rfl⟩
          · refine OJ.run [13] [14, 15, 16, 17, 18, 19, 20, 21, 22, 23, 24, 25, 26, 27] [0, 3, 6, 9, 49, 50] (m2 := [(0, .pointer a0), (3, .int .i64 a3), (6, .pointer (some (pt b1 0))), (9, .pointer (some (pt b6 0))), (49, .bool false), (50, .pointer a0)]) (by kernel_rfl) (by kernel_rfl) ?_
            refine OJ.nilck (d := 51) (y := .tmp 50) (by kernel_rfl) (by kernel_rfl) (by kernel_rfl) (by kernel_rfl) (by kernel_rfl) (fun p11 => ?_)
            refine OJ.run [15] [16, 17, 18, 19, 20, 21, 22, 23, 24, 25, 26, 27] [0, 3, 6, 9, 49, 52] (m2 := [(0, .pointer a0), (3, .int .i64 a3), (6, .pointer (some (pt b1 0))), (9, .pointer (some (pt b6 0))), (49, .bool false), (52, .pointer (some (Addr.add p11 1)))]) (by kernel_rfl) (by kernel_rfl) ?_
            refine OJ.ld (d := 53) (T := 28) (y := .tmp 52) (pend2 := fun x12 => [⟨16, 28, (Addr.add p11 1), cL.val x12⟩, ⟨10, 3, (pt b6 1), (cI .i64).val x5.Items⟩, ⟨7, 42, p9, cL.val x10⟩, ⟨5, 3, (pt b1 2), (cI .i64).val a2.Class⟩, ⟨3, 43, p7, cL.val x8⟩]) (by kernel_rfl) (by kernel_rfl) Ty28 (by kernel_rfl) (by kernel_rfl) (fun _ => rfl) (fun x12 => ?_)
            refine OJ.run [17] [18, 19, 20, 21, 22, 23, 24, 25, 26, 27] [0, 3, 6, 9, 49, 53, 54] (m2 := [(0, .pointer a0), (3, .int .i64 a3), (6, .pointer (some (pt b1 0))), (9, .pointer (some (pt b6 0))), (49, .bool false), (53, Sl.v x12), (54, .pointer (some (pt b1 2)))]) (by kernel_rfl) (by kernel_rfl) ?_
            refine OJ.kld (d := 55) (T := 3) (y := .tmp 54) (cd := (cI .i64)) (j := 1) (b := b1) (o := 2) a2.Class (pend2 := [⟨18, 3, (pt b1 2), (cI .i64).val a2.Class⟩, ⟨16, 28, (Addr.add p11 1), cL.val x12⟩, ⟨10, 3, (pt b6 1), (cI .i64).val x5.Items⟩, ⟨7, 42, p9, cL.val x10⟩, ⟨5, 3, (pt b1 2), (cI .i64).val a2.Class⟩, ⟨3, 43, p7, cL.val x8⟩]) (by kernel_rfl) (by kernel_rfl) Ty3 (by kernel_rfl) rfl (At_weirlaw18_Op_Class a2) (by kernel_rfl) rfl ?_
            refine OJ.idxS (d := 56) (T := 28) (y := .tmp 53) (j := .tmp 55) (E := 3) (cap := x12.cap) (k := .i64) (by kernel_rfl) (by kernel_rfl) (by kernel_rfl) (by kernel_rfl) (by kernel_rfl) (by kernel_rfl) (by kernel_rfl) (by kernel_rfl) (fun p13 => ?_)
            refine OJ.ld (d := 57) (T := 3) (y := .tmp 56) (pend2 := fun x14 => [⟨20, 3, p13, (cI .i64).val x14⟩, ⟨18, 3, (pt b1 2), (cI .i64).val a2.Class⟩, ⟨16, 28, (Addr.add p11 1), cL.val x12⟩, ⟨10, 3, (pt b6 1), (cI .i64).val x5.Items⟩, ⟨7, 42, p9, cL.val x10⟩, ⟨5, 3, (pt b1 2), (cI .i64).val a2.Class⟩, ⟨3, 43, p7, cL.val x8⟩]) (by kernel_rfl) (by kernel_rfl) Ty3 (by kernel_rfl) (by kernel_rfl) (fun _ => rfl) (fun x14 => ?_)
            refine OJ.run [21] [22, 23, 24, 25, 26, 27] [0, 3, 6, 9, 49, 57, 58] (m2 := [(0, .pointer a0), (3, .int .i64 a3), (6, .pointer (some (pt b1 0))), (9, .pointer (some (pt b6 0))), (49, .bool false), (57, .int .i64 x14), (58, .pointer (some (pt b1 3)))]) (by kernel_rfl) (by kernel_rfl) ?_
            refine OJ.kld (d := 59) (T := 3) (y := .tmp 58) (cd := (cI .i64)) (j := 1) (b := b1) (o := 3) a2.Size (pend2 := [⟨22, 3, (pt b1 3), (cI .i64).val a2.Size⟩, ⟨20, 3, p13, (cI .i64).val x14⟩, ⟨18, 3, (pt b1 2), (cI .i64).val a2.Class⟩, ⟨16, 28, (Addr.add p11 1), cL.val x12⟩, ⟨10, 3, (pt b6 1), (cI .i64).val x5.Items⟩, ⟨7, 42, p9, cL.val x10⟩, ⟨5, 3, (pt b1 2), (cI .i64).val a2.Class⟩, ⟨3, 43, p7, cL.val x8⟩]) (by kernel_rfl) (by kernel_rfl) Ty3 (by kernel_rfl) rfl (At_weirlaw18_Op_Size a2) (by kernel_rfl) rfl ?_
            refine OJ.run [23, 24] [25, 26, 27] [0, 3, 6, 49, 60, 61] (m2 := [(0, .pointer a0), (3, .int .i64 a3), (6, .pointer (some (pt b1 0))), (49, .bool false), (60, .int .i64 (IntKind.wrap .i64 (x14 + a2.Size))), (61, .pointer (some (pt b6 2)))]) (by kernel_rfl) (by kernel_rfl) ?_
            refine OJ.kld (d := 62) (T := 3) (y := .tmp 61) (cd := (cI .i64)) (j := 0) (b := b6) (o := 2) x5.Bytes (pend2 := [⟨25, 3, (pt b6 2), (cI .i64).val x5.Bytes⟩, ⟨22, 3, (pt b1 3), (cI .i64).val a2.Size⟩, ⟨20, 3, p13, (cI .i64).val x14⟩, ⟨18, 3, (pt b1 2), (cI .i64).val a2.Class⟩, ⟨16, 28, (Addr.add p11 1), cL.val x12⟩, ⟨10, 3, (pt b6 1), (cI .i64).val x5.Items⟩, ⟨7, 42, p9, cL.val x10⟩, ⟨5, 3, (pt b1 2), (cI .i64).val a2.Class⟩, ⟨3, 43, p7, cL.val x8⟩]) (by kernel_rfl) (by kernel_rfl) Ty3 (by kernel_rfl) rfl (At_api_Class_Bytes x5) (by kernel_rfl) rfl ?_
            refine OJ.run [26, 27] [] [0, 3, 6, 64] (m2 := [(0, .pointer a0), (3, .int .i64 a3), (6, .pointer (some (pt b1 0))), (64, .bool (decide ((IntKind.wrap .i64 (x14 + a2.Size)) > x5.Bytes)))]) (by kernel_rfl) (by kernel_rfl) ?_
            exact OJ.nil ⟨(Cov.mem (Cov.keep (List.mem_of_getElem? (i := 0) rfl) (Cov.keep (List.mem_of_getElem? (i := 1) rfl) (Cov.drop (List.mem_of_getElem? (i := 1) rfl) (Cov.keep (List.mem_of_getElem? (i := 2) rfl) (Cov.drop (List.mem_of_getElem? (i := 0) rfl) (Cov.keep (List.mem_of_getElem? (i := 3) rfl) (Cov.keep (List.mem_of_getElem? (i := 4) rfl) (Cov.keep (List.mem_of_getElem? (i := 5) rfl) (Cov.keep (List.mem_of_getElem? (i := 6) rfl) Cov.nil)))))))))), rfl, _, rfl, by kernel_rfl⟩
          · refine OJ.nil ?_
            refine SJ.cond (t := (.tmp 64)) (b := y15) (by kernel_rfl) (by kernel_rfl) Iff.rfl (fun hc32 => ?_) (fun hc32 => ?_)
            · refine SJ.seq (by kernel_rfl) ?_
              refine SJ.region (id := 7) (by kernel_rfl) [0, 1, 2] (by kernel_rfl) ?_
              refine OJ.run [0, 1, 2] [] [8] (m2 := [(8, .bool (a3 == 183))]) (by kernel_rfl) (by kernel_rfl) ?_
              refine OJ.nil ?_
              exact SJ.ret (by kernel_rfl) rfl (Res.run (ys := [.bool (a3 == 183)]) (.tmp (by kernel_rfl) .nil) rfl)
            · refine SJ.skip (by kernel_rfl) ?_
              refine SJ.seq (by kernel_rfl) ?_
              refine SJ.draw (id := 8) (kd := [0, 0, 0, 1, 0, 1, 0, 0, 0, 1, 0, 1, 0, 1, 0, 1, 0, 1, 0, 2, 2, 0, 2]) (bef := [0, 1, 3, 7, 0, 16, 0, 64, 192, 448, 0, 1024, 4032, 8128, 0, 16384, 0, 65536, 245760, 507904, 1048512, 2097151, 4194303]) (ord := [0, 1, 2, 3, 4, 5, 6, 7, 8, 9, 10, 11, 12, 13, 14, 15, 16, 17, 18, 19, 20, 21, 22]) (by kernel_rfl) mixed (by kernel_rfl) ?_
              refine OJ.run [0] [1, 2, 3, 4, 5, 6, 7, 8, 9, 10, 11, 12, 13, 14, 15, 16, 17, 18, 19, 20, 21, 22] [0, 3, 6, 67] (m2 := [(0, .pointer a0), (3, .int .i64 a3), (6, .pointer (some (pt b1 0))), (67, .pointer a0)]) (by kernel_rfl) (by kernel_rfl) ?_
              refine OJ.nilck (d := 68) (y := .tmp 67) (by kernel_rfl) (by kernel_rfl) (by kernel_rfl) (by kernel_rfl) (by kernel_rfl) (fun p16 => ?_)
              refine OJ.run [2] [3, 4, 5, 6, 7, 8, 9, 10, 11, 12, 13, 14, 15, 16, 17, 18, 19, 20, 21, 22] [0, 3, 6, 69] (m2 := [(0, .pointer a0), (3, .int .i64 a3), (6, .pointer (some (pt b1 0))), (69, .pointer (some p16))]) (by kernel_rfl) (by kernel_rfl) ?_
              refine OJ.ld (d := 70) (T := 43) (y := .tmp 69) (pend2 := fun x17 => [⟨3, 43, p16, cL.val x17⟩]) (by kernel_rfl) (by kernel_rfl) Ty43 (by kernel_rfl) (by kernel_rfl) (fun _ => rfl) (fun x17 => ?_)
              refine OJ.run [4] [5, 6, 7, 8, 9, 10, 11, 12, 13, 14, 15, 16, 17, 18, 19, 20, 21, 22] [0, 3, 6, 70, 71] (m2 := [(0, .pointer a0), (3, .int .i64 a3), (6, .pointer (some (pt b1 0))), (70, Sl.v x17), (71, .pointer (some (pt b1 2)))]) (by kernel_rfl) (by kernel_rfl) ?_
              refine OJ.kld (d := 72) (T := 3) (y := .tmp 71) (cd := (cI .i64)) (j := 1) (b := b1) (o := 2) a2.Class (pend2 := [⟨5, 3, (pt b1 2), (cI .i64).val a2.Class⟩, ⟨3, 43, p16, cL.val x17⟩]) (by kernel_rfl) (by kernel_rfl) Ty3 (by kernel_rfl) rfl (At_weirlaw18_Op_Class a2) (by kernel_rfl) rfl ?_
              refine OJ.run [6] [7, 8, 9, 10, 11, 12, 13, 14, 15, 16, 17, 18, 19, 20, 21, 22] [0, 3, 6, 70, 72, 73] (m2 := [(0, .pointer a0), (3, .int .i64 a3), (6, .pointer (some (pt b1 0))), (70, Sl.v x17), (72, .int .i64 a2.Class), (73, .pointer a0)]) (by kernel_rfl) (by kernel_rfl) ?_
              refine OJ.nilck (d := 74) (y := .tmp 73) (by kernel_rfl) (by kernel_rfl) (by kernel_rfl) (by kernel_rfl) (by kernel_rfl) (fun p18 => ?_)
              refine OJ.run [8] [9, 10, 11, 12, 13, 14, 15, 16, 17, 18, 19, 20, 21, 22] [0, 3, 6, 70, 72, 75] (m2 := [(0, .pointer a0), (3, .int .i64 a3), (6, .pointer (some (pt b1 0))), (70, Sl.v x17), (72, .int .i64 a2.Class), (75, .pointer (some p18))]) (by kernel_rfl) (by kernel_rfl) ?_
              refine OJ.ld (d := 76) (T := 43) (y := .tmp 75) (pend2 := fun x19 => [⟨9, 43, p18, cL.val x19⟩, ⟨5, 3, (pt b1 2), (cI .i64).val a2.Class⟩, ⟨3, 43, p16, cL.val x17⟩]) (by kernel_rfl) (by kernel_rfl) Ty43 (by kernel_rfl) (by kernel_rfl) (fun _ => rfl) (fun x19 => ?_)
              refine OJ.run [10] [11, 12, 13, 14, 15, 16, 17, 18, 19, 20, 21, 22] [0, 3, 6, 70, 72, 76, 77] (m2 := [(0, .pointer a0), (3, .int .i64 a3), (6, .pointer (some (pt b1 0))), (70, Sl.v x17), (72, .int .i64 a2.Class), (76, Sl.v x19), (77, .pointer (some (pt b1 2)))]) (by kernel_rfl) (by kernel_rfl) ?_
              refine OJ.kld (d := 78) (T := 3) (y := .tmp 77) (cd := (cI .i64)) (j := 1) (b := b1) (o := 2) a2.Class (pend2 := [⟨11, 3, (pt b1 2), (cI .i64).val a2.Class⟩, ⟨9, 43, p18, cL.val x19⟩, ⟨5, 3, (pt b1 2), (cI .i64).val a2.Class⟩, ⟨3, 43, p16, cL.val x17⟩]) (by kernel_rfl) (by kernel_rfl) Ty3 (by kernel_rfl) rfl (At_weirlaw18_Op_Class a2) (by kernel_rfl) rfl ?_
              refine OJ.idxS (d := 79) (T := 43) (y := .tmp 76) (j := .tmp 78) (E := 42) (cap := x19.cap) (k := .i64) (by kernel_rfl) (by kernel_rfl) (by kernel_rfl) (by kernel_rfl) (by kernel_rfl) (by kernel_rfl) (by kernel_rfl) (by kernel_rfl) (fun p20 => ?_)
              refine OJ.ld (d := 80) (T := 42) (y := .tmp 79) (pend2 := fun x21 => [⟨13, 42, p20, cL.val x21⟩, ⟨11, 3, (pt b1 2), (cI .i64).val a2.Class⟩, ⟨9, 43, p18, cL.val x19⟩, ⟨5, 3, (pt b1 2), (cI .i64).val a2.Class⟩, ⟨3, 43, p16, cL.val x17⟩]) (by kernel_rfl) (by kernel_rfl) Ty42 (by kernel_rfl) (by kernel_rfl) (fun _ => rfl) (fun x21 => ?_)
              refine OJ.run [14] [15, 16, 17, 18, 19, 20, 21, 22] [0, 3, 6, 70, 72, 80, 81] (m2 := [(0, .pointer a0), (3, .int .i64 a3), (6, .pointer (some (pt b1 0))), (70, Sl.v x17), (72, .int .i64 a2.Class), (80, Sl.v x21), (81, .pointer (some (pt b1 3)))]) (by kernel_rfl) (by kernel_rfl) ?_
              refine OJ.kld (d := 82) (T := 3) (y := .tmp 81) (cd := (cI .i64)) (j := 1) (b := b1) (o := 3) a2.Size (pend2 := [⟨15, 3, (pt b1 3), (cI .i64).val a2.Size⟩, ⟨13, 42, p20, cL.val x21⟩, ⟨11, 3, (pt b1 2), (cI .i64).val a2.Class⟩, ⟨9, 43, p18, cL.val x19⟩, ⟨5, 3, (pt b1 2), (cI .i64).val a2.Class⟩, ⟨3, 43, p16, cL.val x17⟩]) (by kernel_rfl) (by kernel_rfl) Ty3 (by kernel_rfl) rfl (At_weirlaw18_Op_Size a2) (by kernel_rfl) rfl ?_
              refine OJ.run [16] [17, 18, 19, 20, 21, 22] [0, 3, 6, 70, 72, 80, 82, 83] (m2 := [(0, .pointer a0), (3, .int .i64 a3), (6, .pointer (some (pt b1 0))), (70, Sl.v x17), (72, .int .i64 a2.Class), (80, Sl.v x21), (82, .int .i64 a2.Size), (83, .pointer (some (pt b1 4)))]) (by kernel_rfl) (by kernel_rfl) ?_
              refine OJ.kld (d := 84) (T := 3) (y := .tmp 83) (cd := (cI .i64)) (j := 1) (b := b1) (o := 4) a2.Item (pend2 := [⟨17, 3, (pt b1 4), (cI .i64).val a2.Item⟩, ⟨15, 3, (pt b1 3), (cI .i64).val a2.Size⟩, ⟨13, 42, p20, cL.val x21⟩, ⟨11, 3, (pt b1 2), (cI .i64).val a2.Class⟩, ⟨9, 43, p18, cL.val x19⟩, ⟨5, 3, (pt b1 2), (cI .i64).val a2.Class⟩, ⟨3, 43, p16, cL.val x17⟩]) (by kernel_rfl) (by kernel_rfl) Ty3 (by kernel_rfl) rfl (At_weirlaw18_Op_Item a2) (by kernel_rfl) rfl ?_
              refine OJ.build (d := 85) (T := 66) (parts := [(0, .tmp 82), (1, .tmp 84)]) (ps := [(0, (cI .i64).val a2.Size), (1, (cI .i64).val a2.Item)]) (cd := c_weirlaw18_Item) (z0 := z_weirlaw18_Item) (⟨a2.Size, a2.Item⟩ : weirlaw18_Item) (by kernel_rfl) (by kernel_rfl) Ty66 rfl (by kernel_rfl) (Filled.cons (cd := (cI .i64)) (q := a2.Size) (o := 0) (by kernel_rfl) (Up_weirlaw18_Item_Size z_weirlaw18_Item a2.Size) (Filled.cons (cd := (cI .i64)) (q := a2.Item) (o := 1) (by kernel_rfl) (Up_weirlaw18_Item_Item (⟨a2.Size, z_weirlaw18_Item.Item⟩ : weirlaw18_Item) a2.Item) Filled.nil)) (by kernel_rfl) (by kernel_rfl) (by kernel_rfl) ?_
              refine OJ.rowSlot (d := 86) (t := 42) (parts := [(0, .tmp 85)]) (ps := [(0, c_weirlaw18_Item.val (⟨a2.Size, a2.Item⟩ : weirlaw18_Item))]) (cd := c_weirlaw18_Item) (⟨[(⟨a2.Size, a2.Item⟩ : weirlaw18_Item)], rfl⟩ : Vec weirlaw18_Item 1) (owed := [⟨13, 42, p20, cL.val x21⟩, ⟨11, 3, (pt b1 2), (cI .i64).val a2.Class⟩, ⟨9, 43, p18, cL.val x19⟩, ⟨5, 3, (pt b1 2), (cI .i64).val a2.Class⟩, ⟨3, 43, p16, cL.val x17⟩]) (by kernel_rfl) (by kernel_rfl) (by kernel_rfl) Ty66 (by kernel_rfl) (Filled.cons (cd := c_weirlaw18_Item) (q := (⟨a2.Size, a2.Item⟩ : weirlaw18_Item)) (o := 0) rfl (Upd.arr (i := 0) (by decide) (by decide)) Filled.nil) (by kernel_rfl) (by kernel_rfl) (by kernel_rfl) (fun b22 => ?_)
              refine OW.same Ty42 ?_
              refine OW.known (j := 2) (q := a2.Class) Ty3 rfl (At_weirlaw18_Op_Class a2) ?_
              refine OW.same Ty43 ?_
              refine OW.known (j := 2) (q := a2.Class) Ty3 rfl (At_weirlaw18_Op_Class a2) ?_
              refine OW.same Ty43 ?_
              refine OW.nil ?_
              refine OJ.appl (d := 87) (t := 42) (u := 42) (so := .tmp 80) (xo := .tmp 86) (j := 0) (b := b22) (l := (c_weirlaw18_Item.arr 1).enc (⟨[(⟨a2.Size, a2.Item⟩ : weirlaw18_Item)], rfl⟩ : Vec weirlaw18_Item 1)) (n := 1) (k := 1) [(⟨a2.Size, a2.Item⟩ : weirlaw18_Item)] (owed := [⟨5, 3, (pt b1 2), (cI .i64).val a2.Class⟩, ⟨3, 43, p16, cL.val x17⟩]) (by kernel_rfl) (by kernel_rfl) (by kernel_rfl) Ty66 (by kernel_rfl) (by kernel_rfl) (by kernel_rfl) (by rfl) (Cod.arr_enc _ _ _) (by rfl) (by kernel_rfl) (by kernel_rfl) (by kernel_rfl) (fun r23 => ?_)
              refine OW.known (j := 2) (q := a2.Class) Ty3 rfl (At_weirlaw18_Op_Class a2) ?_
              refine OW.same Ty43 ?_
              refine OW.nil ?_
              refine OJ.idxS (d := 88) (T := 43) (y := .tmp 70) (j := .tmp 72) (E := 42) (cap := x17.cap) (k := .i64) (by kernel_rfl) (by kernel_rfl) (by kernel_rfl) (by kernel_rfl) (by kernel_rfl) (by kernel_rfl) (by kernel_rfl) (by kernel_rfl) (fun p24 => ?_)
              refine OJ.st (T := 42) (y := .tmp 88) (z := .tmp 87) (owed := []) (by kernel_rfl) (by kernel_rfl) (by kernel_rfl) Ty42 (by kernel_rfl) (by kernel_rfl) ?_
              refine OW.nil ?_
              refine OJ.nil ?_
              refine SJ.seq (by kernel_rfl) ?_
              refine SJ.draw (id := 9) (kd := [0, 0, 0, 1, 0, 1, 0, 0, 0, 1, 0, 1, 0, 1, 0, 1, 0, 0, 2]) (bef := [0, 1, 3, 7, 0, 16, 0, 64, 192, 448, 0, 1024, 4032, 8128, 0, 16384, 65472, 131071, 262143]) (ord := [0, 1, 2, 3, 4, 5, 6, 7, 8, 9, 10, 11, 12, 13, 14, 15, 16, 17, 18]) (by kernel_rfl) mixed (by kernel_rfl) ?_
              refine OJ.run [0] [1, 2, 3, 4, 5, 6, 7, 8, 9, 10, 11, 12, 13, 14, 15, 16, 17, 18] [0, 3, 6, 89] (m2 := [(0, .pointer a0), (3, .int .i64 a3), (6, .pointer (some (pt b1 0))), (89, .pointer a0)]) (by kernel_rfl) (by kernel_rfl) ?_
              refine OJ.nilck (d := 90) (y := .tmp 89) (by kernel_rfl) (by kernel_rfl) (by kernel_rfl) (by kernel_rfl) (by kernel_rfl) (fun p25 => ?_)
              refine OJ.run [2] [3, 4, 5, 6, 7, 8, 9, 10, 11, 12, 13, 14, 15, 16, 17, 18] [0, 3, 6, 91] (m2 := [(0, .pointer a0), (3, .int .i64 a3), (6, .pointer (some (pt b1 0))), (91, .pointer (some (Addr.add p25 1)))]) (by kernel_rfl) (by kernel_rfl) ?_
              refine OJ.ld (d := 92) (T := 28) (y := .tmp 91) (pend2 := fun x26 => [⟨3, 28, (Addr.add p25 1), cL.val x26⟩]) (by kernel_rfl) (by kernel_rfl) Ty28 (by kernel_rfl) (by kernel_rfl) (fun _ => rfl) (fun x26 => ?_)
              refine OJ.run [4] [5, 6, 7, 8, 9, 10, 11, 12, 13, 14, 15, 16, 17, 18] [0, 3, 6, 92, 93] (m2 := [(0, .pointer a0), (3, .int .i64 a3), (6, .pointer (some (pt b1 0))), (92, Sl.v x26), (93, .pointer (some (pt b1 2)))]) (by kernel_rfl) (by kernel_rfl) ?_
              refine OJ.kld (d := 94) (T := 3) (y := .tmp 93) (cd := (cI .i64)) (j := 2) (b := b1) (o := 2) a2.Class (pend2 := [⟨5, 3, (pt b1 2), (cI .i64).val a2.Class⟩, ⟨3, 28, (Addr.add p25 1), cL.val x26⟩]) (by kernel_rfl) (by kernel_rfl) Ty3 (by kernel_rfl) rfl (At_weirlaw18_Op_Class a2) (by kernel_rfl) rfl ?_
              refine OJ.run [6] [7, 8, 9, 10, 11, 12, 13, 14, 15, 16, 17, 18] [3, 6, 92, 94, 95] (m2 := [(3, .int .i64 a3), (6, .pointer (some (pt b1 0))), (92, Sl.v x26), (94, .int .i64 a2.Class), (95, .pointer a0)]) (by kernel_rfl) (by kernel_rfl) ?_
              refine OJ.nilck (d := 96) (y := .tmp 95) (by kernel_rfl) (by kernel_rfl) (by kernel_rfl) (by kernel_rfl) (by kernel_rfl) (fun p27 => ?_)
              refine OJ.run [8] [9, 10, 11, 12, 13, 14, 15, 16, 17, 18] [3, 6, 92, 94, 97] (m2 := [(3, .int .i64 a3), (6, .pointer (some (pt b1 0))), (92, Sl.v x26), (94, .int .i64 a2.Class), (97, .pointer (some (Addr.add p27 1)))]) (by kernel_rfl) (by kernel_rfl) ?_
              refine OJ.ld (d := 98) (T := 28) (y := .tmp 97) (pend2 := fun x28 => [⟨9, 28, (Addr.add p27 1), cL.val x28⟩, ⟨5, 3, (pt b1 2), (cI .i64).val a2.Class⟩, ⟨3, 28, (Addr.add p25 1), cL.val x26⟩]) (by kernel_rfl) (by kernel_rfl) Ty28 (by kernel_rfl) (by kernel_rfl) (fun _ => rfl) (fun x28 => ?_)
              refine OJ.run [10] [11, 12, 13, 14, 15, 16, 17, 18] [3, 6, 92, 94, 98, 99] (m2 := [(3, .int .i64 a3), (6, .pointer (some (pt b1 0))), (92, Sl.v x26), (94, .int .i64 a2.Class), (98, Sl.v x28), (99, .pointer (some (pt b1 2)))]) (by kernel_rfl) (by kernel_rfl) ?_
              refine OJ.kld (d := 100) (T := 3) (y := .tmp 99) (cd := (cI .i64)) (j := 2) (b := b1) (o := 2) a2.Class (pend2 := [⟨11, 3, (pt b1 2), (cI .i64).val a2.Class⟩, ⟨9, 28, (Addr.add p27 1), cL.val x28⟩, ⟨5, 3, (pt b1 2), (cI .i64).val a2.Class⟩, ⟨3, 28, (Addr.add p25 1), cL.val x26⟩]) (by kernel_rfl) (by kernel_rfl) Ty3 (by kernel_rfl) rfl (At_weirlaw18_Op_Class a2) (by kernel_rfl) rfl ?_
              refine OJ.idxS (d := 101) (T := 28) (y := .tmp 98) (j := .tmp 100) (E := 3) (cap := x28.cap) (k := .i64) (by kernel_rfl) (by kernel_rfl) (by kernel_rfl) (by kernel_rfl) (by kernel_rfl) (by kernel_rfl) (by kernel_rfl) (by kernel_rfl) (fun p29 => ?_)
              refine OJ.ld (d := 102) (T := 3) (y := .tmp 101) (pend2 := fun x30 => [⟨13, 3, p29, (cI .i64).val x30⟩, ⟨11, 3, (pt b1 2), (cI .i64).val a2.Class⟩, ⟨9, 28, (Addr.add p27 1), cL.val x28⟩, ⟨5, 3, (pt b1 2), (cI .i64).val a2.Class⟩, ⟨3, 28, (Addr.add p25 1), cL.val x26⟩]) (by kernel_rfl) (by kernel_rfl) Ty3 (by kernel_rfl) (by kernel_rfl) (fun _ => rfl) (fun x30 => ?_)
              refine OJ.run [14] [15, 16, 17, 18] [3, 92, 94, 102, 103] (m2 := [(3, .int .i64 a3), (92, Sl.v x26), (94, .int .i64 a2.Class), (102, .int .i64 x30), (103, .pointer (some (pt b1 3)))]) (by kernel_rfl) (by kernel_rfl) ?_
              refine OJ.kld (d := 104) (T := 3) (y := .tmp 103) (cd := (cI .i64)) (j := 2) (b := b1) (o := 3) a2.Size (pend2 := [⟨15, 3, (pt b1 3), (cI .i64).val a2.Size⟩, ⟨13, 3, p29, (cI .i64).val x30⟩, ⟨11, 3, (pt b1 2), (cI .i64).val a2.Class⟩, ⟨9, 28, (Addr.add p27 1), cL.val x28⟩, ⟨5, 3, (pt b1 2), (cI .i64).val a2.Class⟩, ⟨3, 28, (Addr.add p25 1), cL.val x26⟩]) (by kernel_rfl) (by kernel_rfl) Ty3 (by kernel_rfl) rfl (At_weirlaw18_Op_Size a2) (by kernel_rfl) rfl ?_
              refine OJ.run [16] [17, 18] [3, 92, 94, 105] (m2 := [(3, .int .i64 a3), (92, Sl.v x26), (94, .int .i64 a2.Class), (105, .int .i64 (IntKind.wrap .i64 (x30 + a2.Size)))]) (by kernel_rfl) (by kernel_rfl) ?_
              refine OJ.idxS (d := 106) (T := 28) (y := .tmp 92) (j := .tmp 94) (E := 3) (cap := x26.cap) (k := .i64) (by kernel_rfl) (by kernel_rfl) (by kernel_rfl) (by kernel_rfl) (by kernel_rfl) (by kernel_rfl) (by kernel_rfl) (by kernel_rfl) (fun p31 => ?_)
              refine OJ.st (T := 3) (y := .tmp 106) (z := .tmp 105) (owed := []) (by kernel_rfl) (by kernel_rfl) (by kernel_rfl) Ty3 (by kernel_rfl) (by kernel_rfl) ?_
              refine OW.nil ?_
              refine OJ.nil ?_
              refine SJ.seq (by kernel_rfl) ?_
              refine SJ.region (id := 10) (by kernel_rfl) [0, 1, 2] (by kernel_rfl) ?_
              refine OJ.run [0, 1, 2] [] [8] (m2 := [(8, .bool (a3 == 0))]) (by kernel_rfl) (by kernel_rfl) ?_
              refine OJ.nil ?_
              exact SJ.ret (by kernel_rfl) rfl (Res.run (ys := [.bool (a3 == 0)]) (.tmp (by kernel_rfl) .nil) rfl)

/-! ### (*weir/weirlaw18.Book).none: function 22 -/
noncomputable def weirlaw18_Book_none.B : Code := (Try.f22.body).getD .skip
noncomputable def weirlaw18_Book_none.cx : Fx := ⟨Try.prog, 22, Try.f22⟩
noncomputable def weirlaw18_Book_none.out (r_ : Bool) : Value := .bool r_
noncomputable def weirlaw18_Book_none.F0 (r_ : Bool) : Reach := .ret (weirlaw18_Book_none.out r_)
noncomputable def weirlaw18_Book_none.F1 (a0 : (Option Addr)) : (LS Int Bool) → Reach := loopF [.inLoop (c1 (c1 (c2 (c1 (c2 weirlaw18_Book_none.B))))), .inBlock 0, .code (c2 (c2 weirlaw18_Book_none.B))] (fun s_ : Int => [(0, .pointer a0), (3, .int .i64 s_)]) (fun s_ : Int => []) weirlaw18_Book_none.F0
noncomputable def weirlaw18_Book_none.L1 (a0 : (Option Addr)) (s1 : Int) : M (LS Int Bool) :=
  nilck a0 >>= fun p10 =>
  ld cL p10 >>= fun x11 =>
  if s1 < (x11.len : Int) then
    nilck a0 >>= fun p12 =>
    ld cL p12 >>= fun x13 =>
    idx x13.a x13.len s1 1 >>= fun p14 =>
    ld cL p14 >>= fun x15 =>
    if (x15.len : Int) > 0 then
      pure (LS.done false)
    else
      pure (LS.next (IntKind.wrap .i64 (s1 + 1)))
  else
    pure (LS.done true)
theorem weirlaw18_Book_none.L1_ok (a0 : (Option Addr)) (s1 : Int) :
    SJ weirlaw18_Book_none.cx [.code (c1 (c1 (c2 (c1 (c2 weirlaw18_Book_none.B))))), .inLoop (c1 (c1 (c2 (c1 (c2 weirlaw18_Book_none.B))))), .inBlock 0, .code (c2 (c2 weirlaw18_Book_none.B))] [(0, .pointer a0), (3, .int .i64 s1)] [] (weirlaw18_Book_none.L1 a0 s1) (weirlaw18_Book_none.F1 a0) := by
  unfold weirlaw18_Book_none.L1
  refine SJ.seq (by kernel_rfl) ?_
  refine SJ.seq (by kernel_rfl) ?_
  refine SJ.region (id := 2) (by kernel_rfl) [0, 1, 2, 3, 4, 5, 6] (by kernel_rfl) ?_
  refine OJ.run [0, 1] [2, 3, 4, 5, 6] [0, 3, 4, 5] (m2 := [(0, .pointer a0), (3, .int .i64 s1), (4, .int .i64 s1), (5, .pointer a0)]) (by kernel_rfl) (by kernel_rfl) ?_
  refine OJ.nilck (d := 6) (y := .tmp 5) (by kernel_rfl) (by kernel_rfl) (by kernel_rfl) (by kernel_rfl) (by kernel_rfl) (fun p10 => ?_)
  refine OJ.run [3] [4, 5, 6] [0, 3, 4, 7] (m2 := [(0, .pointer a0), (3, .int .i64 s1), (4, .int .i64 s1), (7, .pointer (some p10))]) (by kernel_rfl) (by kernel_rfl) ?_
  refine OJ.ld (d := 8) (T := 43) (y := .tmp 7) (pend2 := fun x11 => []) (by kernel_rfl) (by kernel_rfl) Ty43 (by kernel_rfl) (by kernel_rfl) (fun _ => rfl) (fun x11 => ?_)
  refine OJ.run [5, 6] [] [0, 3, 10] (m2 := [(0, .pointer a0), (3, .int .i64 s1), (10, .bool (decide (s1 < (x11.len : Int))))]) (by kernel_rfl) (by kernel_rfl) ?_
  refine OJ.nil ?_
  refine SJ.cond (t := (.tmp 10)) (b := decide (s1 < (x11.len : Int))) (by kernel_rfl) (by kernel_rfl) decide_eq_true_iff (fun hc17 => ?_) (fun hc17 => ?_)
  · refine SJ.skip (by kernel_rfl) ?_
    refine SJ.seq (by kernel_rfl) ?_
    refine SJ.block (id := 1) (by kernel_rfl) ?_
    refine SJ.seq (by kernel_rfl) ?_
    refine SJ.region (id := 4) (by kernel_rfl) [0, 1, 2, 3, 4, 5, 6, 7, 8] (by kernel_rfl) ?_
    refine OJ.run [0] [1, 2, 3, 4, 5, 6, 7, 8] [0, 3, 13] (m2 := [(0, .pointer a0), (3, .int .i64 s1), (13, .pointer a0)]) (by kernel_rfl) (by kernel_rfl) ?_
    refine OJ.nilck (d := 14) (y := .tmp 13) (by kernel_rfl) (by kernel_rfl) (by kernel_rfl) (by kernel_rfl) (by kernel_rfl) (fun p12 => ?_)
    refine OJ.run [2] [3, 4, 5, 6, 7, 8] [0, 3, 15] (m2 := [(0, .pointer a0), (3, .int .i64 s1), (15, .pointer (some p12))]) (by kernel_rfl) (by kernel_rfl) ?_
    refine OJ.ld (d := 16) (T := 43) (y := .tmp 15) (pend2 := fun x13 => []) (by kernel_rfl) (by kernel_rfl) Ty43 (by kernel_rfl) (by kernel_rfl) (fun _ => rfl) (fun x13 => ?_)
    refine OJ.run [4] [5, 6, 7, 8] [0, 3, 16, 17] (m2 := [(0, .pointer a0), (3, .int .i64 s1), (16, Sl.v x13), (17, .int .i64 s1)]) (by kernel_rfl) (by kernel_rfl) ?_
    refine OJ.idxS (d := 18) (T := 43) (y := .tmp 16) (j := .tmp 17) (E := 42) (cap := x13.cap) (k := .i64) (by kernel_rfl) (by kernel_rfl) (by kernel_rfl) (by kernel_rfl) (by kernel_rfl) (by kernel_rfl) (by kernel_rfl) (by kernel_rfl) (fun p14 => ?_)
    refine OJ.ld (d := 19) (T := 42) (y := .tmp 18) (pend2 := fun x15 => []) (by kernel_rfl) (by kernel_rfl) Ty42 (by kernel_rfl) (by kernel_rfl) (fun _ => rfl) (fun x15 => ?_)
    refine OJ.run [7, 8] [] [0, 3, 21] (m2 := [(0, .pointer a0), (3, .int .i64 s1), (21, .bool (decide ((x15.len : Int) > 0)))]) (by kernel_rfl) (by kernel_rfl) ?_
    refine OJ.nil ?_
    refine SJ.cond (t := (.tmp 21)) (b := decide ((x15.len : Int) > 0)) (by kernel_rfl) (by kernel_rfl) decide_eq_true_iff (fun hc16 => ?_) (fun hc16 => ?_)
    · refine SJ.seq (by kernel_rfl) ?_
      refine SJ.region (id := 5) (by kernel_rfl) [0] (by kernel_rfl) ?_
      refine OJ.run [0] [] [2] (m2 := [(2, .bool false)]) (by kernel_rfl) (by kernel_rfl) ?_
      refine OJ.nil ?_
      exact SJ.ret (by kernel_rfl) rfl (Res.run (ys := [.bool false]) (.tmp (by kernel_rfl) .nil) rfl)
    · refine SJ.skip (by kernel_rfl) ?_
      refine SJ.inBlock ?_
      refine SJ.region (id := 3) (by kernel_rfl) [0, 1, 2] (by kernel_rfl) ?_
      refine OJ.run [0, 1, 2] [] [0, 3] (m2 := [(0, .pointer a0), (3, .int .i64 (IntKind.wrap .i64 (s1 + 1)))]) (by kernel_rfl) (by kernel_rfl) ?_
      refine OJ.nil ?_
      exact SJ.at_ [0, 3] rfl (by kernel_rfl)
  · refine SJ.exit (id := 0) (by kernel_rfl) (by rfl) ?_
    refine SJ.seq (by kernel_rfl) ?_
    refine SJ.region (id := 6) (by kernel_rfl) [0] (by kernel_rfl) ?_
    refine OJ.run [0] [] [2] (m2 := [(2, .bool true)]) (by kernel_rfl) (by kernel_rfl) ?_
    refine OJ.nil ?_
    exact SJ.ret (by kernel_rfl) rfl (Res.run (ys := [.bool true]) (.tmp (by kernel_rfl) .nil) rfl)
noncomputable def weirlaw18_Book_none (a0 : (Option Addr)) : M Bool :=
  loopM (fun s_ : Int => weirlaw18_Book_none.L1 a0 s_) 0
theorem weirlaw18_Book_none_ok (a0 : (Option Addr)) : Ref Try.prog 22 [.pointer a0] (weirlaw18_Book_none a0) weirlaw18_Book_none.out := by
  refine Ref.of (cd := weirlaw18_Book_none.B) Try.func22 (by kernel_rfl) (by kernel_rfl) ?_
  show SJ weirlaw18_Book_none.cx [.code weirlaw18_Book_none.B] [(0, .pointer a0)] [] (weirlaw18_Book_none a0) weirlaw18_Book_none.F0
  unfold weirlaw18_Book_none
  refine SJ.seq (by kernel_rfl) ?_
  refine SJ.region (id := 0) (by kernel_rfl) [0] (by kernel_rfl) ?_
  refine OJ.run [0] [] [0] (m2 := [(0, .pointer a0)]) (by kernel_rfl) (by kernel_rfl) ?_
  refine OJ.nil ?_
  refine SJ.seq (by kernel_rfl) ?_
  refine SJ.seq (by kernel_rfl) ?_
  refine SJ.region (id := 1) (by kernel_rfl) [0] (by kernel_rfl) ?_
  refine OJ.run [0] [] [0, 3] (m2 := [(0, .pointer a0), (3, .int .i64 0)]) (by kernel_rfl) (by kernel_rfl) ?_
  refine OJ.nil ?_
  refine SJ.block (id := 0) (by kernel_rfl) ?_
  exact SJ.loop (fun s_ : Int => [(0, .pointer a0), (3, .int .i64 s_)]) (fun s_ : Int => []) [0, 3] (by kernel_rfl) (by kernel_rfl) rfl (fun _ _ => rfl) (fun s_ => weirlaw18_Book_none.L1_ok a0 s_)

/-! ### (*weir/weirlaw18.Book).popped: function 23 -/
noncomputable def weirlaw18_Book_popped.B : Code := (Try.f23.body).getD .skip
noncomputable def weirlaw18_Book_popped.cx : Fx := ⟨Try.prog, 23, Try.f23⟩
noncomputable def weirlaw18_Book_popped.out (r_ : Bool) : Value := .bool r_
noncomputable def weirlaw18_Book_popped.F0 (r_ : Bool) : Reach := .ret (weirlaw18_Book_popped.out r_)
noncomputable def weirlaw18_Book_popped (a0 : (Option Addr)) (a1 : Int) (a2 : Int) : M Bool :=
  (if a2 < 0 then
      pure true
    else
      nilck a0 >>= fun p1 =>
      ld cL p1 >>= fun x2 =>
      pure (decide (a2 ≥ (x2.len : Int)))) >>= fun y3 =>
  (if y3 = true then
      pure true
    else
      nilck a0 >>= fun p4 =>
      ld cL p4 >>= fun x5 =>
      idx x5.a x5.len a2 1 >>= fun p6 =>
      ld cL p6 >>= fun x7 =>
      pure ((x7.len : Int) == 0)) >>= fun y8 =>
  (if y8 = true then
      pure true
    else
      nilck a0 >>= fun p9 =>
      ld cL p9 >>= fun x10 =>
      idx x10.a x10.len a2 1 >>= fun p11 =>
      ld cL p11 >>= fun x12 =>
      idx x12.a x12.len 0 2 >>= fun p13 =>
      ld (cI .i64) (Addr.add p13 1) >>= fun x14 =>
      pure (x14 != a1)) >>= fun y15 =>
  if y15 = true then
    pure false
  else
    nilck a0 >>= fun p16 =>
    ld cL p16 >>= fun x17 =>
    idx x17.a x17.len a2 1 >>= fun p18 =>
    ld cL p18 >>= fun x19 =>
    idx x19.a x19.len 0 2 >>= fun p20 =>
    ld (cI .i64) p20 >>= fun x21 =>
    draw >>= fun _ =>
    nilck a0 >>= fun p22 =>
    ld cL p22 >>= fun x23 =>
    nilck a0 >>= fun p24 =>
    ld cL p24 >>= fun x25 =>
    idx x25.a x25.len a2 1 >>= fun p26 =>
    ld cL p26 >>= fun x27 =>
    cut 2 x27 (some 1) none none >>= fun r28 =>
    idx x23.a x23.len a2 1 >>= fun p29 =>
    st cL p29 r28 >>= fun _ =>
    draw >>= fun _ =>
    nilck a0 >>= fun p30 =>
    ld cL (Addr.add p30 1) >>= fun x31 =>
    nilck a0 >>= fun p32 =>
    ld cL (Addr.add p32 1) >>= fun x33 =>
    idx x33.a x33.len a2 1 >>= fun p34 =>
    ld (cI .i64) p34 >>= fun x35 =>
    idx x31.a x31.len a2 1 >>= fun p36 =>
    st (cI .i64) p36 (IntKind.wrap .i64 (x35 - x21)) >>= fun _ =>
    draw >>= fun _ =>
    nilck a0 >>= fun p37 =>
    ld cL (Addr.add p37 2) >>= fun x38 =>
    nilck a0 >>= fun p39 =>
    ld cL (Addr.add p39 2) >>= fun x40 =>
    idx x40.a x40.len a2 1 >>= fun p41 =>
    ld (cI .i64) p41 >>= fun x42 =>
    idx x38.a x38.len a2 1 >>= fun p43 =>
    st (cI .i64) p43 (IntKind.wrap .i64 (x42 + x21)) >>= fun _ =>
    pure true
theorem weirlaw18_Book_popped_ok (a0 : (Option Addr)) (a1 : Int) (a2 : Int) : Ref Try.prog 23 [.pointer a0, .int .i64 a1, .int .i64 a2] (weirlaw18_Book_popped a0 a1 a2) weirlaw18_Book_popped.out := by
  refine Ref.of (cd := weirlaw18_Book_popped.B) Try.func23 (by kernel_rfl) (by kernel_rfl) ?_
  show SJ weirlaw18_Book_popped.cx [.code weirlaw18_Book_popped.B] [(0, .pointer a0), (1, .int .i64 a1), (2, .int .i64 a2)] [] (weirlaw18_Book_popped a0 a1 a2) weirlaw18_Book_popped.F0
  unfold weirlaw18_Book_popped
  refine SJ.seq (by kernel_rfl) ?_
  refine SJ.region (id := 0) (by kernel_rfl) [0] (by kernel_rfl) ?_
  refine OJ.run [0] [] [0, 1, 2] (m2 := [(0, .pointer a0), (1, .int .i64 a1), (2, .int .i64 a2)]) (by kernel_rfl) (by kernel_rfl) ?_
  refine OJ.nil ?_
  refine SJ.seq (by kernel_rfl) ?_
  refine SJ.seq (by kernel_rfl) ?_
  refine SJ.region (id := 1) (by kernel_rfl) [0, 1, 2, 3, 4, 5, 6, 7, 8, 9, 10, 11, 12, 13, 14, 15, 16, 17, 18, 19, 20, 21, 22, 23, 24, 25, 26, 27, 28, 29, 30, 31, 32, 33, 34, 35] (by kernel_rfl) ?_
  refine OJ.run [0, 1, 2] [3, 4, 5, 6, 7, 8, 9, 10, 11, 12, 13, 14, 15, 16, 17, 18, 19, 20, 21, 22, 23, 24, 25, 26, 27, 28, 29, 30, 31, 32, 33, 34, 35] [0, 1, 2, 10] (m2 := [(0, .pointer a0), (1, .int .i64 a1), (2, .int .i64 a2), (10, .bool (decide (a2 < 0)))]) (by kernel_rfl) (by kernel_rfl) ?_
  refine OJ.join (b := decide (a2 < 0)) [3, 4, 5, 6, 7, 8, 9, 10] [11, 12, 13, 14, 15, 16, 17, 18, 19, 20, 21, 22, 23, 24, 25, 26, 27, 28, 29, 30, 31, 32, 33, 34, 35] [0, 1, 2, 18] (fun y3 => [(0, .pointer a0), (1, .int .i64 a1), (2, .int .i64 a2), (18, .bool y3)]) [] [] (by kernel_rfl) (t := 10) (by kernel_rfl) decide_eq_true_iff (fun hp_ => ?_) (fun hp_ => ?_) (by kernel_rfl) (fun _ _ _ _ _ _ h_ => h_) (fun y3 => ?_)
  · refine OJ.run [3, 4, 5, 6, 7, 8, 9, 10] [] [0, 1, 2, 18] (m2 := [(0, .pointer a0), (1, .int .i64 a1), (2, .int .i64 a2), (18, .bool true)]) (by kernel_rfl) (by kernel_rfl) ?_
    exact OJ.nil ⟨(Cov.mem Cov.nil), rfl, _, rfl, by kernel_rfl⟩
  · refine OJ.run [3, 4] [5, 6, 7, 8, 9, 10] [0, 1, 2, 10, 11, 12] (m2 := [(0, .pointer a0), (1, .int .i64 a1), (2, .int .i64 a2), (10, .bool false), (11, .int .i64 a2), (12, .pointer a0)]) (by kernel_rfl) (by kernel_rfl) ?_
    refine OJ.nilck (d := 13) (y := .tmp 12) (by kernel_rfl) (by kernel_rfl) (by kernel_rfl) (by kernel_rfl) (by kernel_rfl) (fun p1 => ?_)
    refine OJ.run [6] [7, 8, 9, 10] [0, 1, 2, 10, 11, 14] (m2 := [(0, .pointer a0), (1, .int .i64 a1), (2, .int .i64 a2), (10, .bool false), (11, .int .i64 a2), (14, .pointer (some p1))]) (by kernel_rfl) (by kernel_rfl) ?_
    refine OJ.ld (d := 15) (T := 43) (y := .tmp 14) (pend2 := fun x2 => []) (by kernel_rfl) (by kernel_rfl) Ty43 (by kernel_rfl) (by kernel_rfl) (fun _ => rfl) (fun x2 => ?_)
    refine OJ.run [8, 9, 10] [] [0, 1, 2, 18] (m2 := [(0, .pointer a0), (1, .int .i64 a1), (2, .int .i64 a2), (18, .bool (decide (a2 ≥ (x2.len : Int))))]) (by kernel_rfl) (by kernel_rfl) ?_
    exact OJ.nil ⟨(Cov.mem Cov.nil), rfl, _, rfl, by kernel_rfl⟩
  · refine OJ.run [11] [12, 13, 14, 15, 16, 17, 18, 19, 20, 21, 22, 23, 24, 25, 26, 27, 28, 29, 30, 31, 32, 33, 34, 35] [0, 1, 2, 19] (m2 := [(0, .pointer a0), (1, .int .i64 a1), (2, .int .i64 a2), (19, .bool y3)]) (by kernel_rfl) (by kernel_rfl) ?_
    refine OJ.join (b := y3) [12, 13, 14, 15, 16, 17, 18, 19, 20, 21] [22, 23, 24, 25, 26, 27, 28, 29, 30, 31, 32, 33, 34, 35] [0, 1, 2, 29] (fun y8 => [(0, .pointer a0), (1, .int .i64 a1), (2, .int .i64 a2), (29, .bool y8)]) [] [] (by kernel_rfl) (t := 19) (by kernel_rfl) Iff.rfl (fun hp_ => ?_) (fun hp_ => ?_) (by kernel_rfl) (fun _ _ _ _ _ _ h_ => h_) (fun y8 => ?_)
    · refine OJ.run [12, 13, 14, 15, 16, 17, 18, 19, 20, 21] [] [0, 1, 2, 29] (m2 := [(0, .pointer a0), (1, .int .i64 a1), (2, .int .i64 a2), (29, .bool true)]) (by kernel_rfl) (by kernel_rfl) ?_
      exact OJ.nil ⟨(Cov.mem Cov.nil), rfl, _, rfl, by kernel_rfl⟩
    · refine OJ.run [12] [13, 14, 15, 16, 17, 18, 19, 20, 21] [0, 1, 2, 19, 20] (m2 := [(0, .pointer a0), (1, .int .i64 a1), (2, .int .i64 a2), (19, .bool false), (20, .pointer a0)]) (by kernel_rfl) (by kernel_rfl) ?_
      refine OJ.nilck (d := 21) (y := .tmp 20) (by kernel_rfl) (by kernel_rfl) (by kernel_rfl) (by kernel_rfl) (by kernel_rfl) (fun p4 => ?_)
      refine OJ.run [14] [15, 16, 17, 18, 19, 20, 21] [0, 1, 2, 19, 22] (m2 := [(0, .pointer a0), (1, .int .i64 a1), (2, .int .i64 a2), (19, .bool false), (22, .pointer (some p4))]) (by kernel_rfl) (by kernel_rfl) ?_
      refine OJ.ld (d := 23) (T := 43) (y := .tmp 22) (pend2 := fun x5 => []) (by kernel_rfl) (by kernel_rfl) Ty43 (by kernel_rfl) (by kernel_rfl) (fun _ => rfl) (fun x5 => ?_)
      refine OJ.run [16] [17, 18, 19, 20, 21] [0, 1, 2, 19, 23, 24] (m2 := [(0, .pointer a0), (1, .int .i64 a1), (2, .int .i64 a2), (19, .bool false), (23, Sl.v x5), (24, .int .i64 a2)]) (by kernel_rfl) (by kernel_rfl) ?_
      refine OJ.idxS (d := 25) (T := 43) (y := .tmp 23) (j := .tmp 24) (E := 42) (cap := x5.cap) (k := .i64) (by kernel_rfl) (by kernel_rfl) (by kernel_rfl) (by kernel_rfl) (by kernel_rfl) (by kernel_rfl) (by kernel_rfl) (by kernel_rfl) (fun p6 => ?_)
      refine OJ.ld (d := 26) (T := 42) (y := .tmp 25) (pend2 := fun x7 => []) (by kernel_rfl) (by kernel_rfl) Ty42 (by kernel_rfl) (by kernel_rfl) (fun _ => rfl) (fun x7 => ?_)
      refine OJ.run [19, 20, 21] [] [0, 1, 2, 29] (m2 := [(0, .pointer a0), (1, .int .i64 a1), (2, .int .i64 a2), (29, .bool ((x7.len : Int) == 0))]) (by kernel_rfl) (by kernel_rfl) ?_
      exact OJ.nil ⟨(Cov.mem Cov.nil), rfl, _, rfl, by kernel_rfl⟩
    · refine OJ.run [22] [23, 24, 25, 26, 27, 28, 29, 30, 31, 32, 33, 34, 35] [0, 1, 2, 30] (m2 := [(0, .pointer a0), (1, .int .i64 a1), (2, .int .i64 a2), (30, .bool y8)]) (by kernel_rfl) (by kernel_rfl) ?_
      refine OJ.join (b := y8) [23, 24, 25, 26, 27, 28, 29, 30, 31, 32, 33, 34, 35] [] [0, 2, 43] (fun y15 => [(0, .pointer a0), (2, .int .i64 a2), (43, .bool y15)]) [] [] (by kernel_rfl) (t := 30) (by kernel_rfl) Iff.rfl (fun hp_ => ?_) (fun hp_ => ?_) (by kernel_rfl) (fun _ _ _ _ _ _ h_ => h_) (fun y15 => ?_)
      · refine OJ.run [23, 24, 25, 26, 27, 28, 29, 30, 31, 32, 33, 34, 35] [] [0, 2, 43] (m2 := [(0, .pointer a0), (2, .int .i64 a2), (43, .bool true)]) (by kernel_rfl) (by kernel_rfl) ?_
        exact OJ.nil ⟨(Cov.mem Cov.nil), rfl, _, rfl, by kernel_rfl⟩
      · refine OJ.run [23] [24, 25, 26, 27, 28, 29, 30, 31, 32, 33, 34, 35] [0, 1, 2, 30, 31] (m2 := [(0, .pointer a0), (1, .int .i64 a1), (2, .int .i64 a2), (30, .bool false), (31, .pointer a0)]) (by kernel_rfl) (by kernel_rfl) ?_
        refine OJ.nilck (d := 32) (y := .tmp 31) (by kernel_rfl) (by kernel_rfl) (by kernel_rfl) (by kernel_rfl) (by kernel_rfl) (fun p9 => ?_)
        refine OJ.run [25] [26, 27, 28, 29, 30, 31, 32, 33, 34, 35] [0, 1, 2, 30, 33] (m2 := [(0, .pointer a0), (1, .int .i64 a1), (2, .int .i64 a2), (30, .bool false), (33, .pointer (some p9))]) (by kernel_rfl) (by kernel_rfl) ?_
        refine OJ.ld (d := 34) (T := 43) (y := .tmp 33) (pend2 := fun x10 => []) (by kernel_rfl) (by kernel_rfl) Ty43 (by kernel_rfl) (by kernel_rfl) (fun _ => rfl) (fun x10 => ?_)
        refine OJ.run [27] [28, 29, 30, 31, 32, 33, 34, 35] [0, 1, 2, 30, 34, 35] (m2 := [(0, .pointer a0), (1, .int .i64 a1), (2, .int .i64 a2), (30, .bool false), (34, Sl.v x10), (35, .int .i64 a2)]) (by kernel_rfl) (by kernel_rfl) ?_
        refine OJ.idxS (d := 36) (T := 43) (y := .tmp 34) (j := .tmp 35) (E := 42) (cap := x10.cap) (k := .i64) (by kernel_rfl) (by kernel_rfl) (by kernel_rfl) (by kernel_rfl) (by kernel_rfl) (by kernel_rfl) (by kernel_rfl) (by kernel_rfl) (fun p11 => ?_)
        refine OJ.ld (d := 37) (T := 42) (y := .tmp 36) (pend2 := fun x12 => []) (by kernel_rfl) (by kernel_rfl) Ty42 (by kernel_rfl) (by kernel_rfl) (fun _ => rfl) (fun x12 => ?_)
        refine OJ.idxS (d := 38) (T := 42) (y := .tmp 37) (j := .const (.int .i64 0)) (E := 66) (cap := x12.cap) (k := .i64) (by kernel_rfl) (by kernel_rfl) (by kernel_rfl) (by kernel_rfl) (by kernel_rfl) (by kernel_rfl) (by kernel_rfl) (by kernel_rfl) (fun p13 => ?_)
        refine OJ.run [31] [32, 33, 34, 35] [0, 1, 2, 30, 39] (m2 := [(0, .pointer a0), (1, .int .i64 a1), (2, .int .i64 a2), (30, .bool false), (39, .pointer (some (Addr.add p13 1)))]) (by kernel_rfl) (by kernel_rfl) ?_
        refine OJ.ld (d := 40) (T := 3) (y := .tmp 39) (pend2 := fun x14 => []) (by kernel_rfl) (by kernel_rfl) Ty3 (by kernel_rfl) (by kernel_rfl) (fun _ => rfl) (fun x14 => ?_)
        refine OJ.run [33, 34, 35] [] [0, 2, 43] (m2 := [(0, .pointer a0), (2, .int .i64 a2), (43, .bool (x14 != a1))]) (by kernel_rfl) (by kernel_rfl) ?_
        exact OJ.nil ⟨(Cov.mem Cov.nil), rfl, _, rfl, by kernel_rfl⟩
      · refine OJ.nil ?_
        refine SJ.cond (t := (.tmp 43)) (b := y15) (by kernel_rfl) (by kernel_rfl) Iff.rfl (fun hc44 => ?_) (fun hc44 => ?_)
        · refine SJ.seq (by kernel_rfl) ?_
          refine SJ.region (id := 2) (by kernel_rfl) [0] (by kernel_rfl) ?_
          refine OJ.run [0] [] [6] (m2 := [(6, .bool false)]) (by kernel_rfl) (by kernel_rfl) ?_
          refine OJ.nil ?_
          exact SJ.ret (by kernel_rfl) rfl (Res.run (ys := [.bool false]) (.tmp (by kernel_rfl) .nil) rfl)
        · refine SJ.skip (by kernel_rfl) ?_
          refine SJ.seq (by kernel_rfl) ?_
          refine SJ.region (id := 3) (by kernel_rfl) [0, 1, 2, 3, 4, 5, 6, 7, 8, 9, 10] (by kernel_rfl) ?_
          refine OJ.run [0] [1, 2, 3, 4, 5, 6, 7, 8, 9, 10] [0, 2, 44] (m2 := [(0, .pointer a0), (2, .int .i64 a2), (44, .pointer a0)]) (by kernel_rfl) (by kernel_rfl) ?_
          refine OJ.nilck (d := 45) (y := .tmp 44) (by kernel_rfl) (by kernel_rfl) (by kernel_rfl) (by kernel_rfl) (by kernel_rfl) (fun p16 => ?_)
          refine OJ.run [2] [3, 4, 5, 6, 7, 8, 9, 10] [0, 2, 46] (m2 := [(0, .pointer a0), (2, .int .i64 a2), (46, .pointer (some p16))]) (by kernel_rfl) (by kernel_rfl) ?_
          refine OJ.ld (d := 47) (T := 43) (y := .tmp 46) (pend2 := fun x17 => []) (by kernel_rfl) (by kernel_rfl) Ty43 (by kernel_rfl) (by kernel_rfl) (fun _ => rfl) (fun x17 => ?_)
          refine OJ.run [4] [5, 6, 7, 8, 9, 10] [0, 2, 47, 48] (m2 := [(0, .pointer a0), (2, .int .i64 a2), (47, Sl.v x17), (48, .int .i64 a2)]) (by kernel_rfl) (by kernel_rfl) ?_
          refine OJ.idxS (d := 49) (T := 43) (y := .tmp 47) (j := .tmp 48) (E := 42) (cap := x17.cap) (k := .i64) (by kernel_rfl) (by kernel_rfl) (by kernel_rfl) (by kernel_rfl) (by kernel_rfl) (by kernel_rfl) (by kernel_rfl) (by kernel_rfl) (fun p18 => ?_)
          refine OJ.ld (d := 50) (T := 42) (y := .tmp 49) (pend2 := fun x19 => []) (by kernel_rfl) (by kernel_rfl) Ty42 (by kernel_rfl) (by kernel_rfl) (fun _ => rfl) (fun x19 => ?_)
          refine OJ.idxS (d := 51) (T := 42) (y := .tmp 50) (j := .const (.int .i64 0)) (E := 66) (cap := x19.cap) (k := .i64) (by kernel_rfl) (by kernel_rfl) (by kernel_rfl) (by kernel_rfl) (by kernel_rfl) (by kernel_rfl) (by kernel_rfl) (by kernel_rfl) (fun p20 => ?_)
          refine OJ.run [8] [9, 10] [0, 2, 52] (m2 := [(0, .pointer a0), (2, .int .i64 a2), (52, .pointer (some p20))]) (by kernel_rfl) (by kernel_rfl) ?_
          refine OJ.ld (d := 53) (T := 3) (y := .tmp 52) (pend2 := fun x21 => []) (by kernel_rfl) (by kernel_rfl) Ty3 (by kernel_rfl) (by kernel_rfl) (fun _ => rfl) (fun x21 => ?_)
          refine OJ.run [10] [] [0, 2, 7] (m2 := [(0, .pointer a0), (2, .int .i64 a2), (7, .int .i64 x21)]) (by kernel_rfl) (by kernel_rfl) ?_
          refine OJ.nil ?_
          refine SJ.seq (by kernel_rfl) ?_
          refine SJ.draw (id := 4) (kd := [0, 0, 0, 1, 0, 0, 0, 0, 1, 0, 0, 1, 0, 0, 2]) (bef := [0, 1, 3, 7, 0, 0, 32, 96, 224, 0, 992, 2016, 4064, 8191, 16383]) (ord := [0, 1, 2, 3, 4, 5, 6, 7, 8, 9, 10, 11, 12, 13, 14]) (by kernel_rfl) mixed (by kernel_rfl) ?_
          refine OJ.run [0] [1, 2, 3, 4, 5, 6, 7, 8, 9, 10, 11, 12, 13, 14] [0, 2, 7, 54] (m2 := [(0, .pointer a0), (2, .int .i64 a2), (7, .int .i64 x21), (54, .pointer a0)]) (by kernel_rfl) (by kernel_rfl) ?_
          refine OJ.nilck (d := 55) (y := .tmp 54) (by kernel_rfl) (by kernel_rfl) (by kernel_rfl) (by kernel_rfl) (by kernel_rfl) (fun p22 => ?_)
          refine OJ.run [2] [3, 4, 5, 6, 7, 8, 9, 10, 11, 12, 13, 14] [0, 2, 7, 56] (m2 := [(0, .pointer a0), (2, .int .i64 a2), (7, .int .i64 x21), (56, .pointer (some p22))]) (by kernel_rfl) (by kernel_rfl) ?_
          refine OJ.ld (d := 57) (T := 43) (y := .tmp 56) (pend2 := fun x23 => [⟨3, 43, p22, cL.val x23⟩]) (by kernel_rfl) (by kernel_rfl) Ty43 (by kernel_rfl) (by kernel_rfl) (fun _ => rfl) (fun x23 => ?_)
          refine OJ.run [4, 5] [6, 7, 8, 9, 10, 11, 12, 13, 14] [0, 2, 7, 57, 58, 59] (m2 := [(0, .pointer a0), (2, .int .i64 a2), (7, .int .i64 x21), (57, Sl.v x23), (58, .int .i64 a2), (59, .pointer a0)]) (by kernel_rfl) (by kernel_rfl) ?_
          refine OJ.nilck (d := 60) (y := .tmp 59) (by kernel_rfl) (by kernel_rfl) (by kernel_rfl) (by kernel_rfl) (by kernel_rfl) (fun p24 => ?_)
          refine OJ.run [7] [8, 9, 10, 11, 12, 13, 14] [0, 2, 7, 57, 58, 61] (m2 := [(0, .pointer a0), (2, .int .i64 a2), (7, .int .i64 x21), (57, Sl.v x23), (58, .int .i64 a2), (61, .pointer (some p24))]) (by kernel_rfl) (by kernel_rfl) ?_
          refine OJ.ld (d := 62) (T := 43) (y := .tmp 61) (pend2 := fun x25 => [⟨8, 43, p24, cL.val x25⟩, ⟨3, 43, p22, cL.val x23⟩]) (by kernel_rfl) (by kernel_rfl) Ty43 (by kernel_rfl) (by kernel_rfl) (fun _ => rfl) (fun x25 => ?_)
          refine OJ.run [9] [10, 11, 12, 13, 14] [0, 2, 7, 57, 58, 62, 63] (m2 := [(0, .pointer a0), (2, .int .i64 a2), (7, .int .i64 x21), (57, Sl.v x23), (58, .int .i64 a2), (62, Sl.v x25), (63, .int .i64 a2)]) (by kernel_rfl) (by kernel_rfl) ?_
          refine OJ.idxS (d := 64) (T := 43) (y := .tmp 62) (j := .tmp 63) (E := 42) (cap := x25.cap) (k := .i64) (by kernel_rfl) (by kernel_rfl) (by kernel_rfl) (by kernel_rfl) (by kernel_rfl) (by kernel_rfl) (by kernel_rfl) (by kernel_rfl) (fun p26 => ?_)
          refine OJ.ld (d := 65) (T := 42) (y := .tmp 64) (pend2 := fun x27 => [⟨11, 42, p26, cL.val x27⟩, ⟨8, 43, p24, cL.val x25⟩, ⟨3, 43, p22, cL.val x23⟩]) (by kernel_rfl) (by kernel_rfl) Ty42 (by kernel_rfl) (by kernel_rfl) (fun _ => rfl) (fun x27 => ?_)
          refine OJ.cut (d := 66) (t := 42) (E := 66) (y := .tmp 65) (lo := (some (.const (.int .i64 1)))) (hi := none) (mx := none) (lo' := some (.i64, 1)) (hi' := none) (mx' := none) (by kernel_rfl) (by kernel_rfl) (by kernel_rfl) (by kernel_rfl) (by kernel_rfl) (by kernel_rfl) (by kernel_rfl) (fun h => by cases h) (by kernel_rfl) (by kernel_rfl) (by kernel_rfl) (fun r28 => ?_)
          refine OJ.idxS (d := 67) (T := 43) (y := .tmp 57) (j := .tmp 58) (E := 42) (cap := x23.cap) (k := .i64) (by kernel_rfl) (by kernel_rfl) (by kernel_rfl) (by kernel_rfl) (by kernel_rfl) (by kernel_rfl) (by kernel_rfl) (by kernel_rfl) (fun p29 => ?_)
          refine OJ.st (T := 42) (y := .tmp 67) (z := .tmp 66) (owed := []) (by kernel_rfl) (by kernel_rfl) (by kernel_rfl) Ty42 (by kernel_rfl) (by kernel_rfl) ?_
          refine OW.nil ?_
          refine OJ.nil ?_
          refine SJ.seq (by kernel_rfl) ?_
          refine SJ.draw (id := 5) (kd := [0, 0, 0, 1, 0, 0, 0, 0, 1, 0, 0, 1, 0, 0, 0, 2]) (bef := [0, 1, 3, 7, 0, 0, 32, 96, 224, 0, 992, 2016, 0, 8160, 16383, 32767]) (ord := [0, 1, 2, 3, 4, 5, 6, 7, 8, 9, 10, 11, 12, 13, 14, 15]) (by kernel_rfl) mixed (by kernel_rfl) ?_
          refine OJ.run [0] [1, 2, 3, 4, 5, 6, 7, 8, 9, 10, 11, 12, 13, 14, 15] [0, 2, 7, 68] (m2 := [(0, .pointer a0), (2, .int .i64 a2), (7, .int .i64 x21), (68, .pointer a0)]) (by kernel_rfl) (by kernel_rfl) ?_
          refine OJ.nilck (d := 69) (y := .tmp 68) (by kernel_rfl) (by kernel_rfl) (by kernel_rfl) (by kernel_rfl) (by kernel_rfl) (fun p30 => ?_)
          refine OJ.run [2] [3, 4, 5, 6, 7, 8, 9, 10, 11, 12, 13, 14, 15] [0, 2, 7, 70] (m2 := [(0, .pointer a0), (2, .int .i64 a2), (7, .int .i64 x21), (70, .pointer (some (Addr.add p30 1)))]) (by kernel_rfl) (by kernel_rfl) ?_
          refine OJ.ld (d := 71) (T := 28) (y := .tmp 70) (pend2 := fun x31 => [⟨3, 28, (Addr.add p30 1), cL.val x31⟩]) (by kernel_rfl) (by kernel_rfl) Ty28 (by kernel_rfl) (by kernel_rfl) (fun _ => rfl) (fun x31 => ?_)
          refine OJ.run [4, 5] [6, 7, 8, 9, 10, 11, 12, 13, 14, 15] [0, 2, 7, 71, 72, 73] (m2 := [(0, .pointer a0), (2, .int .i64 a2), (7, .int .i64 x21), (71, Sl.v x31), (72, .int .i64 a2), (73, .pointer a0)]) (by kernel_rfl) (by kernel_rfl) ?_
          refine OJ.nilck (d := 74) (y := .tmp 73) (by kernel_rfl) (by kernel_rfl) (by kernel_rfl) (by kernel_rfl) (by kernel_rfl) (fun p32 => ?_)
          refine OJ.run [7] [8, 9, 10, 11, 12, 13, 14, 15] [0, 2, 7, 71, 72, 75] (m2 := [(0, .pointer a0), (2, .int .i64 a2), (7, .int .i64 x21), (71, Sl.v x31), (72, .int .i64 a2), (75, .pointer (some (Addr.add p32 1)))]) (by kernel_rfl) (by kernel_rfl) ?_
          refine OJ.ld (d := 76) (T := 28) (y := .tmp 75) (pend2 := fun x33 => [⟨8, 28, (Addr.add p32 1), cL.val x33⟩, ⟨3, 28, (Addr.add p30 1), cL.val x31⟩]) (by kernel_rfl) (by kernel_rfl) Ty28 (by kernel_rfl) (by kernel_rfl) (fun _ => rfl) (fun x33 => ?_)
          refine OJ.run [9] [10, 11, 12, 13, 14, 15] [0, 2, 7, 71, 72, 76, 77] (m2 := [(0, .pointer a0), (2, .int .i64 a2), (7, .int .i64 x21), (71, Sl.v x31), (72, .int .i64 a2), (76, Sl.v x33), (77, .int .i64 a2)]) (by kernel_rfl) (by kernel_rfl) ?_
          refine OJ.idxS (d := 78) (T := 28) (y := .tmp 76) (j := .tmp 77) (E := 3) (cap := x33.cap) (k := .i64) (by kernel_rfl) (by kernel_rfl) (by kernel_rfl) (by kernel_rfl) (by kernel_rfl) (by kernel_rfl) (by kernel_rfl) (by kernel_rfl) (fun p34 => ?_)
          refine OJ.ld (d := 79) (T := 3) (y := .tmp 78) (pend2 := fun x35 => [⟨11, 3, p34, (cI .i64).val x35⟩, ⟨8, 28, (Addr.add p32 1), cL.val x33⟩, ⟨3, 28, (Addr.add p30 1), cL.val x31⟩]) (by kernel_rfl) (by kernel_rfl) Ty3 (by kernel_rfl) (by kernel_rfl) (fun _ => rfl) (fun x35 => ?_)
          refine OJ.run [12, 13] [14, 15] [0, 2, 7, 71, 72, 81] (m2 := [(0, .pointer a0), (2, .int .i64 a2), (7, .int .i64 x21), (71, Sl.v x31), (72, .int .i64 a2), (81, .int .i64 (IntKind.wrap .i64 (x35 - x21)))]) (by kernel_rfl) (by kernel_rfl) ?_
          refine OJ.idxS (d := 82) (T := 28) (y := .tmp 71) (j := .tmp 72) (E := 3) (cap := x31.cap) (k := .i64) (by kernel_rfl) (by kernel_rfl) (by kernel_rfl) (by kernel_rfl) (by kernel_rfl) (by kernel_rfl) (by kernel_rfl) (by kernel_rfl) (fun p36 => ?_)
          refine OJ.st (T := 3) (y := .tmp 82) (z := .tmp 81) (owed := []) (by kernel_rfl) (by kernel_rfl) (by kernel_rfl) Ty3 (by kernel_rfl) (by kernel_rfl) ?_
          refine OW.nil ?_
          refine OJ.nil ?_
          refine SJ.seq (by kernel_rfl) ?_
          refine SJ.draw (id := 6) (kd := [0, 0, 0, 1, 0, 0, 0, 0, 1, 0, 0, 1, 0, 0, 0, 2]) (bef := [0, 1, 3, 7, 0, 0, 32, 96, 224, 0, 992, 2016, 0, 8160, 16383, 32767]) (ord := [0, 1, 2, 3, 4, 5, 6, 7, 8, 9, 10, 11, 12, 13, 14, 15]) (by kernel_rfl) mixed (by kernel_rfl) ?_
          refine OJ.run [0] [1, 2, 3, 4, 5, 6, 7, 8, 9, 10, 11, 12, 13, 14, 15] [0, 2, 7, 83] (m2 := [(0, .pointer a0), (2, .int .i64 a2), (7, .int .i64 x21), (83, .pointer a0)]) (by kernel_rfl) (by kernel_rfl) ?_
          refine OJ.nilck (d := 84) (y := .tmp 83) (by kernel_rfl) (by kernel_rfl) (by kernel_rfl) (by kernel_rfl) (by kernel_rfl) (fun p37 => ?_)
          refine OJ.run [2] [3, 4, 5, 6, 7, 8, 9, 10, 11, 12, 13, 14, 15] [0, 2, 7, 85] (m2 := [(0, .pointer a0), (2, .int .i64 a2), (7, .int .i64 x21), (85, .pointer (some (Addr.add p37 2)))]) (by kernel_rfl) (by kernel_rfl) ?_
          refine OJ.ld (d := 86) (T := 28) (y := .tmp 85) (pend2 := fun x38 => [⟨3, 28, (Addr.add p37 2), cL.val x38⟩]) (by kernel_rfl) (by kernel_rfl) Ty28 (by kernel_rfl) (by kernel_rfl) (fun _ => rfl) (fun x38 => ?_)
          refine OJ.run [4, 5] [6, 7, 8, 9, 10, 11, 12, 13, 14, 15] [2, 7, 86, 87, 88] (m2 := [(2, .int .i64 a2), (7, .int .i64 x21), (86, Sl.v x38), (87, .int .i64 a2), (88, .pointer a0)]) (by kernel_rfl) (by kernel_rfl) ?_
          refine OJ.nilck (d := 89) (y := .tmp 88) (by kernel_rfl) (by kernel_rfl) (by kernel_rfl) (by kernel_rfl) (by kernel_rfl) (fun p39 => ?_)
          refine OJ.run [7] [8, 9, 10, 11, 12, 13, 14, 15] [2, 7, 86, 87, 90] (m2 := [(2, .int .i64 a2), (7, .int .i64 x21), (86, Sl.v x38), (87, .int .i64 a2), (90, .pointer (some (Addr.add p39 2)))]) (by kernel_rfl) (by kernel_rfl) ?_
          refine OJ.ld (d := 91) (T := 28) (y := .tmp 90) (pend2 := fun x40 => [⟨8, 28, (Addr.add p39 2), cL.val x40⟩, ⟨3, 28, (Addr.add p37 2), cL.val x38⟩]) (by kernel_rfl) (by kernel_rfl) Ty28 (by kernel_rfl) (by kernel_rfl) (fun _ => rfl) (fun x40 => ?_)
          refine OJ.run [9] [10, 11, 12, 13, 14, 15] [7, 86, 87, 91, 92] (m2 := [(7, .int .i64 x21), (86, Sl.v x38), (87, .int .i64 a2), (91, Sl.v x40), (92, .int .i64 a2)]) (by kernel_rfl) (by kernel_rfl) ?_
          refine OJ.idxS (d := 93) (T := 28) (y := .tmp 91) (j := .tmp 92) (E := 3) (cap := x40.cap) (k := .i64) (by kernel_rfl) (by kernel_rfl) (by kernel_rfl) (by kernel_rfl) (by kernel_rfl) (by kernel_rfl) (by kernel_rfl) (by kernel_rfl) (fun p41 => ?_)
          refine OJ.ld (d := 94) (T := 3) (y := .tmp 93) (pend2 := fun x42 => [⟨11, 3, p41, (cI .i64).val x42⟩, ⟨8, 28, (Addr.add p39 2), cL.val x40⟩, ⟨3, 28, (Addr.add p37 2), cL.val x38⟩]) (by kernel_rfl) (by kernel_rfl) Ty3 (by kernel_rfl) (by kernel_rfl) (fun _ => rfl) (fun x42 => ?_)
          refine OJ.run [12, 13] [14, 15] [86, 87, 96] (m2 := [(86, Sl.v x38), (87, .int .i64 a2), (96, .int .i64 (IntKind.wrap .i64 (x42 + x21)))]) (by kernel_rfl) (by kernel_rfl) ?_
          refine OJ.idxS (d := 97) (T := 28) (y := .tmp 86) (j := .tmp 87) (E := 3) (cap := x38.cap) (k := .i64) (by kernel_rfl) (by kernel_rfl) (by kernel_rfl) (by kernel_rfl) (by kernel_rfl) (by kernel_rfl) (by kernel_rfl) (by kernel_rfl) (fun p43 => ?_)
          refine OJ.st (T := 3) (y := .tmp 97) (z := .tmp 96) (owed := []) (by kernel_rfl) (by kernel_rfl) (by kernel_rfl) Ty3 (by kernel_rfl) (by kernel_rfl) ?_
          refine OW.nil ?_
          refine OJ.nil ?_
          refine SJ.seq (by kernel_rfl) ?_
          refine SJ.region (id := 7) (by kernel_rfl) [0] (by kernel_rfl) ?_
          refine OJ.run [0] [] [6] (m2 := [(6, .bool true)]) (by kernel_rfl) (by kernel_rfl) ?_
          refine OJ.nil ?_
          exact SJ.ret (by kernel_rfl) rfl (Res.run (ys := [.bool true]) (.tmp (by kernel_rfl) .nil) rfl)

/-! ### weir/weirlaw18.fair: function 24 -/
noncomputable def weirlaw18_fair.B : Code := (Try.f24.body).getD .skip
noncomputable def weirlaw18_fair.cx : Fx := ⟨Try.prog, 24, Try.f24⟩
noncomputable def weirlaw18_fair.out (r_ : Bool) : Value := .bool r_
noncomputable def weirlaw18_fair.F0 (r_ : Bool) : Reach := .ret (weirlaw18_fair.out r_)
noncomputable def weirlaw18_fair.F1 (a0 : Sl) (a1 : (Option Addr)) : (LS Int Bool) → Reach := loopF [.inLoop (c1 (c1 (c2 (c1 (c2 weirlaw18_fair.B))))), .inBlock 0, .code (c2 (c2 weirlaw18_fair.B))] (fun s_ : Int => [(0, Sl.v a0), (1, .pointer a1), (5, .int .i64 s_)]) (fun s_ : Int => []) weirlaw18_fair.F0
noncomputable def weirlaw18_fair.F2 (a0 : Sl) (a1 : (Option Addr)) (s1 : Int) : (LS Int (LS Int Bool)) → Reach := loopF [.inLoop (c1 (c1 (c2 (c1 (c1 (c2 (c1 (c1 (c2 (c1 (c2 weirlaw18_fair.B))))))))))), .inBlock 2, .inBlock 1, .code (c2 (c2 (c1 (c1 (c2 (c1 (c2 weirlaw18_fair.B))))))), .inLoop (c1 (c1 (c2 (c1 (c2 weirlaw18_fair.B))))), .inBlock 0, .code (c2 (c2 weirlaw18_fair.B))] (fun s_ : Int => [(0, Sl.v a0), (1, .pointer a1), (5, .int .i64 s1), (6, .int .i64 s_)]) (fun s_ : Int => []) (weirlaw18_fair.F1 a0 a1)
noncomputable def weirlaw18_fair.L2 (a0 : Sl) (a1 : (Option Addr)) (s1 : Int) (s64 : Int) : M (LS Int (LS Int Bool)) :=
  if s64 < (a0.len : Int) then
    idx a0.a a0.len s1 5 >>= fun p95 =>
    ld c_api_Class p95 >>= fun x96 =>
    weirlaw18_apt x96 >>= fun r97 =>
    (if ¬ (r97 = true) then
        pure true
      else
        idx a0.a a0.len s64 5 >>= fun p98 =>
        ld c_api_Class p98 >>= fun x99 =>
        weirlaw18_apt x99 >>= fun r100 =>
        pure (!r100)) >>= fun y101 =>
    if y101 = true then
      pure (LS.next (IntKind.wrap .i64 (s64 + 1)))
    else
      draw >>= fun _ =>
      nilck a1 >>= fun p102 =>
      ld cL (Addr.add p102 2) >>= fun x103 =>
      idx x103.a x103.len s1 1 >>= fun p104 =>
      ld (cI .i64) p104 >>= fun x105 =>
      idx a0.a a0.len s64 5 >>= fun p106 =>
      ld (cI .i64) p106 >>= fun x107 =>
      nilck a1 >>= fun p108 =>
      ld cL (Addr.add p108 2) >>= fun x109 =>
      idx x109.a x109.len s64 1 >>= fun p110 =>
      ld (cI .i64) p110 >>= fun x111 =>
      idx a0.a a0.len s1 5 >>= fun p112 =>
      ld (cI .i64) p112 >>= fun x113 =>
      idx a0.a a0.len s1 5 >>= fun p114 =>
      ld (cI .i64) p114 >>= fun x115 =>
      idx a0.a a0.len s64 5 >>= fun p116 =>
      ld (cI .i64) p116 >>= fun x117 =>
      idx a0.a a0.len s1 5 >>= fun p118 =>
      ld (cI .i64) p118 >>= fun x119 =>
      idx a0.a a0.len s64 5 >>= fun p120 =>
      ld (cI .i64) p120 >>= fun x121 =>
      if (IntKind.wrap .i64 ((IntKind.wrap .i64 (x105 * x107)) - (IntKind.wrap .i64 (x111 * x113)))) > (IntKind.wrap .i64 ((IntKind.wrap .i64 ((IntKind.wrap .i64 (2 * x115)) * x117)) + (IntKind.wrap .i64 (65535 * (IntKind.wrap .i64 (x119 + x121)))))) then
        pure (LS.done (LS.done false))
      else
        pure (LS.next (IntKind.wrap .i64 (s64 + 1)))
  else
    pure (LS.done (LS.next (IntKind.wrap .i64 (s1 + 1))))
theorem weirlaw18_fair.L2_ok (a0 : Sl) (a1 : (Option Addr)) (s1 : Int) (s64 : Int) :
    SJ weirlaw18_fair.cx [.code (c1 (c1 (c2 (c1 (c1 (c2 (c1 (c1 (c2 (c1 (c2 weirlaw18_fair.B))))))))))), .inLoop (c1 (c1 (c2 (c1 (c1 (c2 (c1 (c1 (c2 (c1 (c2 weirlaw18_fair.B))))))))))), .inBlock 2, .inBlock 1, .code (c2 (c2 (c1 (c1 (c2 (c1 (c2 weirlaw18_fair.B))))))), .inLoop (c1 (c1 (c2 (c1 (c2 weirlaw18_fair.B))))), .inBlock 0, .code (c2 (c2 weirlaw18_fair.B))] [(0, Sl.v a0), (1, .pointer a1), (5, .int .i64 s1), (6, .int .i64 s64)] [] (weirlaw18_fair.L2 a0 a1 s1 s64) (weirlaw18_fair.F2 a0 a1 s1) := by
  unfold weirlaw18_fair.L2
  refine SJ.seq (by kernel_rfl) ?_
  refine SJ.seq (by kernel_rfl) ?_
  refine SJ.region (id := 5) (by kernel_rfl) [0, 1, 2, 3] (by kernel_rfl) ?_
  refine OJ.run [0, 1, 2, 3] [] [0, 1, 5, 6, 16] (m2 := [(0, Sl.v a0), (1, .pointer a1), (5, .int .i64 s1), (6, .int .i64 s64), (16, .bool (decide (s64 < (a0.len : Int))))]) (by kernel_rfl) (by kernel_rfl) ?_
  refine OJ.nil ?_
  refine SJ.cond (t := (.tmp 16)) (b := decide (s64 < (a0.len : Int))) (by kernel_rfl) (by kernel_rfl) decide_eq_true_iff (fun hc124 => ?_) (fun hc124 => ?_)
  · refine SJ.skip (by kernel_rfl) ?_
    refine SJ.seq (by kernel_rfl) ?_
    refine SJ.block (id := 3) (by kernel_rfl) ?_
    refine SJ.seq (by kernel_rfl) ?_
    refine SJ.seq (by kernel_rfl) ?_
    refine SJ.region (id := 7) (by kernel_rfl) [0, 1, 2, 3, 4, 5, 6, 7, 8, 9, 10, 11, 12, 13] (by kernel_rfl) ?_
    refine OJ.run [0, 1] [2, 3, 4, 5, 6, 7, 8, 9, 10, 11, 12, 13] [0, 1, 5, 6, 19, 20] (m2 := [(0, Sl.v a0), (1, .pointer a1), (5, .int .i64 s1), (6, .int .i64 s64), (19, Sl.v a0), (20, .int .i64 s1)]) (by kernel_rfl) (by kernel_rfl) ?_
    refine OJ.idxS (d := 21) (T := 27) (y := .tmp 19) (j := .tmp 20) (E := 41) (cap := a0.cap) (k := .i64) (by kernel_rfl) (by kernel_rfl) (by kernel_rfl) (by kernel_rfl) (by kernel_rfl) (by kernel_rfl) (by kernel_rfl) (by kernel_rfl) (fun p95 => ?_)
    refine OJ.ld (d := 22) (T := 41) (y := .tmp 21) (pend2 := fun x96 => []) (by kernel_rfl) (by kernel_rfl) Ty41 (by kernel_rfl) (by kernel_rfl) (fun _ => rfl) (fun x96 => ?_)
    refine OJ.call (d := 23) (g := 20) (ats := #[41]) (args := [.tmp 22]) (vals := [c_api_Class.val x96]) (owed := []) (by kernel_rfl) F20 (by kernel_rfl) (weirlaw18_apt_ok x96) (by kernel_rfl) (by kernel_rfl) (by kernel_rfl) (fun r97 => ?_)
    refine OW.nil ?_
    refine OJ.run [5, 6] [7, 8, 9, 10, 11, 12, 13] [0, 1, 5, 6, 25] (m2 := [(0, Sl.v a0), (1, .pointer a1), (5, .int .i64 s1), (6, .int .i64 s64), (25, .bool (!r97))]) (by kernel_rfl) (by kernel_rfl) ?_
    refine OJ.join (b := (!r97)) [7, 8, 9, 10, 11, 12, 13] [] [0, 1, 5, 6, 32] (fun y101 => [(0, Sl.v a0), (1, .pointer a1), (5, .int .i64 s1), (6, .int .i64 s64), (32, .bool y101)]) [] [] (by kernel_rfl) (t := 25) (by kernel_rfl) (bnot_iff Iff.rfl) (fun hp_ => ?_) (fun hp_ => ?_) (by kernel_rfl) (fun _ _ _ _ _ _ h_ => h_) (fun y101 => ?_)
    · refine OJ.run [7, 8, 9, 10, 11, 12, 13] [] [0, 1, 5, 6, 32] (m2 := [(0, Sl.v a0), (1, .pointer a1), (5, .int .i64 s1), (6, .int .i64 s64), (32, .bool true)]) (by kernel_rfl) (by kernel_rfl) ?_
      exact OJ.nil ⟨(Cov.mem Cov.nil), rfl, _, rfl, by kernel_rfl⟩
    · refine OJ.run [7, 8] [9, 10, 11, 12, 13] [0, 1, 5, 6, 25, 26, 27] (m2 := [(0, Sl.v a0), (1, .pointer a1), (5, .int .i64 s1), (6, .int .i64 s64), (25, .bool false), (26, Sl.v a0), (27, .int .i64 s64)]) (by kernel_rfl) (by kernel_rfl) ?_
      refine OJ.idxS (d := 28) (T := 27) (y := .tmp 26) (j := .tmp 27) (E := 41) (cap := a0.cap) (k := .i64) (by kernel_rfl) (by kernel_rfl) (by kernel_rfl) (by kernel_rfl) (by kernel_rfl) (by kernel_rfl) (by kernel_rfl) (by kernel_rfl) (fun p98 => ?_)
      refine OJ.ld (d := 29) (T := 41) (y := .tmp 28) (pend2 := fun x99 => []) (by kernel_rfl) (by kernel_rfl) Ty41 (by kernel_rfl) (by kernel_rfl) (fun _ => rfl) (fun x99 => ?_)
      refine OJ.call (d := 30) (g := 20) (ats := #[41]) (args := [.tmp 29]) (vals := [c_api_Class.val x99]) (owed := []) (by kernel_rfl) F20 (by kernel_rfl) (weirlaw18_apt_ok x99) (by kernel_rfl) (by kernel_rfl) (by kernel_rfl) (fun r100 => ?_)
      refine OW.nil ?_
      refine OJ.run [12, 13] [] [0, 1, 5, 6, 32] (m2 := [(0, Sl.v a0), (1, .pointer a1), (5, .int .i64 s1), (6, .int .i64 s64), (32, .bool (!r100))]) (by kernel_rfl) (by kernel_rfl) ?_
      exact OJ.nil ⟨(Cov.mem Cov.nil), rfl, _, rfl, by kernel_rfl⟩
    · refine OJ.nil ?_
      refine SJ.cond (t := (.tmp 32)) (b := y101) (by kernel_rfl) (by kernel_rfl) Iff.rfl (fun hc123 => ?_) (fun hc123 => ?_)
      · refine SJ.exit (id := 3) (by kernel_rfl) (by rfl) ?_
        refine SJ.region (id := 6) (by kernel_rfl) [0, 1, 2] (by kernel_rfl) ?_
        refine OJ.run [0, 1, 2] [] [0, 1, 5, 6] (m2 := [(0, Sl.v a0), (1, .pointer a1), (5, .int .i64 s1), (6, .int .i64 (IntKind.wrap .i64 (s64 + 1)))]) (by kernel_rfl) (by kernel_rfl) ?_
        refine OJ.nil ?_
        exact SJ.at_ [0, 1, 5, 6] rfl (by kernel_rfl)
      · refine SJ.skip (by kernel_rfl) ?_
        refine SJ.seq (by kernel_rfl) ?_
        refine SJ.draw (id := 8) (kd := [0, 0, 0, 1, 0, 0, 1, 0, 0, 0, 0, 1, 0, 0, 0, 0, 1, 0, 0, 1, 0, 0, 0, 0, 1, 0, 0, 0, 0, 0, 0, 1, 0, 0, 0, 0, 0, 1, 0, 0, 0, 0, 0, 1, 0, 0, 0, 0, 1, 0, 0, 0, 0]) (bef := [0, 1, 3, 7, 0, 31, 63, 0, 0, 384, 896, 1920, 4095, 0, 8192, 24576, 57344, 0, 253952, 516096, 0, 0, 3145728, 7340032, 15728640, 33546240, 67108863, 0, 0, 402653184, 939524096, 2013265920, 4160749568, 0, 0, 25769803776, 60129542144, 128849018880, 274743689216, 0, 0, 1649267441664, 3848290697216, 8246337208320, 0, 0, 52776558133248, 123145302310912, 263882790666240, 562400197607424, 1125350151028736, 2251799679467520, 4503599627370495]) (ord := [0, 1, 2, 3, 4, 5, 6, 7, 8, 9, 10, 11, 12, 13, 14, 15, 16, 17, 18, 19, 20, 21, 22, 23, 24, 25, 26, 27, 28, 29, 30, 31, 32, 33, 34, 35, 36, 37, 38, 39, 40, 41, 42, 43, 44, 45, 46, 47, 48, 49, 50, 51, 52]) (by kernel_rfl) mixed (by kernel_rfl) ?_
        refine OJ.run [0] [1, 2, 3, 4, 5, 6, 7, 8, 9, 10, 11, 12, 13, 14, 15, 16, 17, 18, 19, 20, 21, 22, 23, 24, 25, 26, 27, 28, 29, 30, 31, 32, 33, 34, 35, 36, 37, 38, 39, 40, 41, 42, 43, 44, 45, 46, 47, 48, 49, 50, 51, 52] [0, 1, 5, 6, 33] (m2 := [(0, Sl.v a0), (1, .pointer a1), (5, .int .i64 s1), (6, .int .i64 s64), (33, .pointer a1)]) (by kernel_rfl) (by kernel_rfl) ?_
        refine OJ.nilck (d := 34) (y := .tmp 33) (by kernel_rfl) (by kernel_rfl) (by kernel_rfl) (by kernel_rfl) (by kernel_rfl) (fun p102 => ?_)
        refine OJ.run [2] [3, 4, 5, 6, 7, 8, 9, 10, 11, 12, 13, 14, 15, 16, 17, 18, 19, 20, 21, 22, 23, 24, 25, 26, 27, 28, 29, 30, 31, 32, 33, 34, 35, 36, 37, 38, 39, 40, 41, 42, 43, 44, 45, 46, 47, 48, 49, 50, 51, 52] [0, 1, 5, 6, 35] (m2 := [(0, Sl.v a0), (1, .pointer a1), (5, .int .i64 s1), (6, .int .i64 s64), (35, .pointer (some (Addr.add p102 2)))]) (by kernel_rfl) (by kernel_rfl) ?_
        refine OJ.ld (d := 36) (T := 28) (y := .tmp 35) (pend2 := fun x103 => [⟨3, 28, (Addr.add p102 2), cL.val x103⟩]) (by kernel_rfl) (by kernel_rfl) Ty28 (by kernel_rfl) (by kernel_rfl) (fun _ => rfl) (fun x103 => ?_)
        refine OJ.run [4] [5, 6, 7, 8, 9, 10, 11, 12, 13, 14, 15, 16, 17, 18, 19, 20, 21, 22, 23, 24, 25, 26, 27, 28, 29, 30, 31, 32, 33, 34, 35, 36, 37, 38, 39, 40, 41, 42, 43, 44, 45, 46, 47, 48, 49, 50, 51, 52] [0, 1, 5, 6, 36, 37] (m2 := [(0, Sl.v a0), (1, .pointer a1), (5, .int .i64 s1), (6, .int .i64 s64), (36, Sl.v x103), (37, .int .i64 s1)]) (by kernel_rfl) (by kernel_rfl) ?_
        refine OJ.idxS (d := 38) (T := 28) (y := .tmp 36) (j := .tmp 37) (E := 3) (cap := x103.cap) (k := .i64) (by kernel_rfl) (by kernel_rfl) (by kernel_rfl) (by kernel_rfl) (by kernel_rfl) (by kernel_rfl) (by kernel_rfl) (by kernel_rfl) (fun p104 => ?_)
        refine OJ.ld (d := 39) (T := 3) (y := .tmp 38) (pend2 := fun x105 => [⟨6, 3, p104, (cI .i64).val x105⟩, ⟨3, 28, (Addr.add p102 2), cL.val x103⟩]) (by kernel_rfl) (by kernel_rfl) Ty3 (by kernel_rfl) (by kernel_rfl) (fun _ => rfl) (fun x105 => ?_)
        refine OJ.run [7, 8] [9, 10, 11, 12, 13, 14, 15, 16, 17, 18, 19, 20, 21, 22, 23, 24, 25, 26, 27, 28, 29, 30, 31, 32, 33, 34, 35, 36, 37, 38, 39, 40, 41, 42, 43, 44, 45, 46, 47, 48, 49, 50, 51, 52] [0, 1, 5, 6, 39, 40, 41] (m2 := [(0, Sl.v a0), (1, .pointer a1), (5, .int .i64 s1), (6, .int .i64 s64), (39, .int .i64 x105), (40, Sl.v a0), (41, .int .i64 s64)]) (by kernel_rfl) (by kernel_rfl) ?_
        refine OJ.idxS (d := 42) (T := 27) (y := .tmp 40) (j := .tmp 41) (E := 41) (cap := a0.cap) (k := .i64) (by kernel_rfl) (by kernel_rfl) (by kernel_rfl) (by kernel_rfl) (by kernel_rfl) (by kernel_rfl) (by kernel_rfl) (by kernel_rfl) (fun p106 => ?_)
        refine OJ.run [10] [11, 12, 13, 14, 15, 16, 17, 18, 19, 20, 21, 22, 23, 24, 25, 26, 27, 28, 29, 30, 31, 32, 33, 34, 35, 36, 37, 38, 39, 40, 41, 42, 43, 44, 45, 46, 47, 48, 49, 50, 51, 52] [0, 1, 5, 6, 39, 43] (m2 := [(0, Sl.v a0), (1, .pointer a1), (5, .int .i64 s1), (6, .int .i64 s64), (39, .int .i64 x105), (43, .pointer (some p106))]) (by kernel_rfl) (by kernel_rfl) ?_
        refine OJ.ld (d := 44) (T := 3) (y := .tmp 43) (pend2 := fun x107 => [⟨11, 3, p106, (cI .i64).val x107⟩, ⟨6, 3, p104, (cI .i64).val x105⟩, ⟨3, 28, (Addr.add p102 2), cL.val x103⟩]) (by kernel_rfl) (by kernel_rfl) Ty3 (by kernel_rfl) (by kernel_rfl) (fun _ => rfl) (fun x107 => ?_)
        refine OJ.run [12, 13] [14, 15, 16, 17, 18, 19, 20, 21, 22, 23, 24, 25, 26, 27, 28, 29, 30, 31, 32, 33, 34, 35, 36, 37, 38, 39, 40, 41, 42, 43, 44, 45, 46, 47, 48, 49, 50, 51, 52] [0, 1, 5, 6, 45, 46] (m2 := [(0, Sl.v a0), (1, .pointer a1), (5, .int .i64 s1), (6, .int .i64 s64), (45, .int .i64 (IntKind.wrap .i64 (x105 * x107))), (46, .pointer a1)]) (by kernel_rfl) (by kernel_rfl) ?_
        refine OJ.nilck (d := 47) (y := .tmp 46) (by kernel_rfl) (by kernel_rfl) (by kernel_rfl) (by kernel_rfl) (by kernel_rfl) (fun p108 => ?_)
        refine OJ.run [15] [16, 17, 18, 19, 20, 21, 22, 23, 24, 25, 26, 27, 28, 29, 30, 31, 32, 33, 34, 35, 36, 37, 38, 39, 40, 41, 42, 43, 44, 45, 46, 47, 48, 49, 50, 51, 52] [0, 1, 5, 6, 45, 48] (m2 := [(0, Sl.v a0), (1, .pointer a1), (5, .int .i64 s1), (6, .int .i64 s64), (45, .int .i64 (IntKind.wrap .i64 (x105 * x107))), (48, .pointer (some (Addr.add p108 2)))]) (by kernel_rfl) (by kernel_rfl) ?_
        refine OJ.ld (d := 49) (T := 28) (y := .tmp 48) (pend2 := fun x109 => [⟨16, 28, (Addr.add p108 2), cL.val x109⟩, ⟨11, 3, p106, (cI .i64).val x107⟩, ⟨6, 3, p104, (cI .i64).val x105⟩, ⟨3, 28, (Addr.add p102 2), cL.val x103⟩]) (by kernel_rfl) (by kernel_rfl) Ty28 (by kernel_rfl) (by kernel_rfl) (fun _ => rfl) (fun x109 => ?_)
        refine OJ.run [17] [18, 19, 20, 21, 22, 23, 24, 25, 26, 27, 28, 29, 30, 31, 32, 33, 34, 35, 36, 37, 38, 39, 40, 41, 42, 43, 44, 45, 46, 47, 48, 49, 50, 51, 52] [0, 1, 5, 6, 45, 49, 50] (m2 := [(0, Sl.v a0), (1, .pointer a1), (5, .int .i64 s1), (6, .int .i64 s64), (45, .int .i64 (IntKind.wrap .i64 (x105 * x107))), (49, Sl.v x109), (50, .int .i64 s64)]) (by kernel_rfl) (by kernel_rfl) ?_
        refine OJ.idxS (d := 51) (T := 28) (y := .tmp 49) (j := .tmp 50) (E := 3) (cap := x109.cap) (k := .i64) (by kernel_rfl) (by kernel_rfl) (by kernel_rfl) (by kernel_rfl) (by kernel_rfl) (by kernel_rfl) (by kernel_rfl) (by kernel_rfl) (fun p110 => ?_)
        refine OJ.ld (d := 52) (T := 3) (y := .tmp 51) (pend2 := fun x111 => [⟨19, 3, p110, (cI .i64).val x111⟩, ⟨16, 28, (Addr.add p108 2), cL.val x109⟩, ⟨11, 3, p106, (cI .i64).val x107⟩, ⟨6, 3, p104, (cI .i64).val x105⟩, ⟨3, 28, (Addr.add p102 2), cL.val x103⟩]) (by kernel_rfl) (by kernel_rfl) Ty3 (by kernel_rfl) (by kernel_rfl) (fun _ => rfl) (fun x111 => ?_)
        refine OJ.run [20, 21] [22, 23, 24, 25, 26, 27, 28, 29, 30, 31, 32, 33, 34, 35, 36, 37, 38, 39, 40, 41, 42, 43, 44, 45, 46, 47, 48, 49, 50, 51, 52] [0, 1, 5, 6, 45, 52, 53, 54] (m2 := [(0, Sl.v a0), (1, .pointer a1), (5, .int .i64 s1), (6, .int .i64 s64), (45, .int .i64 (IntKind.wrap .i64 (x105 * x107))), (52, .int .i64 x111), (53, Sl.v a0), (54, .int .i64 s1)]) (by kernel_rfl) (by kernel_rfl) ?_
        refine OJ.idxS (d := 55) (T := 27) (y := .tmp 53) (j := .tmp 54) (E := 41) (cap := a0.cap) (k := .i64) (by kernel_rfl) (by kernel_rfl) (by kernel_rfl) (by kernel_rfl) (by kernel_rfl) (by kernel_rfl) (by kernel_rfl) (by kernel_rfl) (fun p112 => ?_)
        refine OJ.run [23] [24, 25, 26, 27, 28, 29, 30, 31, 32, 33, 34, 35, 36, 37, 38, 39, 40, 41, 42, 43, 44, 45, 46, 47, 48, 49, 50, 51, 52] [0, 1, 5, 6, 45, 52, 56] (m2 := [(0, Sl.v a0), (1, .pointer a1), (5, .int .i64 s1), (6, .int .i64 s64), (45, .int .i64 (IntKind.wrap .i64 (x105 * x107))), (52, .int .i64 x111), (56, .pointer (some p112))]) (by kernel_rfl) (by kernel_rfl) ?_
        refine OJ.ld (d := 57) (T := 3) (y := .tmp 56) (pend2 := fun x113 => [⟨24, 3, p112, (cI .i64).val x113⟩, ⟨19, 3, p110, (cI .i64).val x111⟩, ⟨16, 28, (Addr.add p108 2), cL.val x109⟩, ⟨11, 3, p106, (cI .i64).val x107⟩, ⟨6, 3, p104, (cI .i64).val x105⟩, ⟨3, 28, (Addr.add p102 2), cL.val x103⟩]) (by kernel_rfl) (by kernel_rfl) Ty3 (by kernel_rfl) (by kernel_rfl) (fun _ => rfl) (fun x113 => ?_)
        refine OJ.run [25, 26, 27, 28] [29, 30, 31, 32, 33, 34, 35, 36, 37, 38, 39, 40, 41, 42, 43, 44, 45, 46, 47, 48, 49, 50, 51, 52] [0, 1, 5, 6, 59, 60, 61] (m2 := [(0, Sl.v a0), (1, .pointer a1), (5, .int .i64 s1), (6, .int .i64 s64), (59, .int .i64 (IntKind.wrap .i64 ((IntKind.wrap .i64 (x105 * x107)) - (IntKind.wrap .i64 (x111 * x113))))), (60, Sl.v a0), (61, .int .i64 s1)]) (by kernel_rfl) (by kernel_rfl) ?_
        refine OJ.idxS (d := 62) (T := 27) (y := .tmp 60) (j := .tmp 61) (E := 41) (cap := a0.cap) (k := .i64) (by kernel_rfl) (by kernel_rfl) (by kernel_rfl) (by kernel_rfl) (by kernel_rfl) (by kernel_rfl) (by kernel_rfl) (by kernel_rfl) (fun p114 => ?_)
        refine OJ.run [30] [31, 32, 33, 34, 35, 36, 37, 38, 39, 40, 41, 42, 43, 44, 45, 46, 47, 48, 49, 50, 51, 52] [0, 1, 5, 6, 59, 63] (m2 := [(0, Sl.v a0), (1, .pointer a1), (5, .int .i64 s1), (6, .int .i64 s64), (59, .int .i64 (IntKind.wrap .i64 ((IntKind.wrap .i64 (x105 * x107)) - (IntKind.wrap .i64 (x111 * x113))))), (63, .pointer (some p114))]) (by kernel_rfl) (by kernel_rfl) ?_
        refine OJ.ld (d := 64) (T := 3) (y := .tmp 63) (pend2 := fun x115 => [⟨31, 3, p114, (cI .i64).val x115⟩, ⟨24, 3, p112, (cI .i64).val x113⟩, ⟨19, 3, p110, (cI .i64).val x111⟩, ⟨16, 28, (Addr.add p108 2), cL.val x109⟩, ⟨11, 3, p106, (cI .i64).val x107⟩, ⟨6, 3, p104, (cI .i64).val x105⟩, ⟨3, 28, (Addr.add p102 2), cL.val x103⟩]) (by kernel_rfl) (by kernel_rfl) Ty3 (by kernel_rfl) (by kernel_rfl) (fun _ => rfl) (fun x115 => ?_)
        refine OJ.run [32, 33, 34] [35, 36, 37, 38, 39, 40, 41, 42, 43, 44, 45, 46, 47, 48, 49, 50, 51, 52] [0, 1, 5, 6, 59, 65, 66, 67] (m2 := [(0, Sl.v a0), (1, .pointer a1), (5, .int .i64 s1), (6, .int .i64 s64), (59, .int .i64 (IntKind.wrap .i64 ((IntKind.wrap .i64 (x105 * x107)) - (IntKind.wrap .i64 (x111 * x113))))), (65, .int .i64 (IntKind.wrap .i64 (2 * x115))), (66, Sl.v a0), (67, .int .i64 s64)]) (by kernel_rfl) (by kernel_rfl) ?_
        refine OJ.idxS (d := 68) (T := 27) (y := .tmp 66) (j := .tmp 67) (E := 41) (cap := a0.cap) (k := .i64) (by kernel_rfl) (by kernel_rfl) (by kernel_rfl) (by kernel_rfl) (by kernel_rfl) (by kernel_rfl) (by kernel_rfl) (by kernel_rfl) (fun p116 => ?_)
        refine OJ.run [36] [37, 38, 39, 40, 41, 42, 43, 44, 45, 46, 47, 48, 49, 50, 51, 52] [0, 1, 5, 6, 59, 65, 69] (m2 := [(0, Sl.v a0), (1, .pointer a1), (5, .int .i64 s1), (6, .int .i64 s64), (59, .int .i64 (IntKind.wrap .i64 ((IntKind.wrap .i64 (x105 * x107)) - (IntKind.wrap .i64 (x111 * x113))))), (65, .int .i64 (IntKind.wrap .i64 (2 * x115))), (69, .pointer (some p116))]) (by kernel_rfl) (by kernel_rfl) ?_
        refine OJ.ld (d := 70) (T := 3) (y := .tmp 69) (pend2 := fun x117 => [⟨37, 3, p116, (cI .i64).val x117⟩, ⟨31, 3, p114, (cI .i64).val x115⟩, ⟨24, 3, p112, (cI .i64).val x113⟩, ⟨19, 3, p110, (cI .i64).val x111⟩, ⟨16, 28, (Addr.add p108 2), cL.val x109⟩, ⟨11, 3, p106, (cI .i64).val x107⟩, ⟨6, 3, p104, (cI .i64).val x105⟩, ⟨3, 28, (Addr.add p102 2), cL.val x103⟩]) (by kernel_rfl) (by kernel_rfl) Ty3 (by kernel_rfl) (by kernel_rfl) (fun _ => rfl) (fun x117 => ?_)
        refine OJ.run [38, 39, 40] [41, 42, 43, 44, 45, 46, 47, 48, 49, 50, 51, 52] [0, 1, 5, 6, 59, 71, 72, 73] (m2 := [(0, Sl.v a0), (1, .pointer a1), (5, .int .i64 s1), (6, .int .i64 s64), (59, .int .i64 (IntKind.wrap .i64 ((IntKind.wrap .i64 (x105 * x107)) - (IntKind.wrap .i64 (x111 * x113))))), (71, .int .i64 (IntKind.wrap .i64 ((IntKind.wrap .i64 (2 * x115)) * x117))), (72, Sl.v a0), (73, .int .i64 s1)]) (by kernel_rfl) (by kernel_rfl) ?_
        refine OJ.idxS (d := 74) (T := 27) (y := .tmp 72) (j := .tmp 73) (E := 41) (cap := a0.cap) (k := .i64) (by kernel_rfl) (by kernel_rfl) (by kernel_rfl) (by kernel_rfl) (by kernel_rfl) (by kernel_rfl) (by kernel_rfl) (by kernel_rfl) (fun p118 => ?_)
        refine OJ.run [42] [43, 44, 45, 46, 47, 48, 49, 50, 51, 52] [0, 1, 5, 6, 59, 71, 75] (m2 := [(0, Sl.v a0), (1, .pointer a1), (5, .int .i64 s1), (6, .int .i64 s64), (59, .int .i64 (IntKind.wrap .i64 ((IntKind.wrap .i64 (x105 * x107)) - (IntKind.wrap .i64 (x111 * x113))))), (71, .int .i64 (IntKind.wrap .i64 ((IntKind.wrap .i64 (2 * x115)) * x117))), (75, .pointer (some p118))]) (by kernel_rfl) (by kernel_rfl) ?_
        refine OJ.ld (d := 76) (T := 3) (y := .tmp 75) (pend2 := fun x119 => [⟨43, 3, p118, (cI .i64).val x119⟩, ⟨37, 3, p116, (cI .i64).val x117⟩, ⟨31, 3, p114, (cI .i64).val x115⟩, ⟨24, 3, p112, (cI .i64).val x113⟩, ⟨19, 3, p110, (cI .i64).val x111⟩, ⟨16, 28, (Addr.add p108 2), cL.val x109⟩, ⟨11, 3, p106, (cI .i64).val x107⟩, ⟨6, 3, p104, (cI .i64).val x105⟩, ⟨3, 28, (Addr.add p102 2), cL.val x103⟩]) (by kernel_rfl) (by kernel_rfl) Ty3 (by kernel_rfl) (by kernel_rfl) (fun _ => rfl) (fun x119 => ?_)
        refine OJ.run [44, 45] [46, 47, 48, 49, 50, 51, 52] [0, 1, 5, 6, 59, 71, 76, 77, 78] (m2 := [(0, Sl.v a0), (1, .pointer a1), (5, .int .i64 s1), (6, .int .i64 s64), (59, .int .i64 (IntKind.wrap .i64 ((IntKind.wrap .i64 (x105 * x107)) - (IntKind.wrap .i64 (x111 * x113))))), (71, .int .i64 (IntKind.wrap .i64 ((IntKind.wrap .i64 (2 * x115)) * x117))), (76, .int .i64 x119), (77, Sl.v a0), (78, .int .i64 s64)]) (by kernel_rfl) (by kernel_rfl) ?_
        refine OJ.idxS (d := 79) (T := 27) (y := .tmp 77) (j := .tmp 78) (E := 41) (cap := a0.cap) (k := .i64) (by kernel_rfl) (by kernel_rfl) (by kernel_rfl) (by kernel_rfl) (by kernel_rfl) (by kernel_rfl) (by kernel_rfl) (by kernel_rfl) (fun p120 => ?_)
        refine OJ.run [47] [48, 49, 50, 51, 52] [0, 1, 5, 6, 59, 71, 76, 80] (m2 := [(0, Sl.v a0), (1, .pointer a1), (5, .int .i64 s1), (6, .int .i64 s64), (59, .int .i64 (IntKind.wrap .i64 ((IntKind.wrap .i64 (x105 * x107)) - (IntKind.wrap .i64 (x111 * x113))))), (71, .int .i64 (IntKind.wrap .i64 ((IntKind.wrap .i64 (2 * x115)) * x117))), (76, .int .i64 x119), (80, .pointer (some p120))]) (by kernel_rfl) (by kernel_rfl) ?_
        refine OJ.ld (d := 81) (T := 3) (y := .tmp 80) (pend2 := fun x121 => [⟨48, 3, p120, (cI .i64).val x121⟩, ⟨43, 3, p118, (cI .i64).val x119⟩, ⟨37, 3, p116, (cI .i64).val x117⟩, ⟨31, 3, p114, (cI .i64).val x115⟩, ⟨24, 3, p112, (cI .i64).val x113⟩, ⟨19, 3, p110, (cI .i64).val x111⟩, ⟨16, 28, (Addr.add p108 2), cL.val x109⟩, ⟨11, 3, p106, (cI .i64).val x107⟩, ⟨6, 3, p104, (cI .i64).val x105⟩, ⟨3, 28, (Addr.add p102 2), cL.val x103⟩]) (by kernel_rfl) (by kernel_rfl) Ty3 (by kernel_rfl) (by kernel_rfl) (fun _ => rfl) (fun x121 => ?_)
        refine OJ.run [49, 50, 51, 52] [] [0, 1, 5, 6, 85] (m2 := [(0, Sl.v a0), (1, .pointer a1), (5, .int .i64 s1), (6, .int .i64 s64), (85, .bool (decide ((IntKind.wrap .i64 ((IntKind.wrap .i64 (x105 * x107)) - (IntKind.wrap .i64 (x111 * x113)))) > (IntKind.wrap .i64 ((IntKind.wrap .i64 ((IntKind.wrap .i64 (2 * x115)) * x117)) + (IntKind.wrap .i64 (65535 * (IntKind.wrap .i64 (x119 + x121)))))))))]) (by kernel_rfl) (by kernel_rfl) ?_
        refine OJ.nil ?_
        refine SJ.cond (t := (.tmp 85)) (b := decide ((IntKind.wrap .i64 ((IntKind.wrap .i64 (x105 * x107)) - (IntKind.wrap .i64 (x111 * x113)))) > (IntKind.wrap .i64 ((IntKind.wrap .i64 ((IntKind.wrap .i64 (2 * x115)) * x117)) + (IntKind.wrap .i64 (65535 * (IntKind.wrap .i64 (x119 + x121)))))))) (by kernel_rfl) (by kernel_rfl) decide_eq_true_iff (fun hc122 => ?_) (fun hc122 => ?_)
        · refine SJ.seq (by kernel_rfl) ?_
          refine SJ.region (id := 9) (by kernel_rfl) [0] (by kernel_rfl) ?_
          refine OJ.run [0] [] [4] (m2 := [(4, .bool false)]) (by kernel_rfl) (by kernel_rfl) ?_
          refine OJ.nil ?_
          exact SJ.ret (by kernel_rfl) rfl (Res.run (ys := [.bool false]) (.tmp (by kernel_rfl) .nil) rfl)
        · refine SJ.skip (by kernel_rfl) ?_
          refine SJ.inBlock ?_
          refine SJ.region (id := 6) (by kernel_rfl) [0, 1, 2] (by kernel_rfl) ?_
          refine OJ.run [0, 1, 2] [] [0, 1, 5, 6] (m2 := [(0, Sl.v a0), (1, .pointer a1), (5, .int .i64 s1), (6, .int .i64 (IntKind.wrap .i64 (s64 + 1)))]) (by kernel_rfl) (by kernel_rfl) ?_
          refine OJ.nil ?_
          exact SJ.at_ [0, 1, 5, 6] rfl (by kernel_rfl)
  · refine SJ.exit (id := 2) (by kernel_rfl) (by rfl) ?_
    refine SJ.inBlock ?_
    refine SJ.region (id := 3) (by kernel_rfl) [0, 1, 2] (by kernel_rfl) ?_
    refine OJ.run [0, 1, 2] [] [0, 1, 5] (m2 := [(0, Sl.v a0), (1, .pointer a1), (5, .int .i64 (IntKind.wrap .i64 (s1 + 1)))]) (by kernel_rfl) (by kernel_rfl) ?_
    refine OJ.nil ?_
    exact SJ.at_ [0, 1, 5] rfl (by kernel_rfl)
noncomputable def weirlaw18_fair.L1 (a0 : Sl) (a1 : (Option Addr)) (s1 : Int) : M (LS Int Bool) :=
  if s1 < (a0.len : Int) then
    loopM (fun s_ : Int => weirlaw18_fair.L2 a0 a1 s1 s_) 0
  else
    pure (LS.done true)
theorem weirlaw18_fair.L1_ok (a0 : Sl) (a1 : (Option Addr)) (s1 : Int) :
    SJ weirlaw18_fair.cx [.code (c1 (c1 (c2 (c1 (c2 weirlaw18_fair.B))))), .inLoop (c1 (c1 (c2 (c1 (c2 weirlaw18_fair.B))))), .inBlock 0, .code (c2 (c2 weirlaw18_fair.B))] [(0, Sl.v a0), (1, .pointer a1), (5, .int .i64 s1)] [] (weirlaw18_fair.L1 a0 a1 s1) (weirlaw18_fair.F1 a0 a1) := by
  unfold weirlaw18_fair.L1
  refine SJ.seq (by kernel_rfl) ?_
  refine SJ.seq (by kernel_rfl) ?_
  refine SJ.region (id := 2) (by kernel_rfl) [0, 1, 2, 3] (by kernel_rfl) ?_
  refine OJ.run [0, 1, 2, 3] [] [0, 1, 5, 10] (m2 := [(0, Sl.v a0), (1, .pointer a1), (5, .int .i64 s1), (10, .bool (decide (s1 < (a0.len : Int))))]) (by kernel_rfl) (by kernel_rfl) ?_
  refine OJ.nil ?_
  refine SJ.cond (t := (.tmp 10)) (b := decide (s1 < (a0.len : Int))) (by kernel_rfl) (by kernel_rfl) decide_eq_true_iff (fun hc125 => ?_) (fun hc125 => ?_)
  · refine SJ.skip (by kernel_rfl) ?_
    refine SJ.seq (by kernel_rfl) ?_
    refine SJ.block (id := 1) (by kernel_rfl) ?_
    refine SJ.seq (by kernel_rfl) ?_
    refine SJ.region (id := 4) (by kernel_rfl) [0] (by kernel_rfl) ?_
    refine OJ.run [0] [] [0, 1, 5, 6] (m2 := [(0, Sl.v a0), (1, .pointer a1), (5, .int .i64 s1), (6, .int .i64 0)]) (by kernel_rfl) (by kernel_rfl) ?_
    refine OJ.nil ?_
    refine SJ.block (id := 2) (by kernel_rfl) ?_
    exact SJ.loop (fun s_ : Int => [(0, Sl.v a0), (1, .pointer a1), (5, .int .i64 s1), (6, .int .i64 s_)]) (fun s_ : Int => []) [0, 1, 5, 6] (by kernel_rfl) (by kernel_rfl) rfl (fun _ _ => rfl) (fun s_ => weirlaw18_fair.L2_ok a0 a1 s1 s_)
  · refine SJ.exit (id := 0) (by kernel_rfl) (by rfl) ?_
    refine SJ.seq (by kernel_rfl) ?_
    refine SJ.region (id := 10) (by kernel_rfl) [0] (by kernel_rfl) ?_
    refine OJ.run [0] [] [4] (m2 := [(4, .bool true)]) (by kernel_rfl) (by kernel_rfl) ?_
    refine OJ.nil ?_
    exact SJ.ret (by kernel_rfl) rfl (Res.run (ys := [.bool true]) (.tmp (by kernel_rfl) .nil) rfl)
noncomputable def weirlaw18_fair (a0 : Sl) (a1 : (Option Addr)) : M Bool :=
  loopM (fun s_ : Int => weirlaw18_fair.L1 a0 a1 s_) 0
theorem weirlaw18_fair_ok (a0 : Sl) (a1 : (Option Addr)) : Ref Try.prog 24 [Sl.v a0, .pointer a1] (weirlaw18_fair a0 a1) weirlaw18_fair.out := by
  refine Ref.of (cd := weirlaw18_fair.B) Try.func24 (by kernel_rfl) (by kernel_rfl) ?_
  show SJ weirlaw18_fair.cx [.code weirlaw18_fair.B] [(0, Sl.v a0), (1, .pointer a1)] [] (weirlaw18_fair a0 a1) weirlaw18_fair.F0
  unfold weirlaw18_fair
  refine SJ.seq (by kernel_rfl) ?_
  refine SJ.region (id := 0) (by kernel_rfl) [0] (by kernel_rfl) ?_
  refine OJ.run [0] [] [0, 1] (m2 := [(0, Sl.v a0), (1, .pointer a1)]) (by kernel_rfl) (by kernel_rfl) ?_
  refine OJ.nil ?_
  refine SJ.seq (by kernel_rfl) ?_
  refine SJ.seq (by kernel_rfl) ?_
  refine SJ.region (id := 1) (by kernel_rfl) [0] (by kernel_rfl) ?_
  refine OJ.run [0] [] [0, 1, 5] (m2 := [(0, Sl.v a0), (1, .pointer a1), (5, .int .i64 0)]) (by kernel_rfl) (by kernel_rfl) ?_
  refine OJ.nil ?_
  refine SJ.block (id := 0) (by kernel_rfl) ?_
  exact SJ.loop (fun s_ : Int => [(0, Sl.v a0), (1, .pointer a1), (5, .int .i64 s_)]) (fun s_ : Int => []) [0, 1, 5] (by kernel_rfl) (by kernel_rfl) rfl (fun _ _ => rfl) (fun s_ => weirlaw18_fair.L1_ok a0 a1 s_)

/-! ### weir/weirlaw18.QueueFair: function 4 -/
noncomputable def weirlaw18_QueueFair.B : Code := (Try.f4.body).getD .skip
noncomputable def weirlaw18_QueueFair.cx : Fx := ⟨Try.prog, 4, Try.f4⟩
noncomputable def weirlaw18_QueueFair.out (r_ : Bool) : Value := .bool r_
noncomputable def weirlaw18_QueueFair.F0 (r_ : Bool) : Reach := .ret (weirlaw18_QueueFair.out r_)
noncomputable def weirlaw18_QueueFair.F1 (a1 : Sl) (a2 : Int) (r1 : ((Option Addr) × Sl)) (r2 : (Option Addr)) : (LS (Int × Int) Bool) → Reach := loopF [.inLoop (c1 (c1 (c2 (c1 (c2 (c2 (c2 (c2 (c2 (c2 (c2 (c2 weirlaw18_QueueFair.B)))))))))))), .inBlock 0, .code (c2 (c2 (c2 (c2 (c2 (c2 (c2 (c2 (c2 weirlaw18_QueueFair.B)))))))))] (fun s_ : (Int × Int) => [(0, Sl.v r1.2), (1, Sl.v a1), (2, .int .i64 a2), (7, .pointer r1.1), (8, .pointer r2), (9, .int .i64 s_.1), (13, .int .i64 s_.2)]) (fun s_ : (Int × Int) => []) weirlaw18_QueueFair.F0
noncomputable def weirlaw18_QueueFair.K1 (r1 : ((Option Addr) × Sl)) (r2 : (Option Addr)) (s9 : Int) (s138 : Int) : M (LS (Int × Int) Bool) :=
  queue_Queue_Pop r1.1 >>= fun r198 =>
  if ¬ (r198.2.2 = true) then
    weirlaw18_Book_none r2 >>= fun r200 =>
    pure (LS.done r200)
  else
    weirlaw18_Book_popped r2 r198.1 r198.2.1 >>= fun r201 =>
    if ¬ (r201 = true) then
      pure (LS.done false)
    else
      pure (LS.next (s138, IntKind.wrap .i64 (s9 + 1)))
theorem weirlaw18_QueueFair.K1_ok (a1 : Sl) (a2 : Int) (r1 : ((Option Addr) × Sl)) (r2 : (Option Addr)) (s9 : Int) (s138 : Int) :
    SJ weirlaw18_QueueFair.cx [.code (c2 (c1 (c1 (c2 (c1 (c1 (c2 (c1 (c2 (c2 (c2 (c2 (c2 (c2 (c2 (c2 weirlaw18_QueueFair.B)))))))))))))))), .inBlock 1, .code (c2 (c2 (c1 (c1 (c2 (c1 (c2 (c2 (c2 (c2 (c2 (c2 (c2 (c2 weirlaw18_QueueFair.B)))))))))))))), .inLoop (c1 (c1 (c2 (c1 (c2 (c2 (c2 (c2 (c2 (c2 (c2 (c2 weirlaw18_QueueFair.B)))))))))))), .inBlock 0, .code (c2 (c2 (c2 (c2 (c2 (c2 (c2 (c2 (c2 weirlaw18_QueueFair.B)))))))))] [(0, Sl.v r1.2), (1, Sl.v a1), (2, .int .i64 a2), (7, .pointer r1.1), (8, .pointer r2), (9, .int .i64 s138), (13, .int .i64 s9)] [] (weirlaw18_QueueFair.K1 r1 r2 s9 s138) (weirlaw18_QueueFair.F1 a1 a2 r1 r2) := by
  unfold weirlaw18_QueueFair.K1
  refine SJ.seq (by kernel_rfl) ?_
  refine SJ.region (id := 26) (by kernel_rfl) [0, 1, 2, 3, 4, 5, 6, 7, 8] (by kernel_rfl) ?_
  refine OJ.run [0] [1, 2, 3, 4, 5, 6, 7, 8] [0, 1, 2, 7, 8, 9, 13, 121] (m2 := [(0, Sl.v r1.2), (1, Sl.v a1), (2, .int .i64 a2), (7, .pointer r1.1), (8, .pointer r2), (9, .int .i64 s138), (13, .int .i64 s9), (121, .pointer r1.1)]) (by kernel_rfl) (by kernel_rfl) ?_
  refine OJ.call (d := 122) (g := 19) (ats := #[29]) (args := [.tmp 121]) (vals := [.pointer r1.1]) (owed := []) (by kernel_rfl) F19 (by kernel_rfl) (queue_Queue_Pop_ok r1.1) (by kernel_rfl) (by kernel_rfl) (by kernel_rfl) (fun r198 => ?_)
  refine OW.nil ?_
  refine OJ.run [2, 3, 4, 5, 6, 7, 8] [] [0, 1, 2, 7, 8, 9, 13, 16, 17, 18] (m2 := [(0, Sl.v r1.2), (1, Sl.v a1), (2, .int .i64 a2), (7, .pointer r1.1), (8, .pointer r2), (9, .int .i64 s138), (13, .int .i64 s9), (16, .int .i64 r198.1), (17, .int .i64 r198.2.1), (18, .bool r198.2.2)]) (by kernel_rfl) (by kernel_rfl) ?_
  refine OJ.nil ?_
  refine SJ.seq (by kernel_rfl) ?_
  refine SJ.seq (by kernel_rfl) ?_
  refine SJ.region (id := 27) (by kernel_rfl) [0, 1] (by kernel_rfl) ?_
  refine OJ.run [0, 1] [] [0, 1, 2, 7, 8, 9, 13, 16, 17, 127] (m2 := [(0, Sl.v r1.2), (1, Sl.v a1), (2, .int .i64 a2), (7, .pointer r1.1), (8, .pointer r2), (9, .int .i64 s138), (13, .int .i64 s9), (16, .int .i64 r198.1), (17, .int .i64 r198.2.1), (127, .bool (!r198.2.2))]) (by kernel_rfl) (by kernel_rfl) ?_
  refine OJ.nil ?_
  refine SJ.cond (t := (.tmp 127)) (b := (!r198.2.2)) (by kernel_rfl) (by kernel_rfl) (bnot_iff Iff.rfl) (fun hc203 => ?_) (fun hc203 => ?_)
  · refine SJ.seq (by kernel_rfl) ?_
    refine SJ.region (id := 28) (by kernel_rfl) [0, 1, 2] (by kernel_rfl) ?_
    refine OJ.run [0] [1, 2] [128] (m2 := [(128, .pointer r2)]) (by kernel_rfl) (by kernel_rfl) ?_
    refine OJ.call (d := 129) (g := 22) (ats := #[32]) (args := [.tmp 128]) (vals := [.pointer r2]) (owed := []) (by kernel_rfl) F22 (by kernel_rfl) (weirlaw18_Book_none_ok r2) (by kernel_rfl) (by kernel_rfl) (by kernel_rfl) (fun r200 => ?_)
    refine OW.nil ?_
    refine OJ.run [2] [] [6] (m2 := [(6, .bool r200)]) (by kernel_rfl) (by kernel_rfl) ?_
    refine OJ.nil ?_
    exact SJ.ret (by kernel_rfl) rfl (Res.run (ys := [.bool r200]) (.tmp (by kernel_rfl) .nil) rfl)
  · refine SJ.skip (by kernel_rfl) ?_
    refine SJ.seq (by kernel_rfl) ?_
    refine SJ.region (id := 29) (by kernel_rfl) [0, 1, 2, 3, 4] (by kernel_rfl) ?_
    refine OJ.run [0, 1, 2] [3, 4] [0, 1, 2, 7, 8, 9, 13, 130, 131, 132] (m2 := [(0, Sl.v r1.2), (1, Sl.v a1), (2, .int .i64 a2), (7, .pointer r1.1), (8, .pointer r2), (9, .int .i64 s138), (13, .int .i64 s9), (130, .pointer r2), (131, .int .i64 r198.1), (132, .int .i64 r198.2.1)]) (by kernel_rfl) (by kernel_rfl) ?_
    refine OJ.call (d := 133) (g := 23) (ats := #[32, 3, 3]) (args := [.tmp 130, .tmp 131, .tmp 132]) (vals := [.pointer r2, .int .i64 r198.1, .int .i64 r198.2.1]) (owed := []) (by kernel_rfl) F23 (by kernel_rfl) (weirlaw18_Book_popped_ok r2 r198.1 r198.2.1) (by kernel_rfl) (by kernel_rfl) (by kernel_rfl) (fun r201 => ?_)
    refine OW.nil ?_
    refine OJ.run [4] [] [0, 1, 2, 7, 8, 9, 13, 134] (m2 := [(0, Sl.v r1.2), (1, Sl.v a1), (2, .int .i64 a2), (7, .pointer r1.1), (8, .pointer r2), (9, .int .i64 s138), (13, .int .i64 s9), (134, .bool (!r201))]) (by kernel_rfl) (by kernel_rfl) ?_
    refine OJ.nil ?_
    refine SJ.cond (t := (.tmp 134)) (b := (!r201)) (by kernel_rfl) (by kernel_rfl) (bnot_iff Iff.rfl) (fun hc202 => ?_) (fun hc202 => ?_)
    · refine SJ.seq (by kernel_rfl) ?_
      refine SJ.region (id := 30) (by kernel_rfl) [0] (by kernel_rfl) ?_
      refine OJ.run [0] [] [6] (m2 := [(6, .bool false)]) (by kernel_rfl) (by kernel_rfl) ?_
      refine OJ.nil ?_
      exact SJ.ret (by kernel_rfl) rfl (Res.run (ys := [.bool false]) (.tmp (by kernel_rfl) .nil) rfl)
    · refine SJ.skip (by kernel_rfl) ?_
      refine SJ.inBlock ?_
      refine SJ.region (id := 13) (by kernel_rfl) [0, 1, 2] (by kernel_rfl) ?_
      refine OJ.run [0, 1, 2] [] [0, 1, 2, 7, 8, 9, 13] (m2 := [(0, Sl.v r1.2), (1, Sl.v a1), (2, .int .i64 a2), (7, .pointer r1.1), (8, .pointer r2), (9, .int .i64 s138), (13, .int .i64 (IntKind.wrap .i64 (s9 + 1)))]) (by kernel_rfl) (by kernel_rfl) ?_
      refine OJ.nil ?_
      exact SJ.at_ [0, 1, 2, 7, 8, 9, 13] rfl (by kernel_rfl)
noncomputable def weirlaw18_QueueFair.F2 (a1 : Sl) (a2 : Int) (r1 : ((Option Addr) × Sl)) (r2 : (Option Addr)) (s9 : Int) : (LS (Int × Int) (LS (Int × Int) Bool)) → Reach := loopF [.inLoop (c1 (c1 (c2 (c1 (c1 (c1 (c2 (c1 (c1 (c2 (c1 (c2 (c2 (c2 (c2 (c2 (c2 (c2 (c2 weirlaw18_QueueFair.B))))))))))))))))))), .inBlock 2, .code (c2 (c1 (c1 (c2 (c1 (c1 (c2 (c1 (c2 (c2 (c2 (c2 (c2 (c2 (c2 (c2 weirlaw18_QueueFair.B)))))))))))))))), .inBlock 1, .code (c2 (c2 (c1 (c1 (c2 (c1 (c2 (c2 (c2 (c2 (c2 (c2 (c2 (c2 weirlaw18_QueueFair.B)))))))))))))), .inLoop (c1 (c1 (c2 (c1 (c2 (c2 (c2 (c2 (c2 (c2 (c2 (c2 weirlaw18_QueueFair.B)))))))))))), .inBlock 0, .code (c2 (c2 (c2 (c2 (c2 (c2 (c2 (c2 (c2 weirlaw18_QueueFair.B)))))))))] (fun s_ : (Int × Int) => [(0, Sl.v r1.2), (1, Sl.v a1), (2, .int .i64 a2), (7, .pointer r1.1), (8, .pointer r2), (9, .int .i64 s_.1), (13, .int .i64 s9), (14, .int .i64 s_.2)]) (fun s_ : (Int × Int) => []) (weirlaw18_QueueFair.F1 a1 a2 r1 r2)
noncomputable def weirlaw18_QueueFair.F3 (a1 : Sl) (a2 : Int) (r1 : ((Option Addr) × Sl)) (r2 : (Option Addr)) (s9 : Int) (s139 : Int) : (LS Int (LS (Int × Int) (LS (Int × Int) Bool))) → Reach := loopF [.inLoop (c1 (c1 (c1 (c1 (c2 (c1 (c1 (c2 (c1 (c1 (c1 (c2 (c1 (c1 (c2 (c1 (c2 (c2 (c2 (c2 (c2 (c2 (c2 (c2 weirlaw18_QueueFair.B)))))))))))))))))))))))), .inBlock 4, .inBlock 3, .code (c2 (c2 (c1 (c1 (c2 (c1 (c1 (c1 (c2 (c1 (c1 (c2 (c1 (c2 (c2 (c2 (c2 (c2 (c2 (c2 (c2 weirlaw18_QueueFair.B))))))))))))))))))))), .inLoop (c1 (c1 (c2 (c1 (c1 (c1 (c2 (c1 (c1 (c2 (c1 (c2 (c2 (c2 (c2 (c2 (c2 (c2 (c2 weirlaw18_QueueFair.B))))))))))))))))))), .inBlock 2, .code (c2 (c1 (c1 (c2 (c1 (c1 (c2 (c1 (c2 (c2 (c2 (c2 (c2 (c2 (c2 (c2 weirlaw18_QueueFair.B)))))))))))))))), .inBlock 1, .code (c2 (c2 (c1 (c1 (c2 (c1 (c2 (c2 (c2 (c2 (c2 (c2 (c2 (c2 weirlaw18_QueueFair.B)))))))))))))), .inLoop (c1 (c1 (c2 (c1 (c2 (c2 (c2 (c2 (c2 (c2 (c2 (c2 weirlaw18_QueueFair.B)))))))))))), .inBlock 0, .code (c2 (c2 (c2 (c2 (c2 (c2 (c2 (c2 (c2 weirlaw18_QueueFair.B)))))))))] (fun s_ : Int => [(0, Sl.v r1.2), (1, Sl.v a1), (2, .int .i64 a2), (7, .pointer r1.1), (8, .pointer r2), (9, .int .i64 s_), (13, .int .i64 s9), (14, .int .i64 s139)]) (fun s_ : Int => []) (weirlaw18_QueueFair.F2 a1 a2 r1 r2 s9)
noncomputable def weirlaw18_QueueFair.K2 (r1 : ((Option Addr) × Sl)) (r2 : (Option Addr)) (s9 : Int) (s139 : Int) (j243 : Int) (j249 : Int) : M (LS Int (LS (Int × Int) (LS (Int × Int) Bool))) :=
  queue_Queue_Push r1.1 s139 j249 s9 >>= fun r250 =>
  weirlaw18_num r250 >>= fun r251 =>
  weirlaw18_Book_pushed r2 r1.2 (⟨z_weirlaw18_Op.Kind, z_weirlaw18_Op.Two, s139, j249, s9⟩ : weirlaw18_Op) r251 >>= fun r252 =>
  if ¬ (r252 = true) then
    pure (LS.done (LS.done (LS.done false)))
  else
    pure (LS.next j243)
theorem weirlaw18_QueueFair.K2_ok (a1 : Sl) (a2 : Int) (r1 : ((Option Addr) × Sl)) (r2 : (Option Addr)) (s9 : Int) (s139 : Int) (j243 : Int) (j249 : Int) :
    SJ weirlaw18_QueueFair.cx [.code (c2 (c2 (c2 (c1 (c2 (c1 (c1 (c1 (c1 (c2 (c1 (c1 (c2 (c1 (c1 (c1 (c2 (c1 (c1 (c2 (c1 (c2 (c2 (c2 (c2 (c2 (c2 (c2 (c2 weirlaw18_QueueFair.B))))))))))))))))))))))))))))), .inBlock 5, .inLoop (c1 (c1 (c1 (c1 (c2 (c1 (c1 (c2 (c1 (c1 (c1 (c2 (c1 (c1 (c2 (c1 (c2 (c2 (c2 (c2 (c2 (c2 (c2 (c2 weirlaw18_QueueFair.B)))))))))))))))))))))))), .inBlock 4, .inBlock 3, .code (c2 (c2 (c1 (c1 (c2 (c1 (c1 (c1 (c2 (c1 (c1 (c2 (c1 (c2 (c2 (c2 (c2 (c2 (c2 (c2 (c2 weirlaw18_QueueFair.B))))))))))))))))))))), .inLoop (c1 (c1 (c2 (c1 (c1 (c1 (c2 (c1 (c1 (c2 (c1 (c2 (c2 (c2 (c2 (c2 (c2 (c2 (c2 weirlaw18_QueueFair.B))))))))))))))))))), .inBlock 2, .code (c2 (c1 (c1 (c2 (c1 (c1 (c2 (c1 (c2 (c2 (c2 (c2 (c2 (c2 (c2 (c2 weirlaw18_QueueFair.B)))))))))))))))), .inBlock 1, .code (c2 (c2 (c1 (c1 (c2 (c1 (c2 (c2 (c2 (c2 (c2 (c2 (c2 (c2 weirlaw18_QueueFair.B)))))))))))))), .inLoop (c1 (c1 (c2 (c1 (c2 (c2 (c2 (c2 (c2 (c2 (c2 (c2 weirlaw18_QueueFair.B)))))))))))), .inBlock 0, .code (c2 (c2 (c2 (c2 (c2 (c2 (c2 (c2 (c2 weirlaw18_QueueFair.B)))))))))] [(0, Sl.v r1.2), (1, Sl.v a1), (2, .int .i64 a2), (7, .pointer r1.1), (8, .pointer r2), (9, .int .i64 j243), (13, .int .i64 s9), (14, .int .i64 s139), (15, .int .i64 j249)] [] (weirlaw18_QueueFair.K2 r1 r2 s9 s139 j243 j249) (weirlaw18_QueueFair.F3 a1 a2 r1 r2 s9 s139) := by
  unfold weirlaw18_QueueFair.K2
  refine SJ.seq (by kernel_rfl) ?_
  refine SJ.region (id := 24) (by kernel_rfl) [0, 1, 2, 3, 4, 5, 6, 7, 8, 9, 10, 11, 12, 13] (by kernel_rfl) ?_
  refine OJ.run [0, 1, 2, 3, 4] [5, 6, 7, 8, 9, 10, 11, 12, 13] [0, 1, 2, 7, 8, 9, 13, 14, 15, 106, 107, 108, 109, 110] (m2 := [(0, Sl.v r1.2), (1, Sl.v a1), (2, .int .i64 a2), (7, .pointer r1.1), (8, .pointer r2), (9, .int .i64 j243), (13, .int .i64 s9), (14, .int .i64 s139), (15, .int .i64 j249), (106, .pointer r2), (107, Sl.v r1.2), (108, .int .i64 s139), (109, .int .i64 j249), (110, .int .i64 s9)]) (by kernel_rfl) (by kernel_rfl) ?_
  refine OJ.build (d := 111) (T := 48) (parts := [(2, .tmp 108), (3, .tmp 109), (4, .tmp 110)]) (ps := [(2, (cI .i64).val s139), (3, (cI .i64).val j249), (4, (cI .i64).val s9)]) (cd := c_weirlaw18_Op) (z0 := z_weirlaw18_Op) (⟨z_weirlaw18_Op.Kind, z_weirlaw18_Op.Two, s139, j249, s9⟩ : weirlaw18_Op) (by kernel_rfl) (by kernel_rfl) Ty48 rfl (by kernel_rfl) (Filled.cons (cd := (cI .i64)) (q := s139) (o := 2) (by kernel_rfl) (Up_weirlaw18_Op_Class z_weirlaw18_Op s139) (Filled.cons (cd := (cI .i64)) (q := j249) (o := 3) (by kernel_rfl) (Up_weirlaw18_Op_Size (⟨z_weirlaw18_Op.Kind, z_weirlaw18_Op.Two, s139, z_weirlaw18_Op.Size, z_weirlaw18_Op.Item⟩ : weirlaw18_Op) j249) (Filled.cons (cd := (cI .i64)) (q := s9) (o := 4) (by kernel_rfl) (Up_weirlaw18_Op_Item (⟨z_weirlaw18_Op.Kind, z_weirlaw18_Op.Two, s139, j249, z_weirlaw18_Op.Item⟩ : weirlaw18_Op) s9) Filled.nil))) (by kernel_rfl) (by kernel_rfl) (by kernel_rfl) ?_
  refine OJ.run [6, 7, 8, 9] [10, 11, 12, 13] [0, 1, 2, 7, 8, 9, 13, 14, 106, 107, 111, 112, 113, 114, 115] (m2 := [(0, Sl.v r1.2), (1, Sl.v a1), (2, .int .i64 a2), (7, .pointer r1.1), (8, .pointer r2), (9, .int .i64 j243), (13, .int .i64 s9), (14, .int .i64 s139), (106, .pointer r2), (107, Sl.v r1.2), (111, c_weirlaw18_Op.val (⟨z_weirlaw18_Op.Kind, z_weirlaw18_Op.Two, s139, j249, s9⟩ : weirlaw18_Op)), (112, .pointer r1.1), (113, .int .i64 s139), (114, .int .i64 j249), (115, .int .i64 s9)]) (by kernel_rfl) (by kernel_rfl) ?_
  refine OJ.call (d := 116) (g := 18) (ats := #[29, 3, 3, 3]) (args := [.tmp 112, .tmp 113, .tmp 114, .tmp 115]) (vals := [.pointer r1.1, .int .i64 s139, .int .i64 j249, .int .i64 s9]) (owed := []) (by kernel_rfl) F18 (by kernel_rfl) (queue_Queue_Push_ok r1.1 s139 j249 s9) (by kernel_rfl) (by kernel_rfl) (by kernel_rfl) (fun r250 => ?_)
  refine OW.nil ?_
  refine OJ.call (d := 117) (g := 17) (ats := #[35]) (args := [.tmp 116]) (vals := [.int .i64 r250]) (owed := []) (by kernel_rfl) F17 (by kernel_rfl) (weirlaw18_num_ok r250) (by kernel_rfl) (by kernel_rfl) (by kernel_rfl) (fun r251 => ?_)
  refine OW.nil ?_
  refine OJ.call (d := 118) (g := 21) (ats := #[32, 27, 48, 3]) (args := [.tmp 106, .tmp 107, .tmp 111, .tmp 117]) (vals := [.pointer r2, Sl.v r1.2, c_weirlaw18_Op.val (⟨z_weirlaw18_Op.Kind, z_weirlaw18_Op.Two, s139, j249, s9⟩ : weirlaw18_Op), .int .i64 r251]) (owed := []) (by kernel_rfl) F21 (by kernel_rfl) (weirlaw18_Book_pushed_ok r2 r1.2 (⟨z_weirlaw18_Op.Kind, z_weirlaw18_Op.Two, s139, j249, s9⟩ : weirlaw18_Op) r251) (by kernel_rfl) (by kernel_rfl) (by kernel_rfl) (fun r252 => ?_)
  refine OW.nil ?_
  refine OJ.run [13] [] [0, 1, 2, 7, 8, 9, 13, 14, 119] (m2 := [(0, Sl.v r1.2), (1, Sl.v a1), (2, .int .i64 a2), (7, .pointer r1.1), (8, .pointer r2), (9, .int .i64 j243), (13, .int .i64 s9), (14, .int .i64 s139), (119, .bool (!r252))]) (by kernel_rfl) (by kernel_rfl) ?_
  refine OJ.nil ?_
  refine SJ.cond (t := (.tmp 119)) (b := (!r252)) (by kernel_rfl) (by kernel_rfl) (bnot_iff Iff.rfl) (fun hc253 => ?_) (fun hc253 => ?_)
  · refine SJ.seq (by kernel_rfl) ?_
    refine SJ.region (id := 25) (by kernel_rfl) [0] (by kernel_rfl) ?_
    refine OJ.run [0] [] [6] (m2 := [(6, .bool false)]) (by kernel_rfl) (by kernel_rfl) ?_
    refine OJ.nil ?_
    exact SJ.ret (by kernel_rfl) rfl (Res.run (ys := [.bool false]) (.tmp (by kernel_rfl) .nil) rfl)
  · refine SJ.skip (by kernel_rfl) ?_
    refine SJ.inBlock ?_
    exact SJ.at_ [0, 1, 2, 7, 8, 9, 13, 14] rfl (by kernel_rfl)
noncomputable def weirlaw18_QueueFair.K3 (r1 : ((Option Addr) × Sl)) (r2 : (Option Addr)) (s9 : Int) (s139 : Int) (j243 : Int) (j244 : Int) : M (LS Int (LS (Int × Int) (LS (Int × Int) Bool))) :=
  idx r1.2.a r1.2.len s139 5 >>= fun p245 =>
  ld (cI .i64) (Addr.add p245 2) >>= fun x246 =>
  if j244 > (IntKind.wrap .i64 (Int.tdiv x246 2)) then
    idx r1.2.a r1.2.len s139 5 >>= fun p254 =>
    ld (cI .i64) (Addr.add p254 2) >>= fun x255 =>
    weirlaw18_QueueFair.K2 r1 r2 s9 s139 j243 (IntKind.wrap .i64 (Int.tdiv x255 2))
  else
    weirlaw18_QueueFair.K2 r1 r2 s9 s139 j243 j244
theorem weirlaw18_QueueFair.K3_ok (a1 : Sl) (a2 : Int) (r1 : ((Option Addr) × Sl)) (r2 : (Option Addr)) (s9 : Int) (s139 : Int) (j243 : Int) (j244 : Int) :
    SJ weirlaw18_QueueFair.cx [.code (c2 (c2 (c1 (c2 (c1 (c1 (c1 (c1 (c2 (c1 (c1 (c2 (c1 (c1 (c1 (c2 (c1 (c1 (c2 (c1 (c2 (c2 (c2 (c2 (c2 (c2 (c2 (c2 weirlaw18_QueueFair.B)))))))))))))))))))))))))))), .inBlock 5, .inLoop (c1 (c1 (c1 (c1 (c2 (c1 (c1 (c2 (c1 (c1 (c1 (c2 (c1 (c1 (c2 (c1 (c2 (c2 (c2 (c2 (c2 (c2 (c2 (c2 weirlaw18_QueueFair.B)))))))))))))))))))))))), .inBlock 4, .inBlock 3, .code (c2 (c2 (c1 (c1 (c2 (c1 (c1 (c1 (c2 (c1 (c1 (c2 (c1 (c2 (c2 (c2 (c2 (c2 (c2 (c2 (c2 weirlaw18_QueueFair.B))))))))))))))))))))), .inLoop (c1 (c1 (c2 (c1 (c1 (c1 (c2 (c1 (c1 (c2 (c1 (c2 (c2 (c2 (c2 (c2 (c2 (c2 (c2 weirlaw18_QueueFair.B))))))))))))))))))), .inBlock 2, .code (c2 (c1 (c1 (c2 (c1 (c1 (c2 (c1 (c2 (c2 (c2 (c2 (c2 (c2 (c2 (c2 weirlaw18_QueueFair.B)))))))))))))))), .inBlock 1, .code (c2 (c2 (c1 (c1 (c2 (c1 (c2 (c2 (c2 (c2 (c2 (c2 (c2 (c2 weirlaw18_QueueFair.B)))))))))))))), .inLoop (c1 (c1 (c2 (c1 (c2 (c2 (c2 (c2 (c2 (c2 (c2 (c2 weirlaw18_QueueFair.B)))))))))))), .inBlock 0, .code (c2 (c2 (c2 (c2 (c2 (c2 (c2 (c2 (c2 weirlaw18_QueueFair.B)))))))))] [(0, Sl.v r1.2), (1, Sl.v a1), (2, .int .i64 a2), (7, .pointer r1.1), (8, .pointer r2), (9, .int .i64 j243), (13, .int .i64 s9), (14, .int .i64 s139), (15, .int .i64 j244)] [] (weirlaw18_QueueFair.K3 r1 r2 s9 s139 j243 j244) (weirlaw18_QueueFair.F3 a1 a2 r1 r2 s9 s139) := by
  unfold weirlaw18_QueueFair.K3
  refine SJ.seq (by kernel_rfl) ?_
  refine SJ.seq (by kernel_rfl) ?_
  refine SJ.region (id := 22) (by kernel_rfl) [0, 1, 2, 3, 4, 5, 6, 7] (by kernel_rfl) ?_
  refine OJ.run [0, 1, 2] [3, 4, 5, 6, 7] [0, 1, 2, 7, 8, 9, 13, 14, 15, 92, 93, 94] (m2 := [(0, Sl.v r1.2), (1, Sl.v a1), (2, .int .i64 a2), (7, .pointer r1.1), (8, .pointer r2), (9, .int .i64 j243), (13, .int .i64 s9), (14, .int .i64 s139), (15, .int .i64 j244), (92, .int .i64 j244), (93, Sl.v r1.2), (94, .int .i64 s139)]) (by kernel_rfl) (by kernel_rfl) ?_
  refine OJ.idxS (d := 95) (T := 27) (y := .tmp 93) (j := .tmp 94) (E := 41) (cap := r1.2.cap) (k := .i64) (by kernel_rfl) (by kernel_rfl) (by kernel_rfl) (by kernel_rfl) (by kernel_rfl) (by kernel_rfl) (by kernel_rfl) (by kernel_rfl) (fun p245 => ?_)
  refine OJ.run [4] [5, 6, 7] [0, 1, 2, 7, 8, 9, 13, 14, 15, 92, 96] (m2 := [(0, Sl.v r1.2), (1, Sl.v a1), (2, .int .i64 a2), (7, .pointer r1.1), (8, .pointer r2), (9, .int .i64 j243), (13, .int .i64 s9), (14, .int .i64 s139), (15, .int .i64 j244), (92, .int .i64 j244), (96, .pointer (some (Addr.add p245 2)))]) (by kernel_rfl) (by kernel_rfl) ?_
  refine OJ.ld (d := 97) (T := 3) (y := .tmp 96) (pend2 := fun x246 => []) (by kernel_rfl) (by kernel_rfl) Ty3 (by kernel_rfl) (by kernel_rfl) (fun _ => rfl) (fun x246 => ?_)
  refine OJ.run [6, 7] [] [0, 1, 2, 7, 8, 9, 13, 14, 15, 99] (m2 := [(0, Sl.v r1.2), (1, Sl.v a1), (2, .int .i64 a2), (7, .pointer r1.1), (8, .pointer r2), (9, .int .i64 j243), (13, .int .i64 s9), (14, .int .i64 s139), (15, .int .i64 j244), (99, .bool (decide (j244 > (IntKind.wrap .i64 (Int.tdiv x246 2)))))]) (by kernel_rfl) (by kernel_rfl) ?_
  refine OJ.nil ?_
  refine SJ.cond (t := (.tmp 99)) (b := decide (j244 > (IntKind.wrap .i64 (Int.tdiv x246 2)))) (by kernel_rfl) (by kernel_rfl) decide_eq_true_iff (fun hc256 => ?_) (fun hc256 => ?_)
  · refine SJ.region (id := 23) (by kernel_rfl) [0, 1, 2, 3, 4, 5, 6] (by kernel_rfl) ?_
    refine OJ.run [0, 1] [2, 3, 4, 5, 6] [0, 1, 2, 7, 8, 9, 13, 14, 15, 100, 101] (m2 := [(0, Sl.v r1.2), (1, Sl.v a1), (2, .int .i64 a2), (7, .pointer r1.1), (8, .pointer r2), (9, .int .i64 j243), (13, .int .i64 s9), (14, .int .i64 s139), (15, .int .i64 j244), (100, Sl.v r1.2), (101, .int .i64 s139)]) (by kernel_rfl) (by kernel_rfl) ?_
    refine OJ.idxS (d := 102) (T := 27) (y := .tmp 100) (j := .tmp 101) (E := 41) (cap := r1.2.cap) (k := .i64) (by kernel_rfl) (by kernel_rfl) (by kernel_rfl) (by kernel_rfl) (by kernel_rfl) (by kernel_rfl) (by kernel_rfl) (by kernel_rfl) (fun p254 => ?_)
    refine OJ.run [3] [4, 5, 6] [0, 1, 2, 7, 8, 9, 13, 14, 15, 103] (m2 := [(0, Sl.v r1.2), (1, Sl.v a1), (2, .int .i64 a2), (7, .pointer r1.1), (8, .pointer r2), (9, .int .i64 j243), (13, .int .i64 s9), (14, .int .i64 s139), (15, .int .i64 j244), (103, .pointer (some (Addr.add p254 2)))]) (by kernel_rfl) (by kernel_rfl) ?_
    refine OJ.ld (d := 104) (T := 3) (y := .tmp 103) (pend2 := fun x255 => []) (by kernel_rfl) (by kernel_rfl) Ty3 (by kernel_rfl) (by kernel_rfl) (fun _ => rfl) (fun x255 => ?_)
    refine OJ.run [5, 6] [] [0, 1, 2, 7, 8, 9, 13, 14, 15] (m2 := [(0, Sl.v r1.2), (1, Sl.v a1), (2, .int .i64 a2), (7, .pointer r1.1), (8, .pointer r2), (9, .int .i64 j243), (13, .int .i64 s9), (14, .int .i64 s139), (15, .int .i64 (IntKind.wrap .i64 (Int.tdiv x255 2)))]) (by kernel_rfl) (by kernel_rfl) ?_
    refine OJ.nil ?_
    refine SJ.less [0, 1, 2, 7, 8, 9, 13, 14, 15] (m' := [(0, Sl.v r1.2), (1, Sl.v a1), (2, .int .i64 a2), (7, .pointer r1.1), (8, .pointer r2), (9, .int .i64 j243), (13, .int .i64 s9), (14, .int .i64 s139), (15, .int .i64 (IntKind.wrap .i64 (Int.tdiv x255 2)))]) (by kernel_rfl) ?_
    exact weirlaw18_QueueFair.K2_ok a1 a2 r1 r2 s9 s139 j243 (IntKind.wrap .i64 (Int.tdiv x255 2))
  · refine SJ.skip (by kernel_rfl) ?_
    refine SJ.less [0, 1, 2, 7, 8, 9, 13, 14, 15] (m' := [(0, Sl.v r1.2), (1, Sl.v a1), (2, .int .i64 a2), (7, .pointer r1.1), (8, .pointer r2), (9, .int .i64 j243), (13, .int .i64 s9), (14, .int .i64 s139), (15, .int .i64 j244)]) (by kernel_rfl) ?_
    exact weirlaw18_QueueFair.K2_ok a1 a2 r1 r2 s9 s139 j243 j244
noncomputable def weirlaw18_QueueFair.L3 (a1 : Sl) (r1 : ((Option Addr) × Sl)) (r2 : (Option Addr)) (s9 : Int) (s139 : Int) (s204 : Int) : M (LS Int (LS (Int × Int) (LS (Int × Int) Bool))) :=
  idx r1.2.a r1.2.len s139 5 >>= fun p233 =>
  ld c_api_Class p233 >>= fun x234 =>
  weirlaw18_apt x234 >>= fun r235 =>
  (if r235 = true then
      nilck r2 >>= fun p236 =>
      ld cL p236 >>= fun x237 =>
      idx x237.a x237.len s139 1 >>= fun p238 =>
      ld cL p238 >>= fun x239 =>
      pure (decide ((x239.len : Int) < 2))
    else
      pure false) >>= fun y240 =>
  if y240 = true then
    if s204 < (a1.len : Int) then
      idx a1.a a1.len s204 1 >>= fun p257 =>
      ld (cI .i64) p257 >>= fun x258 =>
      weirlaw18_QueueFair.K3 r1 r2 s9 s139 (IntKind.wrap .i64 (s204 + 1)) (IntKind.wrap .i64 (1 + (band .i64 x258 4095)))
    else
      weirlaw18_QueueFair.K3 r1 r2 s9 s139 s204 1
  else
    pure (LS.done (LS.next (s204, IntKind.wrap .i64 (s139 + 1))))
theorem weirlaw18_QueueFair.L3_ok (a1 : Sl) (a2 : Int) (r1 : ((Option Addr) × Sl)) (r2 : (Option Addr)) (s9 : Int) (s139 : Int) (s204 : Int) :
    SJ weirlaw18_QueueFair.cx [.code (c1 (c1 (c1 (c1 (c2 (c1 (c1 (c2 (c1 (c1 (c1 (c2 (c1 (c1 (c2 (c1 (c2 (c2 (c2 (c2 (c2 (c2 (c2 (c2 weirlaw18_QueueFair.B)))))))))))))))))))))))), .inLoop (c1 (c1 (c1 (c1 (c2 (c1 (c1 (c2 (c1 (c1 (c1 (c2 (c1 (c1 (c2 (c1 (c2 (c2 (c2 (c2 (c2 (c2 (c2 (c2 weirlaw18_QueueFair.B)))))))))))))))))))))))), .inBlock 4, .inBlock 3, .code (c2 (c2 (c1 (c1 (c2 (c1 (c1 (c1 (c2 (c1 (c1 (c2 (c1 (c2 (c2 (c2 (c2 (c2 (c2 (c2 (c2 weirlaw18_QueueFair.B))))))))))))))))))))), .inLoop (c1 (c1 (c2 (c1 (c1 (c1 (c2 (c1 (c1 (c2 (c1 (c2 (c2 (c2 (c2 (c2 (c2 (c2 (c2 weirlaw18_QueueFair.B))))))))))))))))))), .inBlock 2, .code (c2 (c1 (c1 (c2 (c1 (c1 (c2 (c1 (c2 (c2 (c2 (c2 (c2 (c2 (c2 (c2 weirlaw18_QueueFair.B)))))))))))))))), .inBlock 1, .code (c2 (c2 (c1 (c1 (c2 (c1 (c2 (c2 (c2 (c2 (c2 (c2 (c2 (c2 weirlaw18_QueueFair.B)))))))))))))), .inLoop (c1 (c1 (c2 (c1 (c2 (c2 (c2 (c2 (c2 (c2 (c2 (c2 weirlaw18_QueueFair.B)))))))))))), .inBlock 0, .code (c2 (c2 (c2 (c2 (c2 (c2 (c2 (c2 (c2 weirlaw18_QueueFair.B)))))))))] [(0, Sl.v r1.2), (1, Sl.v a1), (2, .int .i64 a2), (7, .pointer r1.1), (8, .pointer r2), (9, .int .i64 s204), (13, .int .i64 s9), (14, .int .i64 s139)] [] (weirlaw18_QueueFair.L3 a1 r1 r2 s9 s139 s204) (weirlaw18_QueueFair.F3 a1 a2 r1 r2 s9 s139) := by
  unfold weirlaw18_QueueFair.L3
  refine SJ.seq (by kernel_rfl) ?_
  refine SJ.seq (by kernel_rfl) ?_
  refine SJ.region (id := 17) (by kernel_rfl) [0, 1, 2, 3, 4, 5, 6, 7, 8, 9, 10, 11, 12, 13, 14, 15] (by kernel_rfl) ?_
  refine OJ.run [0, 1] [2, 3, 4, 5, 6, 7, 8, 9, 10, 11, 12, 13, 14, 15] [0, 1, 2, 7, 8, 9, 13, 14, 64, 65] (m2 := [(0, Sl.v r1.2), (1, Sl.v a1), (2, .int .i64 a2), (7, .pointer r1.1), (8, .pointer r2), (9, .int .i64 s204), (13, .int .i64 s9), (14, .int .i64 s139), (64, Sl.v r1.2), (65, .int .i64 s139)]) (by kernel_rfl) (by kernel_rfl) ?_
  refine OJ.idxS (d := 66) (T := 27) (y := .tmp 64) (j := .tmp 65) (E := 41) (cap := r1.2.cap) (k := .i64) (by kernel_rfl) (by kernel_rfl) (by kernel_rfl) (by kernel_rfl) (by kernel_rfl) (by kernel_rfl) (by kernel_rfl) (by kernel_rfl) (fun p233 => ?_)
  refine OJ.ld (d := 67) (T := 41) (y := .tmp 66) (pend2 := fun x234 => []) (by kernel_rfl) (by kernel_rfl) Ty41 (by kernel_rfl) (by kernel_rfl) (fun _ => rfl) (fun x234 => ?_)
  refine OJ.call (d := 68) (g := 20) (ats := #[41]) (args := [.tmp 67]) (vals := [c_api_Class.val x234]) (owed := []) (by kernel_rfl) F20 (by kernel_rfl) (weirlaw18_apt_ok x234) (by kernel_rfl) (by kernel_rfl) (by kernel_rfl) (fun r235 => ?_)
  refine OW.nil ?_
  refine OJ.run [5] [6, 7, 8, 9, 10, 11, 12, 13, 14, 15] [0, 1, 2, 7, 8, 9, 13, 14, 69] (m2 := [(0, Sl.v r1.2), (1, Sl.v a1), (2, .int .i64 a2), (7, .pointer r1.1), (8, .pointer r2), (9, .int .i64 s204), (13, .int .i64 s9), (14, .int .i64 s139), (69, .bool r235)]) (by kernel_rfl) (by kernel_rfl) ?_
  refine OJ.join (b := r235) [6, 7, 8, 9, 10, 11, 12, 13, 14, 15] [] [0, 1, 2, 7, 8, 9, 13, 14, 79] (fun y240 => [(0, Sl.v r1.2), (1, Sl.v a1), (2, .int .i64 a2), (7, .pointer r1.1), (8, .pointer r2), (9, .int .i64 s204), (13, .int .i64 s9), (14, .int .i64 s139), (79, .bool y240)]) [] [] (by kernel_rfl) (t := 69) (by kernel_rfl) Iff.rfl (fun hp_ => ?_) (fun hp_ => ?_) (by kernel_rfl) (fun _ _ _ _ _ _ h_ => h_) (fun y240 => ?_)
  · refine OJ.run [6] [7, 8, 9, 10, 11, 12, 13, 14, 15] [0, 1, 2, 7, 8, 9, 13, 14, 69, 70] (m2 := [(0, Sl.v r1.2), (1, Sl.v a1), (2, .int .i64 a2), (7, .pointer r1.1), (8, .pointer r2), (9, .int .i64 s204), (13, .int .i64 s9), (14, .int .i64 s139), (69, .bool true), (70, .pointer r2)]) (by kernel_rfl) (by kernel_rfl) ?_
    refine OJ.nilck (d := 71) (y := .tmp 70) (by kernel_rfl) (by kernel_rfl) (by kernel_rfl) (by kernel_rfl) (by kernel_rfl) (fun p236 => ?_)
    refine OJ.run [8] [9, 10, 11, 12, 13, 14, 15] [0, 1, 2, 7, 8, 9, 13, 14, 69, 72] (m2 := [(0, Sl.v r1.2), (1, Sl.v a1), (2, .int .i64 a2), (7, .pointer r1.1), (8, .pointer r2), (9, .int .i64 s204), (13, .int .i64 s9), (14, .int .i64 s139), (69, .bool true), (72, .pointer (some p236))]) (by kernel_rfl) (by kernel_rfl) ?_
    refine OJ.ld (d := 73) (T := 43) (y := .tmp 72) (pend2 := fun x237 => []) (by kernel_rfl) (by kernel_rfl) Ty43 (by kernel_rfl) (by kernel_rfl) (fun _ => rfl) (fun x237 => ?_)
    refine OJ.run [10] [11, 12, 13, 14, 15] [0, 1, 2, 7, 8, 9, 13, 14, 69, 73, 74] (m2 := [(0, Sl.v r1.2), (1, Sl.v a1), (2, .int .i64 a2), (7, .pointer r1.1), (8, .pointer r2), (9, .int .i64 s204), (13, .int .i64 s9), (14, .int .i64 s139), (69, .bool true), (73, Sl.v x237), (74, .int .i64 s139)]) (by kernel_rfl) (by kernel_rfl) ?_
    refine OJ.idxS (d := 75) (T := 43) (y := .tmp 73) (j := .tmp 74) (E := 42) (cap := x237.cap) (k := .i64) (by kernel_rfl) (by kernel_rfl) (by kernel_rfl) (by kernel_rfl) (by kernel_rfl) (by kernel_rfl) (by kernel_rfl) (by kernel_rfl) (fun p238 => ?_)
    refine OJ.ld (d := 76) (T := 42) (y := .tmp 75) (pend2 := fun x239 => []) (by kernel_rfl) (by kernel_rfl) Ty42 (by kernel_rfl) (by kernel_rfl) (fun _ => rfl) (fun x239 => ?_)
    refine OJ.run [13, 14, 15] [] [0, 1, 2, 7, 8, 9, 13, 14, 79] (m2 := [(0, Sl.v r1.2), (1, Sl.v a1), (2, .int .i64 a2), (7, .pointer r1.1), (8, .pointer r2), (9, .int .i64 s204), (13, .int .i64 s9), (14, .int .i64 s139), (79, .bool (decide ((x239.len : Int) < 2)))]) (by kernel_rfl) (by kernel_rfl) ?_
    exact OJ.nil ⟨(Cov.mem Cov.nil), rfl, _, rfl, by kernel_rfl⟩
  · refine OJ.run [6, 7, 8, 9, 10, 11, 12, 13, 14, 15] [] [0, 1, 2, 7, 8, 9, 13, 14, 79] (m2 := [(0, Sl.v r1.2), (1, Sl.v a1), (2, .int .i64 a2), (7, .pointer r1.1), (8, .pointer r2), (9, .int .i64 s204), (13, .int .i64 s9), (14, .int .i64 s139), (79, .bool false)]) (by kernel_rfl) (by kernel_rfl) ?_
    exact OJ.nil ⟨(Cov.mem Cov.nil), rfl, _, rfl, by kernel_rfl⟩
  · refine OJ.nil ?_
    refine SJ.cond (t := (.tmp 79)) (b := y240) (by kernel_rfl) (by kernel_rfl) Iff.rfl (fun hc260 => ?_) (fun hc260 => ?_)
    · refine SJ.skip (by kernel_rfl) ?_
      refine SJ.block (id := 5) (by kernel_rfl) ?_
      refine SJ.seq (by kernel_rfl) ?_
      refine SJ.region (id := 18) (by kernel_rfl) [0] (by kernel_rfl) ?_
      refine OJ.run [0] [] [0, 1, 2, 7, 8, 9, 13, 14, 15] (m2 := [(0, Sl.v r1.2), (1, Sl.v a1), (2, .int .i64 a2), (7, .pointer r1.1), (8, .pointer r2), (9, .int .i64 s204), (13, .int .i64 s9), (14, .int .i64 s139), (15, .int .i64 1)]) (by kernel_rfl) (by kernel_rfl) ?_
      refine OJ.nil ?_
      refine SJ.seq (by kernel_rfl) ?_
      refine SJ.seq (by kernel_rfl) ?_
      refine SJ.region (id := 19) (by kernel_rfl) [0, 1, 2, 3] (by kernel_rfl) ?_
      refine OJ.run [0, 1, 2, 3] [] [0, 1, 2, 7, 8, 9, 13, 14, 15, 83] (m2 := [(0, Sl.v r1.2), (1, Sl.v a1), (2, .int .i64 a2), (7, .pointer r1.1), (8, .pointer r2), (9, .int .i64 s204), (13, .int .i64 s9), (14, .int .i64 s139), (15, .int .i64 1), (83, .bool (decide (s204 < (a1.len : Int))))]) (by kernel_rfl) (by kernel_rfl) ?_
      refine OJ.nil ?_
      refine SJ.cond (t := (.tmp 83)) (b := decide (s204 < (a1.len : Int))) (by kernel_rfl) (by kernel_rfl) decide_eq_true_iff (fun hc259 => ?_) (fun hc259 => ?_)
      · refine SJ.seq (by kernel_rfl) ?_
        refine SJ.region (id := 20) (by kernel_rfl) [0, 1, 2, 3, 4, 5, 6] (by kernel_rfl) ?_
        refine OJ.run [0, 1] [2, 3, 4, 5, 6] [0, 1, 2, 7, 8, 9, 13, 14, 15, 84, 85] (m2 := [(0, Sl.v r1.2), (1, Sl.v a1), (2, .int .i64 a2), (7, .pointer r1.1), (8, .pointer r2), (9, .int .i64 s204), (13, .int .i64 s9), (14, .int .i64 s139), (15, .int .i64 1), (84, Sl.v a1), (85, .int .i64 s204)]) (by kernel_rfl) (by kernel_rfl) ?_
        refine OJ.idxS (d := 86) (T := 28) (y := .tmp 84) (j := .tmp 85) (E := 3) (cap := a1.cap) (k := .i64) (by kernel_rfl) (by kernel_rfl) (by kernel_rfl) (by kernel_rfl) (by kernel_rfl) (by kernel_rfl) (by kernel_rfl) (by kernel_rfl) (fun p257 => ?_)
        refine OJ.ld (d := 87) (T := 3) (y := .tmp 86) (pend2 := fun x258 => []) (by kernel_rfl) (by kernel_rfl) Ty3 (by kernel_rfl) (by kernel_rfl) (fun _ => rfl) (fun x258 => ?_)
        refine OJ.run [4, 5, 6] [] [0, 1, 2, 7, 8, 9, 13, 14, 15] (m2 := [(0, Sl.v r1.2), (1, Sl.v a1), (2, .int .i64 a2), (7, .pointer r1.1), (8, .pointer r2), (9, .int .i64 s204), (13, .int .i64 s9), (14, .int .i64 s139), (15, .int .i64 (IntKind.wrap .i64 (1 + (band .i64 x258 4095))))]) (by kernel_rfl) (by kernel_rfl) ?_
        refine OJ.nil ?_
        refine SJ.region (id := 21) (by kernel_rfl) [0, 1, 2] (by kernel_rfl) ?_
        refine OJ.run [0, 1, 2] [] [0, 1, 2, 7, 8, 9, 13, 14, 15] (m2 := [(0, Sl.v r1.2), (1, Sl.v a1), (2, .int .i64 a2), (7, .pointer r1.1), (8, .pointer r2), (9, .int .i64 (IntKind.wrap .i64 (s204 + 1))), (13, .int .i64 s9), (14, .int .i64 s139), (15, .int .i64 (IntKind.wrap .i64 (1 + (band .i64 x258 4095))))]) (by kernel_rfl) (by kernel_rfl) ?_
        refine OJ.nil ?_
        refine SJ.less [0, 1, 2, 7, 8, 9, 13, 14, 15] (m' := [(0, Sl.v r1.2), (1, Sl.v a1), (2, .int .i64 a2), (7, .pointer r1.1), (8, .pointer r2), (9, .int .i64 (IntKind.wrap .i64 (s204 + 1))), (13, .int .i64 s9), (14, .int .i64 s139), (15, .int .i64 (IntKind.wrap .i64 (1 + (band .i64 x258 4095))))]) (by kernel_rfl) ?_
        exact weirlaw18_QueueFair.K3_ok a1 a2 r1 r2 s9 s139 (IntKind.wrap .i64 (s204 + 1)) (IntKind.wrap .i64 (1 + (band .i64 x258 4095)))
      · refine SJ.skip (by kernel_rfl) ?_
        refine SJ.less [0, 1, 2, 7, 8, 9, 13, 14, 15] (m' := [(0, Sl.v r1.2), (1, Sl.v a1), (2, .int .i64 a2), (7, .pointer r1.1), (8, .pointer r2), (9, .int .i64 s204), (13, .int .i64 s9), (14, .int .i64 s139), (15, .int .i64 1)]) (by kernel_rfl) ?_
        exact weirlaw18_QueueFair.K3_ok a1 a2 r1 r2 s9 s139 s204 1
    · refine SJ.exit (id := 4) (by kernel_rfl) (by rfl) ?_
      refine SJ.inBlock ?_
      refine SJ.region (id := 16) (by kernel_rfl) [0, 1, 2] (by kernel_rfl) ?_
      refine OJ.run [0, 1, 2] [] [0, 1, 2, 7, 8, 9, 13, 14] (m2 := [(0, Sl.v r1.2), (1, Sl.v a1), (2, .int .i64 a2), (7, .pointer r1.1), (8, .pointer r2), (9, .int .i64 s204), (13, .int .i64 s9), (14, .int .i64 (IntKind.wrap .i64 (s139 + 1)))]) (by kernel_rfl) (by kernel_rfl) ?_
      refine OJ.nil ?_
      exact SJ.at_ [0, 1, 2, 7, 8, 9, 13, 14] rfl (by kernel_rfl)
noncomputable def weirlaw18_QueueFair.L2 (a1 : Sl) (r1 : ((Option Addr) × Sl)) (r2 : (Option Addr)) (s9 : Int) (s138 : Int) (s139 : Int) : M (LS (Int × Int) (LS (Int × Int) Bool)) :=
  if s139 < (r1.2.len : Int) then
    loopM (fun s_ : Int => weirlaw18_QueueFair.L3 a1 r1 r2 s9 s139 s_) s138
  else
    (weirlaw18_QueueFair.K1 r1 r2 s9 s138) >>= fun b => pure (LS.done b)
theorem weirlaw18_QueueFair.L2_ok (a1 : Sl) (a2 : Int) (r1 : ((Option Addr) × Sl)) (r2 : (Option Addr)) (s9 : Int) (s138 : Int) (s139 : Int) :
    SJ weirlaw18_QueueFair.cx [.code (c1 (c1 (c2 (c1 (c1 (c1 (c2 (c1 (c1 (c2 (c1 (c2 (c2 (c2 (c2 (c2 (c2 (c2 (c2 weirlaw18_QueueFair.B))))))))))))))))))), .inLoop (c1 (c1 (c2 (c1 (c1 (c1 (c2 (c1 (c1 (c2 (c1 (c2 (c2 (c2 (c2 (c2 (c2 (c2 (c2 weirlaw18_QueueFair.B))))))))))))))))))), .inBlock 2, .code (c2 (c1 (c1 (c2 (c1 (c1 (c2 (c1 (c2 (c2 (c2 (c2 (c2 (c2 (c2 (c2 weirlaw18_QueueFair.B)))))))))))))))), .inBlock 1, .code (c2 (c2 (c1 (c1 (c2 (c1 (c2 (c2 (c2 (c2 (c2 (c2 (c2 (c2 weirlaw18_QueueFair.B)))))))))))))), .inLoop (c1 (c1 (c2 (c1 (c2 (c2 (c2 (c2 (c2 (c2 (c2 (c2 weirlaw18_QueueFair.B)))))))))))), .inBlock 0, .code (c2 (c2 (c2 (c2 (c2 (c2 (c2 (c2 (c2 weirlaw18_QueueFair.B)))))))))] [(0, Sl.v r1.2), (1, Sl.v a1), (2, .int .i64 a2), (7, .pointer r1.1), (8, .pointer r2), (9, .int .i64 s138), (13, .int .i64 s9), (14, .int .i64 s139)] [] (weirlaw18_QueueFair.L2 a1 r1 r2 s9 s138 s139) (weirlaw18_QueueFair.F2 a1 a2 r1 r2 s9) := by
  unfold weirlaw18_QueueFair.L2
  refine SJ.seq (by kernel_rfl) ?_
  refine SJ.seq (by kernel_rfl) ?_
  refine SJ.region (id := 15) (by kernel_rfl) [0, 1, 2, 3] (by kernel_rfl) ?_
  refine OJ.run [0, 1, 2, 3] [] [0, 1, 2, 7, 8, 9, 13, 14, 61] (m2 := [(0, Sl.v r1.2), (1, Sl.v a1), (2, .int .i64 a2), (7, .pointer r1.1), (8, .pointer r2), (9, .int .i64 s138), (13, .int .i64 s9), (14, .int .i64 s139), (61, .bool (decide (s139 < (r1.2.len : Int))))]) (by kernel_rfl) (by kernel_rfl) ?_
  refine OJ.nil ?_
  refine SJ.cond (t := (.tmp 61)) (b := decide (s139 < (r1.2.len : Int))) (by kernel_rfl) (by kernel_rfl) decide_eq_true_iff (fun hc261 => ?_) (fun hc261 => ?_)
  · refine SJ.skip (by kernel_rfl) ?_
    refine SJ.seq (by kernel_rfl) ?_
    refine SJ.block (id := 3) (by kernel_rfl) ?_
    refine SJ.block (id := 4) (by kernel_rfl) ?_
    exact SJ.loop (fun s_ : Int => [(0, Sl.v r1.2), (1, Sl.v a1), (2, .int .i64 a2), (7, .pointer r1.1), (8, .pointer r2), (9, .int .i64 s_), (13, .int .i64 s9), (14, .int .i64 s139)]) (fun s_ : Int => []) [0, 1, 2, 7, 8, 9, 13, 14] (by kernel_rfl) (by kernel_rfl) rfl (fun _ _ => rfl) (fun s_ => weirlaw18_QueueFair.L3_ok a1 a2 r1 r2 s9 s139 s_)
  · refine SJ.exit (id := 2) (by kernel_rfl) (by rfl) ?_
    refine SJ.less [0, 1, 2, 7, 8, 9, 13] (m' := [(0, Sl.v r1.2), (1, Sl.v a1), (2, .int .i64 a2), (7, .pointer r1.1), (8, .pointer r2), (9, .int .i64 s138), (13, .int .i64 s9)]) (by kernel_rfl) ?_
    refine SJ.done ?_
    exact weirlaw18_QueueFair.K1_ok a1 a2 r1 r2 s9 s138
noncomputable def weirlaw18_QueueFair.L1 (a1 : Sl) (a2 : Int) (r1 : ((Option Addr) × Sl)) (r2 : (Option Addr)) (s8 : Int) (s9 : Int) : M (LS (Int × Int) Bool) :=
  (if s9 < a2 then
      pure (decide (s9 < 3000))
    else
      pure false) >>= fun y136 =>
  if y136 = true then
    loopM (fun s_ : (Int × Int) => weirlaw18_QueueFair.L2 a1 r1 r2 s9 s_.1 s_.2) (s8, 0)
  else
    weirlaw18_fair r1.2 r2 >>= fun r262 =>
    pure (LS.done r262)
theorem weirlaw18_QueueFair.L1_ok (a1 : Sl) (a2 : Int) (r1 : ((Option Addr) × Sl)) (r2 : (Option Addr)) (s8 : Int) (s9 : Int) :
    SJ weirlaw18_QueueFair.cx [.code (c1 (c1 (c2 (c1 (c2 (c2 (c2 (c2 (c2 (c2 (c2 (c2 weirlaw18_QueueFair.B)))))))))))), .inLoop (c1 (c1 (c2 (c1 (c2 (c2 (c2 (c2 (c2 (c2 (c2 (c2 weirlaw18_QueueFair.B)))))))))))), .inBlock 0, .code (c2 (c2 (c2 (c2 (c2 (c2 (c2 (c2 (c2 weirlaw18_QueueFair.B)))))))))] [(0, Sl.v r1.2), (1, Sl.v a1), (2, .int .i64 a2), (7, .pointer r1.1), (8, .pointer r2), (9, .int .i64 s8), (13, .int .i64 s9)] [] (weirlaw18_QueueFair.L1 a1 a2 r1 r2 s8 s9) (weirlaw18_QueueFair.F1 a1 a2 r1 r2) := by
  unfold weirlaw18_QueueFair.L1
  refine SJ.seq (by kernel_rfl) ?_
  refine SJ.seq (by kernel_rfl) ?_
  refine SJ.region (id := 12) (by kernel_rfl) [0, 1, 2, 3, 4, 5, 6] (by kernel_rfl) ?_
  refine OJ.run [0, 1, 2, 3] [4, 5, 6] [0, 1, 2, 7, 8, 9, 13, 52] (m2 := [(0, Sl.v r1.2), (1, Sl.v a1), (2, .int .i64 a2), (7, .pointer r1.1), (8, .pointer r2), (9, .int .i64 s8), (13, .int .i64 s9), (52, .bool (decide (s9 < a2)))]) (by kernel_rfl) (by kernel_rfl) ?_
  refine OJ.join (b := decide (s9 < a2)) [4, 5, 6] [] [0, 1, 2, 7, 8, 9, 13, 55] (fun y136 => [(0, Sl.v r1.2), (1, Sl.v a1), (2, .int .i64 a2), (7, .pointer r1.1), (8, .pointer r2), (9, .int .i64 s8), (13, .int .i64 s9), (55, .bool y136)]) [] [] (by kernel_rfl) (t := 52) (by kernel_rfl) decide_eq_true_iff (fun hp_ => ?_) (fun hp_ => ?_) (by kernel_rfl) (fun _ _ _ _ _ _ h_ => h_) (fun y136 => ?_)
  · refine OJ.run [4, 5, 6] [] [0, 1, 2, 7, 8, 9, 13, 55] (m2 := [(0, Sl.v r1.2), (1, Sl.v a1), (2, .int .i64 a2), (7, .pointer r1.1), (8, .pointer r2), (9, .int .i64 s8), (13, .int .i64 s9), (55, .bool (decide (s9 < 3000)))]) (by kernel_rfl) (by kernel_rfl) ?_
    exact OJ.nil ⟨(Cov.mem Cov.nil), rfl, _, rfl, by kernel_rfl⟩
  · refine OJ.run [4, 5, 6] [] [0, 1, 2, 7, 8, 9, 13, 55] (m2 := [(0, Sl.v r1.2), (1, Sl.v a1), (2, .int .i64 a2), (7, .pointer r1.1), (8, .pointer r2), (9, .int .i64 s8), (13, .int .i64 s9), (55, .bool false)]) (by kernel_rfl) (by kernel_rfl) ?_
    exact OJ.nil ⟨(Cov.mem Cov.nil), rfl, _, rfl, by kernel_rfl⟩
  · refine OJ.nil ?_
    refine SJ.cond (t := (.tmp 55)) (b := y136) (by kernel_rfl) (by kernel_rfl) Iff.rfl (fun hc263 => ?_) (fun hc263 => ?_)
    · refine SJ.skip (by kernel_rfl) ?_
      refine SJ.seq (by kernel_rfl) ?_
      refine SJ.block (id := 1) (by kernel_rfl) ?_
      refine SJ.seq (by kernel_rfl) ?_
      refine SJ.seq (by kernel_rfl) ?_
      refine SJ.region (id := 14) (by kernel_rfl) [0] (by kernel_rfl) ?_
      refine OJ.run [0] [] [0, 1, 2, 7, 8, 9, 13, 14] (m2 := [(0, Sl.v r1.2), (1, Sl.v a1), (2, .int .i64 a2), (7, .pointer r1.1), (8, .pointer r2), (9, .int .i64 s8), (13, .int .i64 s9), (14, .int .i64 0)]) (by kernel_rfl) (by kernel_rfl) ?_
      refine OJ.nil ?_
      refine SJ.block (id := 2) (by kernel_rfl) ?_
      exact SJ.loop (fun s_ : (Int × Int) => [(0, Sl.v r1.2), (1, Sl.v a1), (2, .int .i64 a2), (7, .pointer r1.1), (8, .pointer r2), (9, .int .i64 s_.1), (13, .int .i64 s9), (14, .int .i64 s_.2)]) (fun s_ : (Int × Int) => []) [0, 1, 2, 7, 8, 9, 13, 14] (by kernel_rfl) (by kernel_rfl) rfl (fun _ _ => rfl) (fun s_ => weirlaw18_QueueFair.L2_ok a1 a2 r1 r2 s9 s_.1 s_.2)
    · refine SJ.exit (id := 0) (by kernel_rfl) (by rfl) ?_
      refine SJ.seq (by kernel_rfl) ?_
      refine SJ.region (id := 31) (by kernel_rfl) [0, 1, 2, 3] (by kernel_rfl) ?_
      refine OJ.run [0, 1] [2, 3] [135, 136] (m2 := [(135, Sl.v r1.2), (136, .pointer r2)]) (by kernel_rfl) (by kernel_rfl) ?_
      refine OJ.call (d := 137) (g := 24) (ats := #[27, 32]) (args := [.tmp 135, .tmp 136]) (vals := [Sl.v r1.2, .pointer r2]) (owed := []) (by kernel_rfl) F24 (by kernel_rfl) (weirlaw18_fair_ok r1.2 r2) (by kernel_rfl) (by kernel_rfl) (by kernel_rfl) (fun r262 => ?_)
      refine OW.nil ?_
      refine OJ.run [3] [] [6] (m2 := [(6, .bool r262)]) (by kernel_rfl) (by kernel_rfl) ?_
      refine OJ.nil ?_
      exact SJ.ret (by kernel_rfl) rfl (Res.run (ys := [.bool r262]) (.tmp (by kernel_rfl) .nil) rfl)
noncomputable def weirlaw18_QueueFair (a0 : Sl) (a1 : Sl) (a2 : Int) : M Bool :=
  weirlaw18_queueOf a0 >>= fun r1 =>
  if r1.1 = none then
    pure false
  else
    weirlaw18_book (r1.2.len : Int) >>= fun r2 =>
    queue_Queue_Push r1.1 0 1 7 >>= fun r3 =>
    weirlaw18_num r3 >>= fun r4 =>
    if r4 ≠ 0 then
      pure false
    else
      queue_Queue_Pop r1.1 >>= fun r5 =>
      (if r5.1 ≠ 7 then
          pure true
        else
          pure (r5.2.1 != 0)) >>= fun y6 =>
      (if y6 = true then
          pure true
        else
          pure (!r5.2.2)) >>= fun y7 =>
      if y7 = true then
        pure false
      else
        loopM (fun s_ : (Int × Int) => weirlaw18_QueueFair.L1 a1 a2 r1 r2 s_.1 s_.2) (0, 0)
theorem weirlaw18_QueueFair_ok (a0 : Sl) (a1 : Sl) (a2 : Int) : Ref Try.prog 4 [Sl.v a0, Sl.v a1, .int .i64 a2] (weirlaw18_QueueFair a0 a1 a2) weirlaw18_QueueFair.out := by
  refine Ref.of (cd := weirlaw18_QueueFair.B) Try.func4 (by kernel_rfl) (by kernel_rfl) ?_
  show SJ weirlaw18_QueueFair.cx [.code weirlaw18_QueueFair.B] [(0, Sl.v a0), (1, Sl.v a1), (2, .int .i64 a2)] [] (weirlaw18_QueueFair a0 a1 a2) weirlaw18_QueueFair.F0
  unfold weirlaw18_QueueFair
  refine SJ.seq (by kernel_rfl) ?_
  refine SJ.region (id := 0) (by kernel_rfl) [0] (by kernel_rfl) ?_
  refine OJ.run [0] [] [0, 1, 2] (m2 := [(0, Sl.v a0), (1, Sl.v a1), (2, .int .i64 a2)]) (by kernel_rfl) (by kernel_rfl) ?_
  refine OJ.nil ?_
  refine SJ.seq (by kernel_rfl) ?_
  refine SJ.region (id := 1) (by kernel_rfl) [0, 1, 2, 3, 4, 5, 6] (by kernel_rfl) ?_
  refine OJ.run [0] [1, 2, 3, 4, 5, 6] [0, 1, 2, 20] (m2 := [(0, Sl.v a0), (1, Sl.v a1), (2, .int .i64 a2), (20, Sl.v a0)]) (by kernel_rfl) (by kernel_rfl) ?_
  refine OJ.call (d := 21) (g := 15) (ats := #[27]) (args := [.tmp 20]) (vals := [Sl.v a0]) (owed := []) (by kernel_rfl) F15 (by kernel_rfl) (weirlaw18_queueOf_ok a0) (by kernel_rfl) (by kernel_rfl) (by kernel_rfl) (fun r1 => ?_)
  refine OW.nil ?_
  refine OJ.run [2, 3, 4, 5, 6] [] [0, 1, 2, 7] (m2 := [(0, Sl.v r1.2), (1, Sl.v a1), (2, .int .i64 a2), (7, .pointer r1.1)]) (by kernel_rfl) (by kernel_rfl) ?_
  refine OJ.nil ?_
  refine SJ.seq (by kernel_rfl) ?_
  refine SJ.seq (by kernel_rfl) ?_
  refine SJ.region (id := 2) (by kernel_rfl) [0, 1] (by kernel_rfl) ?_
  refine OJ.run [0, 1] [] [0, 1, 2, 7, 25] (m2 := [(0, Sl.v r1.2), (1, Sl.v a1), (2, .int .i64 a2), (7, .pointer r1.1), (25, .bool (Option.isNone r1.1))]) (by kernel_rfl) (by kernel_rfl) ?_
  refine OJ.nil ?_
  refine SJ.cond (t := (.tmp 25)) (b := (Option.isNone r1.1)) (by kernel_rfl) (by kernel_rfl) Option.isNone_iff_eq_none (fun hc266 => ?_) (fun hc266 => ?_)
  · refine SJ.seq (by kernel_rfl) ?_
    refine SJ.region (id := 3) (by kernel_rfl) [0] (by kernel_rfl) ?_
    refine OJ.run [0] [] [6] (m2 := [(6, .bool false)]) (by kernel_rfl) (by kernel_rfl) ?_
    refine OJ.nil ?_
    exact SJ.ret (by kernel_rfl) rfl (Res.run (ys := [.bool false]) (.tmp (by kernel_rfl) .nil) rfl)
  · refine SJ.skip (by kernel_rfl) ?_
    refine SJ.seq (by kernel_rfl) ?_
    refine SJ.region (id := 4) (by kernel_rfl) [0, 1, 2, 3] (by kernel_rfl) ?_
    refine OJ.run [0, 1] [2, 3] [0, 1, 2, 7, 27] (m2 := [(0, Sl.v r1.2), (1, Sl.v a1), (2, .int .i64 a2), (7, .pointer r1.1), (27, .int .i64 (r1.2.len : Int))]) (by kernel_rfl) (by kernel_rfl) ?_
    refine OJ.call (d := 28) (g := 16) (ats := #[3]) (args := [.tmp 27]) (vals := [.int .i64 (r1.2.len : Int)]) (owed := []) (by kernel_rfl) F16 (by kernel_rfl) (weirlaw18_book_ok (r1.2.len : Int)) (by kernel_rfl) (by kernel_rfl) (by kernel_rfl) (fun r2 => ?_)
    refine OW.nil ?_
    refine OJ.run [3] [] [0, 1, 2, 7, 8] (m2 := [(0, Sl.v r1.2), (1, Sl.v a1), (2, .int .i64 a2), (7, .pointer r1.1), (8, .pointer r2)]) (by kernel_rfl) (by kernel_rfl) ?_
    refine OJ.nil ?_
    refine SJ.seq (by kernel_rfl) ?_
    refine SJ.region (id := 5) (by kernel_rfl) [0] (by kernel_rfl) ?_
    refine OJ.run [0] [] [0, 1, 2, 7, 8, 9] (m2 := [(0, Sl.v r1.2), (1, Sl.v a1), (2, .int .i64 a2), (7, .pointer r1.1), (8, .pointer r2), (9, .int .i64 0)]) (by kernel_rfl) (by kernel_rfl) ?_
    refine OJ.nil ?_
    refine SJ.seq (by kernel_rfl) ?_
    refine SJ.seq (by kernel_rfl) ?_
    refine SJ.region (id := 6) (by kernel_rfl) [0, 1, 2, 3] (by kernel_rfl) ?_
    refine OJ.run [0] [1, 2, 3] [0, 1, 2, 7, 8, 9, 29] (m2 := [(0, Sl.v r1.2), (1, Sl.v a1), (2, .int .i64 a2), (7, .pointer r1.1), (8, .pointer r2), (9, .int .i64 0), (29, .pointer r1.1)]) (by kernel_rfl) (by kernel_rfl) ?_
    refine OJ.call (d := 30) (g := 18) (ats := #[29, 3, 3, 3]) (args := [.tmp 29, .const (.int .i64 0), .const (.int .i64 1), .const (.int .i64 7)]) (vals := [.pointer r1.1, .int .i64 0, .int .i64 1, .int .i64 7]) (owed := []) (by kernel_rfl) F18 (by kernel_rfl) (queue_Queue_Push_ok r1.1 0 1 7) (by kernel_rfl) (by kernel_rfl) (by kernel_rfl) (fun r3 => ?_)
    refine OW.nil ?_
    refine OJ.call (d := 31) (g := 17) (ats := #[35]) (args := [.tmp 30]) (vals := [.int .i64 r3]) (owed := []) (by kernel_rfl) F17 (by kernel_rfl) (weirlaw18_num_ok r3) (by kernel_rfl) (by kernel_rfl) (by kernel_rfl) (fun r4 => ?_)
    refine OW.nil ?_
    refine OJ.run [3] [] [0, 1, 2, 7, 8, 9, 32] (m2 := [(0, Sl.v r1.2), (1, Sl.v a1), (2, .int .i64 a2), (7, .pointer r1.1), (8, .pointer r2), (9, .int .i64 0), (32, .bool (r4 != 0))]) (by kernel_rfl) (by kernel_rfl) ?_
    refine OJ.nil ?_
    refine SJ.cond (t := (.tmp 32)) (b := (r4 != 0)) (by kernel_rfl) (by kernel_rfl) bne_iff_ne (fun hc265 => ?_) (fun hc265 => ?_)
    · refine SJ.seq (by kernel_rfl) ?_
      refine SJ.region (id := 7) (by kernel_rfl) [0] (by kernel_rfl) ?_
      refine OJ.run [0] [] [6] (m2 := [(6, .bool false)]) (by kernel_rfl) (by kernel_rfl) ?_
      refine OJ.nil ?_
      exact SJ.ret (by kernel_rfl) rfl (Res.run (ys := [.bool false]) (.tmp (by kernel_rfl) .nil) rfl)
    · refine SJ.skip (by kernel_rfl) ?_
      refine SJ.seq (by kernel_rfl) ?_
      refine SJ.region (id := 8) (by kernel_rfl) [0, 1, 2, 3, 4, 5, 6, 7, 8] (by kernel_rfl) ?_
      refine OJ.run [0] [1, 2, 3, 4, 5, 6, 7, 8] [0, 1, 2, 7, 8, 9, 34] (m2 := [(0, Sl.v r1.2), (1, Sl.v a1), (2, .int .i64 a2), (7, .pointer r1.1), (8, .pointer r2), (9, .int .i64 0), (34, .pointer r1.1)]) (by kernel_rfl) (by kernel_rfl) ?_
      refine OJ.call (d := 35) (g := 19) (ats := #[29]) (args := [.tmp 34]) (vals := [.pointer r1.1]) (owed := []) (by kernel_rfl) F19 (by kernel_rfl) (queue_Queue_Pop_ok r1.1) (by kernel_rfl) (by kernel_rfl) (by kernel_rfl) (fun r5 => ?_)
      refine OW.nil ?_
      refine OJ.run [2, 3, 4, 5, 6, 7, 8] [] [0, 1, 2, 7, 8, 9, 10, 11, 12] (m2 := [(0, Sl.v r1.2), (1, Sl.v a1), (2, .int .i64 a2), (7, .pointer r1.1), (8, .pointer r2), (9, .int .i64 0), (10, .int .i64 r5.1), (11, .int .i64 r5.2.1), (12, .bool r5.2.2)]) (by kernel_rfl) (by kernel_rfl) ?_
      refine OJ.nil ?_
      refine SJ.seq (by kernel_rfl) ?_
      refine SJ.seq (by kernel_rfl) ?_
      refine SJ.region (id := 9) (by kernel_rfl) [0, 1, 2, 3, 4, 5, 6, 7, 8, 9] (by kernel_rfl) ?_
      refine OJ.run [0, 1, 2] [3, 4, 5, 6, 7, 8, 9] [0, 1, 2, 7, 8, 9, 11, 12, 41] (m2 := [(0, Sl.v r1.2), (1, Sl.v a1), (2, .int .i64 a2), (7, .pointer r1.1), (8, .pointer r2), (9, .int .i64 0), (11, .int .i64 r5.2.1), (12, .bool r5.2.2), (41, .bool (r5.1 != 7))]) (by kernel_rfl) (by kernel_rfl) ?_
      refine OJ.join (b := (r5.1 != 7)) [3, 4, 5] [6, 7, 8, 9] [0, 1, 2, 7, 8, 9, 12, 44] (fun y6 => [(0, Sl.v r1.2), (1, Sl.v a1), (2, .int .i64 a2), (7, .pointer r1.1), (8, .pointer r2), (9, .int .i64 0), (12, .bool r5.2.2), (44, .bool y6)]) [] [] (by kernel_rfl) (t := 41) (by kernel_rfl) bne_iff_ne (fun hp_ => ?_) (fun hp_ => ?_) (by kernel_rfl) (fun _ _ _ _ _ _ h_ => h_) (fun y6 => ?_)
      · refine OJ.run [3, 4, 5] [] [0, 1, 2, 7, 8, 9, 12, 44] (m2 := [(0, Sl.v r1.2), (1, Sl.v a1), (2, .int .i64 a2), (7, .pointer r1.1), (8, .pointer r2), (9, .int .i64 0), (12, .bool r5.2.2), (44, .bool true)]) (by kernel_rfl) (by kernel_rfl) ?_
        exact OJ.nil ⟨(Cov.mem Cov.nil), rfl, _, rfl, by kernel_rfl⟩
      · refine OJ.run [3, 4, 5] [] [0, 1, 2, 7, 8, 9, 12, 44] (m2 := [(0, Sl.v r1.2), (1, Sl.v a1), (2, .int .i64 a2), (7, .pointer r1.1), (8, .pointer r2), (9, .int .i64 0), (12, .bool r5.2.2), (44, .bool (r5.2.1 != 0))]) (by kernel_rfl) (by kernel_rfl) ?_
        exact OJ.nil ⟨(Cov.mem Cov.nil), rfl, _, rfl, by kernel_rfl⟩
      · refine OJ.run [6] [7, 8, 9] [0, 1, 2, 7, 8, 9, 12, 45] (m2 := [(0, Sl.v r1.2), (1, Sl.v a1), (2, .int .i64 a2), (7, .pointer r1.1), (8, .pointer r2), (9, .int .i64 0), (12, .bool r5.2.2), (45, .bool y6)]) (by kernel_rfl) (by kernel_rfl) ?_
        refine OJ.join (b := y6) [7, 8, 9] [] [0, 1, 2, 7, 8, 9, 48] (fun y7 => [(0, Sl.v r1.2), (1, Sl.v a1), (2, .int .i64 a2), (7, .pointer r1.1), (8, .pointer r2), (9, .int .i64 0), (48, .bool y7)]) [] [] (by kernel_rfl) (t := 45) (by kernel_rfl) Iff.rfl (fun hp_ => ?_) (fun hp_ => ?_) (by kernel_rfl) (fun _ _ _ _ _ _ h_ => h_) (fun y7 => ?_)
        · refine OJ.run [7, 8, 9] [] [0, 1, 2, 7, 8, 9, 48] (m2 := [(0, Sl.v r1.2), (1, Sl.v a1), (2, .int .i64 a2), (7, .pointer r1.1), (8, .pointer r2), (9, .int .i64 0), (48, .bool true)]) (by kernel_rfl) (by kernel_rfl) ?_
          exact OJ.nil ⟨(Cov.mem Cov.nil), rfl, _, rfl, by kernel_rfl⟩
        · refine OJ.run [7, 8, 9] [] [0, 1, 2, 7, 8, 9, 48] (m2 := [(0, Sl.v r1.2), (1, Sl.v a1), (2, .int .i64 a2), (7, .pointer r1.1), (8, .pointer r2), (9, .int .i64 0), (48, .bool (!r5.2.2))]) (by kernel_rfl) (by kernel_rfl) ?_
          exact OJ.nil ⟨(Cov.mem Cov.nil), rfl, _, rfl, by kernel_rfl⟩
        · refine OJ.nil ?_
          refine SJ.cond (t := (.tmp 48)) (b := y7) (by kernel_rfl) (by kernel_rfl) Iff.rfl (fun hc264 => ?_) (fun hc264 => ?_)
          · refine SJ.seq (by kernel_rfl) ?_
            refine SJ.region (id := 10) (by kernel_rfl) [0] (by kernel_rfl) ?_
            refine OJ.run [0] [] [6] (m2 := [(6, .bool false)]) (by kernel_rfl) (by kernel_rfl) ?_
            refine OJ.nil ?_
            exact SJ.ret (by kernel_rfl) rfl (Res.run (ys := [.bool false]) (.tmp (by kernel_rfl) .nil) rfl)
          · refine SJ.skip (by kernel_rfl) ?_
            refine SJ.seq (by kernel_rfl) ?_
            refine SJ.seq (by kernel_rfl) ?_
            refine SJ.region (id := 11) (by kernel_rfl) [0] (by kernel_rfl) ?_
            refine OJ.run [0] [] [0, 1, 2, 7, 8, 9, 13] (m2 := [(0, Sl.v r1.2), (1, Sl.v a1), (2, .int .i64 a2), (7, .pointer r1.1), (8, .pointer r2), (9, .int .i64 0), (13, .int .i64 0)]) (by kernel_rfl) (by kernel_rfl) ?_
            refine OJ.nil ?_
            refine SJ.block (id := 0) (by kernel_rfl) ?_
            exact SJ.loop (fun s_ : (Int × Int) => [(0, Sl.v r1.2), (1, Sl.v a1), (2, .int .i64 a2), (7, .pointer r1.1), (8, .pointer r2), (9, .int .i64 s_.1), (13, .int .i64 s_.2)]) (fun s_ : (Int × Int) => []) [0, 1, 2, 7, 8, 9, 13] (by kernel_rfl) (by kernel_rfl) rfl (fun _ _ => rfl) (fun s_ => weirlaw18_QueueFair.L1_ok a1 a2 r1 r2 s_.1 s_.2)
end Go.Proofs.Ytgddbpmfendaeaa.Lx
