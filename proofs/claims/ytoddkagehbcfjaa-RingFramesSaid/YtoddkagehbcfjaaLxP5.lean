/- Programs of the M-world for Go functions, each with the proof that the Go text does what it says. Printed by lxgen.py. -/
import Derived.Test.YtoddkagehbcfjaaLxT
import Derived.Test.YtoddkagehbcfjaaLxP0
import Derived.Test.YtoddkagehbcfjaaLxP1
import Derived.Test.YtoddkagehbcfjaaLxP2
import Derived.Test.YtoddkagehbcfjaaLxP3
import Derived.Test.YtoddkagehbcfjaaLxP4
set_option linter.unusedVariables false
set_option linter.unusedSimpArgs false
namespace Go.Proofs.Ytoddkagehbcfjaa.Lx
open Go Go.Proofs
/-! ### weir/weirlaw3.looked: function 61 -/
noncomputable def weirlaw3_looked.B : Code := (Try.f61.body).getD .skip
noncomputable def weirlaw3_looked.cx : Fx := ⟨Try.prog, 61, Try.f61⟩
noncomputable def weirlaw3_looked.out (r_ : Bool) : Value := .bool r_
noncomputable def weirlaw3_looked.F0 (r_ : Bool) : Reach := .ret (weirlaw3_looked.out r_)
noncomputable def weirlaw3_looked.K1 (a0 : weirlaw3_Side) (b12 : Nat) (j13 : weirlaw3_Win) : M Bool :=
  draw >>= fun _ =>
  weirref3_Bytes a0.R j13.I (j13.B.len : Int) >>= fun r14 =>
  weirlaw3_alike j13.B r14 >>= fun r15 =>
  pure r15
theorem weirlaw3_looked.K1_ok (a0 : weirlaw3_Side) (b1 : Nat) (b12 : Nat) (j13 : weirlaw3_Win) :
    SJ weirlaw3_looked.cx [.code (c2 (c2 weirlaw3_looked.B))] [(2, .pointer (some (pt b1 0))), (5, .pointer (some (pt b12 0)))] [(b12, c_weirlaw3_Win.enc j13), (b1, c_weirlaw3_Side.enc a0)] (weirlaw3_looked.K1 a0 b12 j13) weirlaw3_looked.F0 := by
  unfold weirlaw3_looked.K1
  refine SJ.seq (by kernel_rfl) ?_
  refine SJ.draw (id := 2) (kd := [0, 1, 0, 1, 0, 1, 0, 1, 0, 2, 2, 0]) (bef := [0, 1, 0, 4, 0, 16, 0, 64, 192, 508, 1023, 2047]) (ord := [0, 1, 2, 3, 4, 5, 6, 7, 8, 9, 10, 11]) (by kernel_rfl) mixed (by kernel_rfl) ?_
  refine OJ.run [0] [1, 2, 3, 4, 5, 6, 7, 8, 9, 10, 11] [2, 5, 13] (m2 := [(2, .pointer (some (pt b1 0))), (5, .pointer (some (pt b12 0))), (13, .pointer (some (pt b12 0)))]) (by kernel_rfl) (by kernel_rfl) ?_
  refine OJ.kld (d := 14) (T := 22) (y := .tmp 13) (cd := cL) (j := 0) (b := b12) (o := 0) j13.B (pend2 := [⟨1, 22, (pt b12 0), cL.val j13.B⟩]) (by kernel_rfl) (by kernel_rfl) Ty22 (by kernel_rfl) rfl (At_weirlaw3_Win_B j13) (by kernel_rfl) rfl ?_
  refine OJ.run [2] [3, 4, 5, 6, 7, 8, 9, 10, 11] [5, 14, 15] (m2 := [(5, .pointer (some (pt b12 0))), (14, Sl.v j13.B), (15, .pointer (some (pt b1 1)))]) (by kernel_rfl) (by kernel_rfl) ?_
  refine OJ.kld (d := 16) (T := 59) (y := .tmp 15) (cd := c_weirref3_Port) (j := 1) (b := b1) (o := 1) a0.R (pend2 := [⟨3, 59, (pt b1 1), c_weirref3_Port.val a0.R⟩, ⟨1, 22, (pt b12 0), cL.val j13.B⟩]) (by kernel_rfl) (by kernel_rfl) Ty59 (by kernel_rfl) rfl (At_weirlaw3_Side_R a0) (by kernel_rfl) rfl ?_
  refine OJ.run [4] [5, 6, 7, 8, 9, 10, 11] [5, 14, 16, 17] (m2 := [(5, .pointer (some (pt b12 0))), (14, Sl.v j13.B), (16, c_weirref3_Port.val a0.R), (17, .pointer (some (pt b12 1)))]) (by kernel_rfl) (by kernel_rfl) ?_
  refine OJ.kld (d := 18) (T := 3) (y := .tmp 17) (cd := (cI .i64)) (j := 0) (b := b12) (o := 1) j13.I (pend2 := [⟨5, 3, (pt b12 1), (cI .i64).val j13.I⟩, ⟨3, 59, (pt b1 1), c_weirref3_Port.val a0.R⟩, ⟨1, 22, (pt b12 0), cL.val j13.B⟩]) (by kernel_rfl) (by kernel_rfl) Ty3 (by kernel_rfl) rfl (At_weirlaw3_Win_I j13) (by kernel_rfl) rfl ?_
  refine OJ.run [6] [7, 8, 9, 10, 11] [14, 16, 18, 19] (m2 := [(14, Sl.v j13.B), (16, c_weirref3_Port.val a0.R), (18, .int .i64 j13.I), (19, .pointer (some (pt b12 0)))]) (by kernel_rfl) (by kernel_rfl) ?_
  refine OJ.kld (d := 20) (T := 22) (y := .tmp 19) (cd := cL) (j := 0) (b := b12) (o := 0) j13.B (pend2 := [⟨7, 22, (pt b12 0), cL.val j13.B⟩, ⟨5, 3, (pt b12 1), (cI .i64).val j13.I⟩, ⟨3, 59, (pt b1 1), c_weirref3_Port.val a0.R⟩, ⟨1, 22, (pt b12 0), cL.val j13.B⟩]) (by kernel_rfl) (by kernel_rfl) Ty22 (by kernel_rfl) rfl (At_weirlaw3_Win_B j13) (by kernel_rfl) rfl ?_
  refine OJ.run [8] [9, 10, 11] [14, 16, 18, 21] (m2 := [(14, Sl.v j13.B), (16, c_weirref3_Port.val a0.R), (18, .int .i64 j13.I), (21, .int .i64 (j13.B.len : Int))]) (by kernel_rfl) (by kernel_rfl) ?_
  refine OJ.call (d := 22) (g := 76) (ats := #[59, 3, 3]) (args := [.tmp 16, .tmp 18, .tmp 21]) (vals := [c_weirref3_Port.val a0.R, .int .i64 j13.I, .int .i64 (j13.B.len : Int)]) (owed := [⟨1, 22, (pt b12 0), cL.val j13.B⟩]) (by kernel_rfl) F76 (by kernel_rfl) (weirref3_Bytes_ok a0.R j13.I (j13.B.len : Int)) (by kernel_rfl) (by kernel_rfl) (by kernel_rfl) (fun r14 => ?_)
  refine OW.known (j := 0) (q := j13.B) Ty22 rfl (At_weirlaw3_Win_B j13) ?_
  refine OW.nil ?_
  refine OJ.call (d := 23) (g := 19) (ats := #[22, 22]) (args := [.tmp 14, .tmp 22]) (vals := [Sl.v j13.B, Sl.v r14]) (owed := []) (by kernel_rfl) F19 (by kernel_rfl) (weirlaw3_alike_ok j13.B r14) (by kernel_rfl) (by kernel_rfl) (by kernel_rfl) (fun r15 => ?_)
  refine OW.nil ?_
  refine OJ.run [11] [] [4] (m2 := [(4, .bool r15)]) (by kernel_rfl) (by kernel_rfl) ?_
  refine OJ.nil ?_
  exact SJ.ret (by kernel_rfl) rfl (Res.run (ys := [.bool r15]) (.tmp (by kernel_rfl) .nil) rfl)
noncomputable def weirlaw3_looked (a0 : weirlaw3_Side) (a1 : Int) : M Bool :=
  slot 62 >>= fun b1 =>
  draws 61 1 (opsOf (c1 (c2 weirlaw3_looked.B))) >>= fun o2 =>
  if bfr o2 4 7 = true then
    weirlaw3_one a0 a1 >>= fun r17 =>
    idx a0.W.a a0.W.len r17 2 >>= fun p18 =>
    ld c_weirlaw3_Win p18 >>= fun x19 =>
    slot 116 >>= fun b20 =>
    same c_weirlaw3_Win p18 x19 >>= fun _ =>
    weirlaw3_looked.K1 a0 b20 x19
  else
    slot 116 >>= fun b21 =>
    weirlaw3_one a0 a1 >>= fun r22 =>
    idx a0.W.a a0.W.len r22 2 >>= fun p23 =>
    ld c_weirlaw3_Win p23 >>= fun x24 =>
    weirlaw3_looked.K1 a0 b21 x24
theorem weirlaw3_looked_ok (a0 : weirlaw3_Side) (a1 : Int) : Ref Try.prog 61 [c_weirlaw3_Side.val a0, .int .i64 a1] (weirlaw3_looked a0 a1) weirlaw3_looked.out := by
  refine Ref.of (cd := weirlaw3_looked.B) Try.func61 (by kernel_rfl) (by kernel_rfl) ?_
  show SJ weirlaw3_looked.cx [.code weirlaw3_looked.B] [(0, c_weirlaw3_Side.val a0), (1, .int .i64 a1)] [] (weirlaw3_looked a0 a1) weirlaw3_looked.F0
  unfold weirlaw3_looked
  refine SJ.seq (by kernel_rfl) ?_
  refine SJ.region (id := 0) (by kernel_rfl) [0, 1] (by kernel_rfl) ?_
  refine OJ.slotOf (d := 2) (op := (.box 62 (.tmp 0))) (cd := c_weirlaw3_Side) (u := a0) (owed := []) (by kernel_rfl) (box_run (by kernel_rfl)) (by kernel_rfl) (by kernel_rfl) (by kernel_rfl) (fun b1 => ?_)
  refine OW.nil ?_
  refine OJ.run [1] [] [1, 2] (m2 := [(1, .int .i64 a1), (2, .pointer (some (pt b1 0)))]) (by kernel_rfl) (by kernel_rfl) ?_
  refine OJ.nil ?_
  refine SJ.seq (by kernel_rfl) ?_
  refine SJ.draws (id := 1) (kd := [0, 1, 1, 0, 2, 0, 1, 2, 2]) (bef := [0, 1, 0, 0, 12, 31, 63, 0, 255]) (ord := [0, 1, 2, 3, 4, 5, 6, 7, 8]) (E := [(4, 7)]) (by kernel_rfl) mixed (by kernel_rfl) (fun o2 hg_ => ?_)
  refine SJ.bfr hg_ (by kernel_rfl) (by decide) (fun ho16 => ?_) (fun ho16 => ?_)
  · refine SJ.leaf hg_ (kd := [0, 1, 1, 0, 2, 0, 1, 2, 2]) (bef := [0, 1, 0, 0, 12, 31, 63, 0, 255]) (ord := [0, 1, 2, 3, 4, 5, 6, 7, 8]) (E := [(4, 7)]) (by kernel_rfl) (allB.cons ho16 allB.nil) ?_
    refine OJ.run [0] [1, 2, 3, 4, 5, 6, 7, 8] [1, 2, 6] (m2 := [(1, .int .i64 a1), (2, .pointer (some (pt b1 0))), (6, .pointer (some (pt b1 6)))]) (by kernel_rfl) (by kernel_rfl) ?_
    refine OJ.kld (d := 7) (T := 60) (y := .tmp 6) (cd := cL) (j := 0) (b := b1) (o := 6) a0.W (pend2 := [⟨1, 60, (pt b1 6), cL.val a0.W⟩]) (by kernel_rfl) (by kernel_rfl) Ty60 (by kernel_rfl) rfl (At_weirlaw3_Side_W a0) (by kernel_rfl) rfl ?_
    refine OJ.kld (d := 8) (T := 62) (y := .tmp 2) (cd := c_weirlaw3_Side) (j := 0) (b := b1) (o := 0) a0 (pend2 := [⟨2, 62, (pt b1 0), c_weirlaw3_Side.val a0⟩, ⟨1, 60, (pt b1 6), cL.val a0.W⟩]) (by kernel_rfl) (by kernel_rfl) Ty62 (by kernel_rfl) rfl (At.whole _) (by kernel_rfl) rfl ?_
    refine OJ.run [3] [4, 5, 6, 7, 8] [2, 7, 8, 9] (m2 := [(2, .pointer (some (pt b1 0))), (7, Sl.v a0.W), (8, c_weirlaw3_Side.val a0), (9, .int .i64 a1)]) (by kernel_rfl) (by kernel_rfl) ?_
    refine OJ.call (d := 10) (g := 74) (ats := #[62, 3]) (args := [.tmp 8, .tmp 9]) (vals := [c_weirlaw3_Side.val a0, .int .i64 a1]) (owed := [⟨1, 60, (pt b1 6), cL.val a0.W⟩]) (by kernel_rfl) F74 (by kernel_rfl) (weirlaw3_one_ok a0 a1) (by kernel_rfl) (by kernel_rfl) (by kernel_rfl) (fun r17 => ?_)
    refine OW.known (j := 0) (q := a0.W) Ty60 rfl (At_weirlaw3_Side_W a0) ?_
    refine OW.nil ?_
    refine OJ.idxS (d := 11) (T := 60) (y := .tmp 7) (j := .tmp 10) (E := 116) (cap := a0.W.cap) (k := .i64) (by kernel_rfl) (by kernel_rfl) (by kernel_rfl) (by kernel_rfl) (by kernel_rfl) (by kernel_rfl) (by kernel_rfl) (by kernel_rfl) (fun p18 => ?_)
    refine OJ.ld (d := 12) (T := 116) (y := .tmp 11) (pend2 := fun x19 => [⟨6, 116, p18, c_weirlaw3_Win.val x19⟩, ⟨2, 62, (pt b1 0), c_weirlaw3_Side.val a0⟩, ⟨1, 60, (pt b1 6), cL.val a0.W⟩]) (by kernel_rfl) (by kernel_rfl) Ty116 (by kernel_rfl) (by kernel_rfl) (fun _ => rfl) (fun x19 => ?_)
    refine OJ.slotOf (d := 5) (op := (.alloc 116)) (cd := c_weirlaw3_Win) (u := z_weirlaw3_Win) (owed := [⟨6, 116, p18, c_weirlaw3_Win.val x19⟩, ⟨2, 62, (pt b1 0), c_weirlaw3_Side.val a0⟩, ⟨1, 60, (pt b1 6), cL.val a0.W⟩]) (by kernel_rfl) (alloc_run Ty116) (by kernel_rfl) (by kernel_rfl) (by kernel_rfl) (fun b20 => ?_)
    refine OW.same Ty116 ?_
    refine OW.known (j := 1) (q := a0) Ty62 rfl (At.whole _) ?_
    refine OW.known (j := 1) (q := a0.W) Ty60 rfl (At_weirlaw3_Side_W a0) ?_
    refine OW.nil ?_
    refine OJ.kst (T := 116) (y := .tmp 5) (z := .tmp 12) (cd := c_weirlaw3_Win) (u := x19) (j := 0) (b := b20) (o := 0) (c_weirlaw3_Win.enc x19) (h2 := [(b20, c_weirlaw3_Win.enc x19), (b1, c_weirlaw3_Side.enc a0)]) (owed := []) (by kernel_rfl) (by kernel_rfl) (by kernel_rfl) Ty116 rfl (Upd.whole ((Cod.len _ _).trans (Cod.len _ _).symm)) (by kernel_rfl) (by kernel_rfl) rfl ?_
    refine OW.nil ?_
    refine OJ.nil ?_
    refine SJ.less [2, 5] (m' := [(2, .pointer (some (pt b1 0))), (5, .pointer (some (pt b20 0)))]) (by kernel_rfl) ?_
    exact weirlaw3_looked.K1_ok a0 b1 b20 x19
  · refine SJ.leaf hg_ (kd := [0, 1, 1, 0, 2, 0, 1, 2, 2]) (bef := [0, 1, 0, 0, 12, 31, 63, 0, 255]) (ord := [0, 1, 2, 3, 7, 4, 5, 6, 8]) (E := [(7, 4), (7, 6)]) (by kernel_rfl) (allB.cons ho16 (allB.cons (bfr_trans (bfr_trans ho16 (hg_.dep' _ (x := 4) (y := 5) (by kernel_rfl))) (hg_.dep' _ (x := 5) (y := 6) (by kernel_rfl))) allB.nil)) ?_
    refine OJ.run [0] [1, 2, 3, 7, 4, 5, 6, 8] [1, 2, 6] (m2 := [(1, .int .i64 a1), (2, .pointer (some (pt b1 0))), (6, .pointer (some (pt b1 6)))]) (by kernel_rfl) (by kernel_rfl) ?_
    refine OJ.kld (d := 7) (T := 60) (y := .tmp 6) (cd := cL) (j := 0) (b := b1) (o := 6) a0.W (pend2 := [⟨1, 60, (pt b1 6), cL.val a0.W⟩]) (by kernel_rfl) (by kernel_rfl) Ty60 (by kernel_rfl) rfl (At_weirlaw3_Side_W a0) (by kernel_rfl) rfl ?_
    refine OJ.kld (d := 8) (T := 62) (y := .tmp 2) (cd := c_weirlaw3_Side) (j := 0) (b := b1) (o := 0) a0 (pend2 := [⟨2, 62, (pt b1 0), c_weirlaw3_Side.val a0⟩, ⟨1, 60, (pt b1 6), cL.val a0.W⟩]) (by kernel_rfl) (by kernel_rfl) Ty62 (by kernel_rfl) rfl (At.whole _) (by kernel_rfl) rfl ?_
    refine OJ.run [3] [7, 4, 5, 6, 8] [2, 7, 8, 9] (m2 := [(2, .pointer (some (pt b1 0))), (7, Sl.v a0.W), (8, c_weirlaw3_Side.val a0), (9, .int .i64 a1)]) (by kernel_rfl) (by kernel_rfl) ?_
    refine OJ.slotOf (d := 5) (op := (.alloc 116)) (cd := c_weirlaw3_Win) (u := z_weirlaw3_Win) (owed := [⟨2, 62, (pt b1 0), c_weirlaw3_Side.val a0⟩, ⟨1, 60, (pt b1 6), cL.val a0.W⟩]) (by kernel_rfl) (alloc_run Ty116) (by kernel_rfl) (by kernel_rfl) (by kernel_rfl) (fun b21 => ?_)
    refine OW.known (j := 1) (q := a0) Ty62 rfl (At.whole _) ?_
    refine OW.known (j := 1) (q := a0.W) Ty60 rfl (At_weirlaw3_Side_W a0) ?_
    refine OW.nil ?_
    refine OJ.call (d := 10) (g := 74) (ats := #[62, 3]) (args := [.tmp 8, .tmp 9]) (vals := [c_weirlaw3_Side.val a0, .int .i64 a1]) (owed := [⟨1, 60, (pt b1 6), cL.val a0.W⟩]) (by kernel_rfl) F74 (by kernel_rfl) (weirlaw3_one_ok a0 a1) (by kernel_rfl) (by kernel_rfl) (by kernel_rfl) (fun r22 => ?_)
    refine OW.known (j := 1) (q := a0.W) Ty60 rfl (At_weirlaw3_Side_W a0) ?_
    refine OW.nil ?_
    refine OJ.idxS (d := 11) (T := 60) (y := .tmp 7) (j := .tmp 10) (E := 116) (cap := a0.W.cap) (k := .i64) (by kernel_rfl) (by kernel_rfl) (by kernel_rfl) (by kernel_rfl) (by kernel_rfl) (by kernel_rfl) (by kernel_rfl) (by kernel_rfl) (fun p23 => ?_)
    refine OJ.ld (d := 12) (T := 116) (y := .tmp 11) (pend2 := fun x24 => [⟨6, 116, p23, c_weirlaw3_Win.val x24⟩, ⟨2, 62, (pt b1 0), c_weirlaw3_Side.val a0⟩, ⟨1, 60, (pt b1 6), cL.val a0.W⟩]) (by kernel_rfl) (by kernel_rfl) Ty116 (by kernel_rfl) (by kernel_rfl) (fun _ => rfl) (fun x24 => ?_)
    refine OJ.kst (T := 116) (y := .tmp 5) (z := .tmp 12) (cd := c_weirlaw3_Win) (u := x24) (j := 0) (b := b21) (o := 0) (c_weirlaw3_Win.enc x24) (h2 := [(b21, c_weirlaw3_Win.enc x24), (b1, c_weirlaw3_Side.enc a0)]) (owed := []) (by kernel_rfl) (by kernel_rfl) (by kernel_rfl) Ty116 rfl (Upd.whole ((Cod.len _ _).trans (Cod.len _ _).symm)) (by kernel_rfl) (by kernel_rfl) rfl ?_
    refine OW.nil ?_
    refine OJ.nil ?_
    refine SJ.less [2, 5] (m' := [(2, .pointer (some (pt b1 0))), (5, .pointer (some (pt b21 0)))]) (by kernel_rfl) ?_
    exact weirlaw3_looked.K1_ok a0 b1 b21 x24

/-! ### weir/weirlaw3.step: function 50 -/
noncomputable def weirlaw3_step.B : Code := (Try.f50.body).getD .skip
noncomputable def weirlaw3_step.cx : Fx := ⟨Try.prog, 50, Try.f50⟩
noncomputable def weirlaw3_step.out (r_ : (weirlaw3_Side × Bool)) : Value := .tuple #[c_weirlaw3_Side.val r_.1, .bool r_.2]
noncomputable def weirlaw3_step.F0 (r_ : (weirlaw3_Side × Bool)) : Reach := .ret (weirlaw3_step.out r_)
noncomputable def weirlaw3_step.K1 (a0 : weirlaw3_Side) (a1 : weirlaw3_Op) (j299 : Bool) : M (weirlaw3_Side × Bool) :=
  if j299 = true then
    weirlaw3_moved a0 a1 >>= fun r338 =>
    pure (r338.1, r338.2)
  else
    if a1.Kind = 9 then
      weirlaw3_told a0 >>= fun r357 =>
      pure (a0, r357)
    else
      if a1.Kind = 10 then
        if (a0.W.len : Int) > 0 then
          weirlaw3_written a0 a1 >>= fun r367 =>
          pure (r367, true)
        else
          pure (a0, true)
      else
        if a1.Kind = 11 then
          (if (a0.W.len : Int) = 0 then
              pure true
            else
              weirlaw3_looked a0 a1.I >>= fun r371 =>
              pure r371) >>= fun y372 =>
          pure (a0, y372)
        else
          pure (a0, true)
theorem weirlaw3_step.K1_ok (a0 : weirlaw3_Side) (a1 : weirlaw3_Op) (b1 : Nat) (b2 : Nat) (b3 : Nat) (j299 : Bool) :
    SJ weirlaw3_step.cx [.code (c2 (c2 (c2 (c2 (c2 (c1 (c2 (c1 (c2 weirlaw3_step.B))))))))), .inBlock 0, .code (c2 (c2 weirlaw3_step.B))] [(2, .pointer (some (pt b1 0))), (3, .pointer (some (pt b2 0))), (4, .pointer (some (pt b3 0))), (9, .int .i64 a1.Kind), (27, .bool j299)] [(b3, c_weirlaw3_Side.enc z_weirlaw3_Side), (b2, c_weirlaw3_Op.enc a1), (b1, c_weirlaw3_Side.enc a0)] (weirlaw3_step.K1 a0 a1 j299) weirlaw3_step.F0 := by
  unfold weirlaw3_step.K1
  refine SJ.cond (t := (.tmp 27)) (b := j299) (by kernel_rfl) (by kernel_rfl) Iff.rfl (fun hc376 => ?_) (fun hc376 => ?_)
  · refine SJ.seq (by kernel_rfl) ?_
    refine SJ.region (id := 12) (by kernel_rfl) [0, 1, 2, 3, 4, 5, 6] (by kernel_rfl) ?_
    refine OJ.kld (d := 32) (T := 62) (y := .tmp 2) (cd := c_weirlaw3_Side) (j := 2) (b := b1) (o := 0) a0 (pend2 := []) (by kernel_rfl) (by kernel_rfl) Ty62 (by kernel_rfl) rfl (At.whole _) (by kernel_rfl) rfl ?_
    refine OJ.kld (d := 33) (T := 45) (y := .tmp 3) (cd := c_weirlaw3_Op) (j := 1) (b := b2) (o := 0) a1 (pend2 := []) (by kernel_rfl) (by kernel_rfl) Ty45 (by kernel_rfl) rfl (At.whole _) (by kernel_rfl) rfl ?_
    refine OJ.call (d := 34) (g := 59) (ats := #[62, 45]) (args := [.tmp 32, .tmp 33]) (vals := [c_weirlaw3_Side.val a0, c_weirlaw3_Op.val a1]) (owed := []) (by kernel_rfl) F59 (by kernel_rfl) (weirlaw3_moved_ok a0 a1) (by kernel_rfl) (by kernel_rfl) (by kernel_rfl) (fun r338 => ?_)
    refine OW.nil ?_
    refine OJ.run [3, 4] [5, 6] [4, 35, 36] (m2 := [(4, .pointer (some (pt b3 0))), (35, c_weirlaw3_Side.val r338.1), (36, .bool r338.2)]) (by kernel_rfl) (by kernel_rfl) ?_
    refine OJ.kst (T := 62) (y := .tmp 4) (z := .tmp 35) (cd := c_weirlaw3_Side) (u := r338.1) (j := 0) (b := b3) (o := 0) (c_weirlaw3_Side.enc r338.1) (h2 := [(b3, c_weirlaw3_Side.enc r338.1), (b2, c_weirlaw3_Op.enc a1), (b1, c_weirlaw3_Side.enc a0)]) (owed := []) (by kernel_rfl) (by kernel_rfl) (by kernel_rfl) Ty62 rfl (Upd.whole ((Cod.len _ _).trans (Cod.len _ _).symm)) (by kernel_rfl) (by kernel_rfl) rfl ?_
    refine OW.nil ?_
    refine OJ.run [6] [] [4, 5] (m2 := [(4, .pointer (some (pt b3 0))), (5, .bool r338.2)]) (by kernel_rfl) (by kernel_rfl) ?_
    refine OJ.nil ?_
    exact SJ.ret (by kernel_rfl) rfl (Res.run (ys := [c_weirlaw3_Side.val r338.1, .bool r338.2]) (.cell (j := 0) (b := b3) (cd := c_weirlaw3_Side) (q := r338.1) (by kernel_rfl) rfl Ty62 (At.whole _) (.tmp (by kernel_rfl) .nil)) rfl)
  · refine SJ.seq (by kernel_rfl) ?_
    refine SJ.region (id := 13) (by kernel_rfl) [0, 1] (by kernel_rfl) ?_
    refine OJ.run [0, 1] [] [2, 3, 4, 9, 37] (m2 := [(2, .pointer (some (pt b1 0))), (3, .pointer (some (pt b2 0))), (4, .pointer (some (pt b3 0))), (9, .int .i64 a1.Kind), (37, .bool (a1.Kind == 9))]) (by kernel_rfl) (by kernel_rfl) ?_
    refine OJ.nil ?_
    refine SJ.cond (t := (.tmp 37)) (b := (a1.Kind == 9)) (by kernel_rfl) (by kernel_rfl) beq_iff_eq (fun hc375 => ?_) (fun hc375 => ?_)
    · refine SJ.seq (by kernel_rfl) ?_
      refine SJ.region (id := 14) (by kernel_rfl) [0, 1, 2] (by kernel_rfl) ?_
      refine OJ.kld (d := 39) (T := 62) (y := .tmp 2) (cd := c_weirlaw3_Side) (j := 2) (b := b1) (o := 0) a0 (pend2 := []) (by kernel_rfl) (by kernel_rfl) Ty62 (by kernel_rfl) rfl (At.whole _) (by kernel_rfl) rfl ?_
      refine OJ.call (d := 40) (g := 31) (ats := #[62]) (args := [.tmp 39]) (vals := [c_weirlaw3_Side.val a0]) (owed := []) (by kernel_rfl) F31 (by kernel_rfl) (weirlaw3_told_ok a0) (by kernel_rfl) (by kernel_rfl) (by kernel_rfl) (fun r357 => ?_)
      refine OW.nil ?_
      refine OJ.run [2] [] [2, 4, 6] (m2 := [(2, .pointer (some (pt b1 0))), (4, .pointer (some (pt b3 0))), (6, .bool r357)]) (by kernel_rfl) (by kernel_rfl) ?_
      refine OJ.nil ?_
      refine SJ.seq (by kernel_rfl) ?_
      refine SJ.region (id := 15) (by kernel_rfl) [0, 1, 2, 3] (by kernel_rfl) ?_
      refine OJ.kld (d := 41) (T := 62) (y := .tmp 2) (cd := c_weirlaw3_Side) (j := 2) (b := b1) (o := 0) a0 (pend2 := []) (by kernel_rfl) (by kernel_rfl) Ty62 (by kernel_rfl) rfl (At.whole _) (by kernel_rfl) rfl ?_
      refine OJ.run [1] [2, 3] [4, 41, 42] (m2 := [(4, .pointer (some (pt b3 0))), (41, c_weirlaw3_Side.val a0), (42, .bool r357)]) (by kernel_rfl) (by kernel_rfl) ?_
      refine OJ.kst (T := 62) (y := .tmp 4) (z := .tmp 41) (cd := c_weirlaw3_Side) (u := a0) (j := 0) (b := b3) (o := 0) (c_weirlaw3_Side.enc a0) (h2 := [(b3, c_weirlaw3_Side.enc a0), (b2, c_weirlaw3_Op.enc a1), (b1, c_weirlaw3_Side.enc a0)]) (owed := []) (by kernel_rfl) (by kernel_rfl) (by kernel_rfl) Ty62 rfl (Upd.whole ((Cod.len _ _).trans (Cod.len _ _).symm)) (by kernel_rfl) (by kernel_rfl) rfl ?_
      refine OW.nil ?_
      refine OJ.run [3] [] [4, 5] (m2 := [(4, .pointer (some (pt b3 0))), (5, .bool r357)]) (by kernel_rfl) (by kernel_rfl) ?_
      refine OJ.nil ?_
      exact SJ.ret (by kernel_rfl) rfl (Res.run (ys := [c_weirlaw3_Side.val a0, .bool r357]) (.cell (j := 0) (b := b3) (cd := c_weirlaw3_Side) (q := a0) (by kernel_rfl) rfl Ty62 (At.whole _) (.tmp (by kernel_rfl) .nil)) rfl)
    · refine SJ.seq (by kernel_rfl) ?_
      refine SJ.region (id := 16) (by kernel_rfl) [0, 1] (by kernel_rfl) ?_
      refine OJ.run [0, 1] [] [2, 3, 4, 9, 43] (m2 := [(2, .pointer (some (pt b1 0))), (3, .pointer (some (pt b2 0))), (4, .pointer (some (pt b3 0))), (9, .int .i64 a1.Kind), (43, .bool (a1.Kind == 10))]) (by kernel_rfl) (by kernel_rfl) ?_
      refine OJ.nil ?_
      refine SJ.cond (t := (.tmp 43)) (b := (a1.Kind == 10)) (by kernel_rfl) (by kernel_rfl) beq_iff_eq (fun hc374 => ?_) (fun hc374 => ?_)
      · refine SJ.seq (by kernel_rfl) ?_
        refine SJ.region (id := 17) (by kernel_rfl) [0, 1, 2, 3] (by kernel_rfl) ?_
        refine OJ.run [0] [1, 2, 3] [2, 3, 4, 45] (m2 := [(2, .pointer (some (pt b1 0))), (3, .pointer (some (pt b2 0))), (4, .pointer (some (pt b3 0))), (45, .pointer (some (pt b1 6)))]) (by kernel_rfl) (by kernel_rfl) ?_
        refine OJ.kld (d := 46) (T := 60) (y := .tmp 45) (cd := cL) (j := 2) (b := b1) (o := 6) a0.W (pend2 := []) (by kernel_rfl) (by kernel_rfl) Ty60 (by kernel_rfl) rfl (At_weirlaw3_Side_W a0) (by kernel_rfl) rfl ?_
        refine OJ.run [2, 3] [] [2, 3, 4, 48] (m2 := [(2, .pointer (some (pt b1 0))), (3, .pointer (some (pt b2 0))), (4, .pointer (some (pt b3 0))), (48, .bool (decide ((a0.W.len : Int) > 0)))]) (by kernel_rfl) (by kernel_rfl) ?_
        refine OJ.nil ?_
        refine SJ.cond (t := (.tmp 48)) (b := decide ((a0.W.len : Int) > 0)) (by kernel_rfl) (by kernel_rfl) decide_eq_true_iff (fun hc368 => ?_) (fun hc368 => ?_)
        · refine SJ.region (id := 18) (by kernel_rfl) [0, 1, 2, 3] (by kernel_rfl) ?_
          refine OJ.kld (d := 49) (T := 62) (y := .tmp 2) (cd := c_weirlaw3_Side) (j := 2) (b := b1) (o := 0) a0 (pend2 := []) (by kernel_rfl) (by kernel_rfl) Ty62 (by kernel_rfl) rfl (At.whole _) (by kernel_rfl) rfl ?_
          refine OJ.kld (d := 50) (T := 45) (y := .tmp 3) (cd := c_weirlaw3_Op) (j := 1) (b := b2) (o := 0) a1 (pend2 := []) (by kernel_rfl) (by kernel_rfl) Ty45 (by kernel_rfl) rfl (At.whole _) (by kernel_rfl) rfl ?_
          refine OJ.call (d := 51) (g := 60) (ats := #[62, 45]) (args := [.tmp 49, .tmp 50]) (vals := [c_weirlaw3_Side.val a0, c_weirlaw3_Op.val a1]) (owed := []) (by kernel_rfl) F60 (by kernel_rfl) (weirlaw3_written_ok a0 a1) (by kernel_rfl) (by kernel_rfl) (by kernel_rfl) (fun r367 => ?_)
          refine OW.nil ?_
          refine OJ.kst (T := 62) (y := .tmp 2) (z := .tmp 51) (cd := c_weirlaw3_Side) (u := r367) (j := 2) (b := b1) (o := 0) (c_weirlaw3_Side.enc r367) (h2 := [(b3, c_weirlaw3_Side.enc z_weirlaw3_Side), (b2, c_weirlaw3_Op.enc a1), (b1, c_weirlaw3_Side.enc r367)]) (owed := []) (by kernel_rfl) (by kernel_rfl) (by kernel_rfl) Ty62 rfl (Upd.whole ((Cod.len _ _).trans (Cod.len _ _).symm)) (by kernel_rfl) (by kernel_rfl) rfl ?_
          refine OW.nil ?_
          refine OJ.nil ?_
          refine SJ.inBlock ?_
          refine SJ.seq (by kernel_rfl) ?_
          refine SJ.region (id := 22) (by kernel_rfl) [0, 1, 2] (by kernel_rfl) ?_
          refine OJ.kld (d := 66) (T := 62) (y := .tmp 2) (cd := c_weirlaw3_Side) (j := 2) (b := b1) (o := 0) r367 (pend2 := []) (by kernel_rfl) (by kernel_rfl) Ty62 (by kernel_rfl) rfl (At.whole _) (by kernel_rfl) rfl ?_
          refine OJ.kst (T := 62) (y := .tmp 4) (z := .tmp 66) (cd := c_weirlaw3_Side) (u := r367) (j := 0) (b := b3) (o := 0) (c_weirlaw3_Side.enc r367) (h2 := [(b3, c_weirlaw3_Side.enc r367), (b2, c_weirlaw3_Op.enc a1), (b1, c_weirlaw3_Side.enc r367)]) (owed := []) (by kernel_rfl) (by kernel_rfl) (by kernel_rfl) Ty62 rfl (Upd.whole ((Cod.len _ _).trans (Cod.len _ _).symm)) (by kernel_rfl) (by kernel_rfl) rfl ?_
          refine OW.nil ?_
          refine OJ.run [2] [] [4, 5] (m2 := [(4, .pointer (some (pt b3 0))), (5, .bool true)]) (by kernel_rfl) (by kernel_rfl) ?_
          refine OJ.nil ?_
          exact SJ.ret (by kernel_rfl) rfl (Res.run (ys := [c_weirlaw3_Side.val r367, .bool true]) (.cell (j := 0) (b := b3) (cd := c_weirlaw3_Side) (q := r367) (by kernel_rfl) rfl Ty62 (At.whole _) (.tmp (by kernel_rfl) .nil)) rfl)
        · refine SJ.skip (by kernel_rfl) ?_
          refine SJ.inBlock ?_
          refine SJ.seq (by kernel_rfl) ?_
          refine SJ.region (id := 22) (by kernel_rfl) [0, 1, 2] (by kernel_rfl) ?_
          refine OJ.kld (d := 66) (T := 62) (y := .tmp 2) (cd := c_weirlaw3_Side) (j := 2) (b := b1) (o := 0) a0 (pend2 := []) (by kernel_rfl) (by kernel_rfl) Ty62 (by kernel_rfl) rfl (At.whole _) (by kernel_rfl) rfl ?_
          refine OJ.kst (T := 62) (y := .tmp 4) (z := .tmp 66) (cd := c_weirlaw3_Side) (u := a0) (j := 0) (b := b3) (o := 0) (c_weirlaw3_Side.enc a0) (h2 := [(b3, c_weirlaw3_Side.enc a0), (b2, c_weirlaw3_Op.enc a1), (b1, c_weirlaw3_Side.enc a0)]) (owed := []) (by kernel_rfl) (by kernel_rfl) (by kernel_rfl) Ty62 rfl (Upd.whole ((Cod.len _ _).trans (Cod.len _ _).symm)) (by kernel_rfl) (by kernel_rfl) rfl ?_
          refine OW.nil ?_
          refine OJ.run [2] [] [4, 5] (m2 := [(4, .pointer (some (pt b3 0))), (5, .bool true)]) (by kernel_rfl) (by kernel_rfl) ?_
          refine OJ.nil ?_
          exact SJ.ret (by kernel_rfl) rfl (Res.run (ys := [c_weirlaw3_Side.val a0, .bool true]) (.cell (j := 0) (b := b3) (cd := c_weirlaw3_Side) (q := a0) (by kernel_rfl) rfl Ty62 (At.whole _) (.tmp (by kernel_rfl) .nil)) rfl)
      · refine SJ.seq (by kernel_rfl) ?_
        refine SJ.region (id := 19) (by kernel_rfl) [0, 1] (by kernel_rfl) ?_
        refine OJ.run [0, 1] [] [2, 3, 4, 52] (m2 := [(2, .pointer (some (pt b1 0))), (3, .pointer (some (pt b2 0))), (4, .pointer (some (pt b3 0))), (52, .bool (a1.Kind == 11))]) (by kernel_rfl) (by kernel_rfl) ?_
        refine OJ.nil ?_
        refine SJ.cond (t := (.tmp 52)) (b := (a1.Kind == 11)) (by kernel_rfl) (by kernel_rfl) beq_iff_eq (fun hc373 => ?_) (fun hc373 => ?_)
        · refine SJ.seq (by kernel_rfl) ?_
          refine SJ.region (id := 20) (by kernel_rfl) [0, 1, 2, 3, 4, 5, 6, 7, 8, 9, 10] (by kernel_rfl) ?_
          refine OJ.run [0] [1, 2, 3, 4, 5, 6, 7, 8, 9, 10] [2, 3, 4, 54] (m2 := [(2, .pointer (some (pt b1 0))), (3, .pointer (some (pt b2 0))), (4, .pointer (some (pt b3 0))), (54, .pointer (some (pt b1 6)))]) (by kernel_rfl) (by kernel_rfl) ?_
          refine OJ.kld (d := 55) (T := 60) (y := .tmp 54) (cd := cL) (j := 2) (b := b1) (o := 6) a0.W (pend2 := []) (by kernel_rfl) (by kernel_rfl) Ty60 (by kernel_rfl) rfl (At_weirlaw3_Side_W a0) (by kernel_rfl) rfl ?_
          refine OJ.run [2, 3, 4] [5, 6, 7, 8, 9, 10] [2, 3, 4, 58] (m2 := [(2, .pointer (some (pt b1 0))), (3, .pointer (some (pt b2 0))), (4, .pointer (some (pt b3 0))), (58, .bool ((a0.W.len : Int) == 0))]) (by kernel_rfl) (by kernel_rfl) ?_
          refine OJ.join (b := ((a0.W.len : Int) == 0)) [5, 6, 7, 8, 9] [10] [2, 4, 63] (fun y372 => [(2, .pointer (some (pt b1 0))), (4, .pointer (some (pt b3 0))), (63, .bool y372)]) [] [] (by kernel_rfl) (t := 58) (by kernel_rfl) beq_iff_eq (fun hp_ => ?_) (fun hp_ => ?_) (by kernel_rfl) (fun _ _ _ _ _ _ h_ => h_) (fun y372 => ?_)
          · refine OJ.run [5, 6, 7, 8, 9] [] [2, 4, 63] (m2 := [(2, .pointer (some (pt b1 0))), (4, .pointer (some (pt b3 0))), (63, .bool true)]) (by kernel_rfl) (by kernel_rfl) ?_
            exact OJ.nil ⟨(Cov.mem Cov.nil), rfl, _, rfl, by kernel_rfl⟩
          · refine OJ.kld (d := 59) (T := 62) (y := .tmp 2) (cd := c_weirlaw3_Side) (j := 2) (b := b1) (o := 0) a0 (pend2 := []) (by kernel_rfl) (by kernel_rfl) Ty62 (by kernel_rfl) rfl (At.whole _) (by kernel_rfl) rfl ?_
            refine OJ.run [6] [7, 8, 9] [2, 4, 58, 59, 60] (m2 := [(2, .pointer (some (pt b1 0))), (4, .pointer (some (pt b3 0))), (58, .bool false), (59, c_weirlaw3_Side.val a0), (60, .pointer (some (pt b2 2)))]) (by kernel_rfl) (by kernel_rfl) ?_
            refine OJ.kld (d := 61) (T := 3) (y := .tmp 60) (cd := (cI .i64)) (j := 1) (b := b2) (o := 2) a1.I (pend2 := []) (by kernel_rfl) (by kernel_rfl) Ty3 (by kernel_rfl) rfl (At_weirlaw3_Op_I a1) (by kernel_rfl) rfl ?_
            refine OJ.call (d := 62) (g := 61) (ats := #[62, 3]) (args := [.tmp 59, .tmp 61]) (vals := [c_weirlaw3_Side.val a0, .int .i64 a1.I]) (owed := []) (by kernel_rfl) F61 (by kernel_rfl) (weirlaw3_looked_ok a0 a1.I) (by kernel_rfl) (by kernel_rfl) (by kernel_rfl) (fun r371 => ?_)
            refine OW.nil ?_
            refine OJ.run [9] [] [2, 4, 63] (m2 := [(2, .pointer (some (pt b1 0))), (4, .pointer (some (pt b3 0))), (63, .bool r371)]) (by kernel_rfl) (by kernel_rfl) ?_
            exact OJ.nil ⟨(Cov.mem Cov.nil), rfl, _, rfl, by kernel_rfl⟩
          · refine OJ.run [10] [] [2, 4, 7] (m2 := [(2, .pointer (some (pt b1 0))), (4, .pointer (some (pt b3 0))), (7, .bool y372)]) (by kernel_rfl) (by kernel_rfl) ?_
            refine OJ.nil ?_
            refine SJ.seq (by kernel_rfl) ?_
            refine SJ.region (id := 21) (by kernel_rfl) [0, 1, 2, 3] (by kernel_rfl) ?_
            refine OJ.kld (d := 64) (T := 62) (y := .tmp 2) (cd := c_weirlaw3_Side) (j := 2) (b := b1) (o := 0) a0 (pend2 := []) (by kernel_rfl) (by kernel_rfl) Ty62 (by kernel_rfl) rfl (At.whole _) (by kernel_rfl) rfl ?_
            refine OJ.run [1] [2, 3] [4, 64, 65] (m2 := [(4, .pointer (some (pt b3 0))), (64, c_weirlaw3_Side.val a0), (65, .bool y372)]) (by kernel_rfl) (by kernel_rfl) ?_
            refine OJ.kst (T := 62) (y := .tmp 4) (z := .tmp 64) (cd := c_weirlaw3_Side) (u := a0) (j := 0) (b := b3) (o := 0) (c_weirlaw3_Side.enc a0) (h2 := [(b3, c_weirlaw3_Side.enc a0), (b2, c_weirlaw3_Op.enc a1), (b1, c_weirlaw3_Side.enc a0)]) (owed := []) (by kernel_rfl) (by kernel_rfl) (by kernel_rfl) Ty62 rfl (Upd.whole ((Cod.len _ _).trans (Cod.len _ _).symm)) (by kernel_rfl) (by kernel_rfl) rfl ?_
            refine OW.nil ?_
            refine OJ.run [3] [] [4, 5] (m2 := [(4, .pointer (some (pt b3 0))), (5, .bool y372)]) (by kernel_rfl) (by kernel_rfl) ?_
            refine OJ.nil ?_
            exact SJ.ret (by kernel_rfl) rfl (Res.run (ys := [c_weirlaw3_Side.val a0, .bool y372]) (.cell (j := 0) (b := b3) (cd := c_weirlaw3_Side) (q := a0) (by kernel_rfl) rfl Ty62 (At.whole _) (.tmp (by kernel_rfl) .nil)) rfl)
        · refine SJ.skip (by kernel_rfl) ?_
          refine SJ.inBlock ?_
          refine SJ.seq (by kernel_rfl) ?_
          refine SJ.region (id := 22) (by kernel_rfl) [0, 1, 2] (by kernel_rfl) ?_
          refine OJ.kld (d := 66) (T := 62) (y := .tmp 2) (cd := c_weirlaw3_Side) (j := 2) (b := b1) (o := 0) a0 (pend2 := []) (by kernel_rfl) (by kernel_rfl) Ty62 (by kernel_rfl) rfl (At.whole _) (by kernel_rfl) rfl ?_
          refine OJ.kst (T := 62) (y := .tmp 4) (z := .tmp 66) (cd := c_weirlaw3_Side) (u := a0) (j := 0) (b := b3) (o := 0) (c_weirlaw3_Side.enc a0) (h2 := [(b3, c_weirlaw3_Side.enc a0), (b2, c_weirlaw3_Op.enc a1), (b1, c_weirlaw3_Side.enc a0)]) (owed := []) (by kernel_rfl) (by kernel_rfl) (by kernel_rfl) Ty62 rfl (Upd.whole ((Cod.len _ _).trans (Cod.len _ _).symm)) (by kernel_rfl) (by kernel_rfl) rfl ?_
          refine OW.nil ?_
          refine OJ.run [2] [] [4, 5] (m2 := [(4, .pointer (some (pt b3 0))), (5, .bool true)]) (by kernel_rfl) (by kernel_rfl) ?_
          refine OJ.nil ?_
          exact SJ.ret (by kernel_rfl) rfl (Res.run (ys := [c_weirlaw3_Side.val a0, .bool true]) (.cell (j := 0) (b := b3) (cd := c_weirlaw3_Side) (q := a0) (by kernel_rfl) rfl Ty62 (At.whole _) (.tmp (by kernel_rfl) .nil)) rfl)
noncomputable def weirlaw3_step.K2 (a0 : weirlaw3_Side) (a1 : weirlaw3_Op) (j379 : Bool) : M (weirlaw3_Side × Bool) :=
  weirlaw3_step.K1 a0 a1 j379
theorem weirlaw3_step.K2_ok (a0 : weirlaw3_Side) (a1 : weirlaw3_Op) (b1 : Nat) (b2 : Nat) (b3 : Nat) (j379 : Bool) :
    SJ weirlaw3_step.cx [.code (c2 (c2 (c2 (c2 (c2 (c1 (c2 (c1 (c2 weirlaw3_step.B))))))))), .inBlock 0, .code (c2 (c2 weirlaw3_step.B))] [(2, .pointer (some (pt b1 0))), (3, .pointer (some (pt b2 0))), (4, .pointer (some (pt b3 0))), (9, .int .i64 a1.Kind), (27, .bool j379)] [(b3, c_weirlaw3_Side.enc z_weirlaw3_Side), (b2, c_weirlaw3_Op.enc a1), (b1, c_weirlaw3_Side.enc a0)] (weirlaw3_step.K2 a0 a1 j379) weirlaw3_step.F0 := by
  unfold weirlaw3_step.K2
  refine SJ.less [2, 3, 4, 9, 27] (m' := [(2, .pointer (some (pt b1 0))), (3, .pointer (some (pt b2 0))), (4, .pointer (some (pt b3 0))), (9, .int .i64 a1.Kind), (27, .bool j379)]) (by kernel_rfl) ?_
  exact weirlaw3_step.K1_ok a0 a1 b1 b2 b3 j379
noncomputable def weirlaw3_step.K3 (a0 : weirlaw3_Side) (a1 : weirlaw3_Op) (j380 : Bool) : M (weirlaw3_Side × Bool) :=
  weirlaw3_step.K2 a0 a1 j380
theorem weirlaw3_step.K3_ok (a0 : weirlaw3_Side) (a1 : weirlaw3_Op) (b1 : Nat) (b2 : Nat) (b3 : Nat) (j380 : Bool) :
    SJ weirlaw3_step.cx [.code (c2 (c2 (c2 (c2 (c2 (c1 (c2 (c1 (c2 weirlaw3_step.B))))))))), .inBlock 0, .code (c2 (c2 weirlaw3_step.B))] [(2, .pointer (some (pt b1 0))), (3, .pointer (some (pt b2 0))), (4, .pointer (some (pt b3 0))), (9, .int .i64 a1.Kind), (27, .bool j380)] [(b3, c_weirlaw3_Side.enc z_weirlaw3_Side), (b2, c_weirlaw3_Op.enc a1), (b1, c_weirlaw3_Side.enc a0)] (weirlaw3_step.K3 a0 a1 j380) weirlaw3_step.F0 := by
  unfold weirlaw3_step.K3
  refine SJ.less [2, 3, 4, 9, 27] (m' := [(2, .pointer (some (pt b1 0))), (3, .pointer (some (pt b2 0))), (4, .pointer (some (pt b3 0))), (9, .int .i64 a1.Kind), (27, .bool j380)]) (by kernel_rfl) ?_
  exact weirlaw3_step.K2_ok a0 a1 b1 b2 b3 j380
noncomputable def weirlaw3_step.K4 (a0 : weirlaw3_Side) (a1 : weirlaw3_Op) (j199 : Bool) : M (weirlaw3_Side × Bool) :=
  if j199 = true then
    weirlaw3_answered a0 a1 >>= fun r292 =>
    pure (r292.1, r292.2)
  else
    if a1.Kind = 1 then
      weirlaw3_step.K1 a0 a1 (a1.Kind == 1)
    else
      if a1.Kind = 6 then
        weirlaw3_step.K2 a0 a1 (a1.Kind == 6)
      else
        if a1.Kind = 7 then
          weirlaw3_step.K3 a0 a1 (a1.Kind == 7)
        else
          weirlaw3_step.K3 a0 a1 (a1.Kind == 8)
theorem weirlaw3_step.K4_ok (a0 : weirlaw3_Side) (a1 : weirlaw3_Op) (b1 : Nat) (b2 : Nat) (b3 : Nat) (j199 : Bool) :
    SJ weirlaw3_step.cx [.code (c2 (c2 (c2 (c1 (c2 (c1 (c2 weirlaw3_step.B))))))), .inBlock 0, .code (c2 (c2 weirlaw3_step.B))] [(2, .pointer (some (pt b1 0))), (3, .pointer (some (pt b2 0))), (4, .pointer (some (pt b3 0))), (9, .int .i64 a1.Kind), (18, .bool j199)] [(b3, c_weirlaw3_Side.enc z_weirlaw3_Side), (b2, c_weirlaw3_Op.enc a1), (b1, c_weirlaw3_Side.enc a0)] (weirlaw3_step.K4 a0 a1 j199) weirlaw3_step.F0 := by
  unfold weirlaw3_step.K4
  refine SJ.cond (t := (.tmp 18)) (b := j199) (by kernel_rfl) (by kernel_rfl) Iff.rfl (fun hc384 => ?_) (fun hc384 => ?_)
  · refine SJ.seq (by kernel_rfl) ?_
    refine SJ.region (id := 7) (by kernel_rfl) [0, 1, 2, 3, 4, 5, 6] (by kernel_rfl) ?_
    refine OJ.kld (d := 22) (T := 62) (y := .tmp 2) (cd := c_weirlaw3_Side) (j := 2) (b := b1) (o := 0) a0 (pend2 := []) (by kernel_rfl) (by kernel_rfl) Ty62 (by kernel_rfl) rfl (At.whole _) (by kernel_rfl) rfl ?_
    refine OJ.kld (d := 23) (T := 45) (y := .tmp 3) (cd := c_weirlaw3_Op) (j := 1) (b := b2) (o := 0) a1 (pend2 := []) (by kernel_rfl) (by kernel_rfl) Ty45 (by kernel_rfl) rfl (At.whole _) (by kernel_rfl) rfl ?_
    refine OJ.call (d := 24) (g := 58) (ats := #[62, 45]) (args := [.tmp 22, .tmp 23]) (vals := [c_weirlaw3_Side.val a0, c_weirlaw3_Op.val a1]) (owed := []) (by kernel_rfl) F58 (by kernel_rfl) (weirlaw3_answered_ok a0 a1) (by kernel_rfl) (by kernel_rfl) (by kernel_rfl) (fun r292 => ?_)
    refine OW.nil ?_
    refine OJ.run [3, 4] [5, 6] [4, 25, 26] (m2 := [(4, .pointer (some (pt b3 0))), (25, c_weirlaw3_Side.val r292.1), (26, .bool r292.2)]) (by kernel_rfl) (by kernel_rfl) ?_
    refine OJ.kst (T := 62) (y := .tmp 4) (z := .tmp 25) (cd := c_weirlaw3_Side) (u := r292.1) (j := 0) (b := b3) (o := 0) (c_weirlaw3_Side.enc r292.1) (h2 := [(b3, c_weirlaw3_Side.enc r292.1), (b2, c_weirlaw3_Op.enc a1), (b1, c_weirlaw3_Side.enc a0)]) (owed := []) (by kernel_rfl) (by kernel_rfl) (by kernel_rfl) Ty62 rfl (Upd.whole ((Cod.len _ _).trans (Cod.len _ _).symm)) (by kernel_rfl) (by kernel_rfl) rfl ?_
    refine OW.nil ?_
    refine OJ.run [6] [] [4, 5] (m2 := [(4, .pointer (some (pt b3 0))), (5, .bool r292.2)]) (by kernel_rfl) (by kernel_rfl) ?_
    refine OJ.nil ?_
    exact SJ.ret (by kernel_rfl) rfl (Res.run (ys := [c_weirlaw3_Side.val r292.1, .bool r292.2]) (.cell (j := 0) (b := b3) (cd := c_weirlaw3_Side) (q := r292.1) (by kernel_rfl) rfl Ty62 (At.whole _) (.tmp (by kernel_rfl) .nil)) rfl)
  · refine SJ.seq (by kernel_rfl) ?_
    refine SJ.seq (by kernel_rfl) ?_
    refine SJ.region (id := 8) (by kernel_rfl) [0, 1] (by kernel_rfl) ?_
    refine OJ.run [0, 1] [] [2, 3, 4, 9, 27] (m2 := [(2, .pointer (some (pt b1 0))), (3, .pointer (some (pt b2 0))), (4, .pointer (some (pt b3 0))), (9, .int .i64 a1.Kind), (27, .bool (a1.Kind == 1))]) (by kernel_rfl) (by kernel_rfl) ?_
    refine OJ.nil ?_
    refine SJ.cond (t := (.tmp 27)) (b := (a1.Kind == 1)) (by kernel_rfl) (by kernel_rfl) beq_iff_eq (fun hc383 => ?_) (fun hc383 => ?_)
    · refine SJ.skip (by kernel_rfl) ?_
      refine SJ.less [2, 3, 4, 9, 27] (m' := [(2, .pointer (some (pt b1 0))), (3, .pointer (some (pt b2 0))), (4, .pointer (some (pt b3 0))), (9, .int .i64 a1.Kind), (27, .bool (a1.Kind == 1))]) (by kernel_rfl) ?_
      exact weirlaw3_step.K1_ok a0 a1 b1 b2 b3 (a1.Kind == 1)
    · refine SJ.seq (by kernel_rfl) ?_
      refine SJ.region (id := 9) (by kernel_rfl) [0, 1] (by kernel_rfl) ?_
      refine OJ.run [0, 1] [] [2, 3, 4, 9, 27] (m2 := [(2, .pointer (some (pt b1 0))), (3, .pointer (some (pt b2 0))), (4, .pointer (some (pt b3 0))), (9, .int .i64 a1.Kind), (27, .bool (a1.Kind == 6))]) (by kernel_rfl) (by kernel_rfl) ?_
      refine OJ.nil ?_
      refine SJ.cond (t := (.tmp 27)) (b := (a1.Kind == 6)) (by kernel_rfl) (by kernel_rfl) beq_iff_eq (fun hc382 => ?_) (fun hc382 => ?_)
      · refine SJ.skip (by kernel_rfl) ?_
        refine SJ.less [2, 3, 4, 9, 27] (m' := [(2, .pointer (some (pt b1 0))), (3, .pointer (some (pt b2 0))), (4, .pointer (some (pt b3 0))), (9, .int .i64 a1.Kind), (27, .bool (a1.Kind == 6))]) (by kernel_rfl) ?_
        exact weirlaw3_step.K2_ok a0 a1 b1 b2 b3 (a1.Kind == 6)
      · refine SJ.seq (by kernel_rfl) ?_
        refine SJ.region (id := 10) (by kernel_rfl) [0, 1] (by kernel_rfl) ?_
        refine OJ.run [0, 1] [] [2, 3, 4, 9, 27] (m2 := [(2, .pointer (some (pt b1 0))), (3, .pointer (some (pt b2 0))), (4, .pointer (some (pt b3 0))), (9, .int .i64 a1.Kind), (27, .bool (a1.Kind == 7))]) (by kernel_rfl) (by kernel_rfl) ?_
        refine OJ.nil ?_
        refine SJ.cond (t := (.tmp 27)) (b := (a1.Kind == 7)) (by kernel_rfl) (by kernel_rfl) beq_iff_eq (fun hc381 => ?_) (fun hc381 => ?_)
        · refine SJ.skip (by kernel_rfl) ?_
          refine SJ.less [2, 3, 4, 9, 27] (m' := [(2, .pointer (some (pt b1 0))), (3, .pointer (some (pt b2 0))), (4, .pointer (some (pt b3 0))), (9, .int .i64 a1.Kind), (27, .bool (a1.Kind == 7))]) (by kernel_rfl) ?_
          exact weirlaw3_step.K3_ok a0 a1 b1 b2 b3 (a1.Kind == 7)
        · refine SJ.region (id := 11) (by kernel_rfl) [0, 1] (by kernel_rfl) ?_
          refine OJ.run [0, 1] [] [2, 3, 4, 9, 27] (m2 := [(2, .pointer (some (pt b1 0))), (3, .pointer (some (pt b2 0))), (4, .pointer (some (pt b3 0))), (9, .int .i64 a1.Kind), (27, .bool (a1.Kind == 8))]) (by kernel_rfl) (by kernel_rfl) ?_
          refine OJ.nil ?_
          refine SJ.less [2, 3, 4, 9, 27] (m' := [(2, .pointer (some (pt b1 0))), (3, .pointer (some (pt b2 0))), (4, .pointer (some (pt b3 0))), (9, .int .i64 a1.Kind), (27, .bool (a1.Kind == 8))]) (by kernel_rfl) ?_
          exact weirlaw3_step.K3_ok a0 a1 b1 b2 b3 (a1.Kind == 8)
noncomputable def weirlaw3_step.K5 (a0 : weirlaw3_Side) (a1 : weirlaw3_Op) (j385 : Bool) : M (weirlaw3_Side × Bool) :=
  weirlaw3_step.K4 a0 a1 j385
theorem weirlaw3_step.K5_ok (a0 : weirlaw3_Side) (a1 : weirlaw3_Op) (b1 : Nat) (b2 : Nat) (b3 : Nat) (j385 : Bool) :
    SJ weirlaw3_step.cx [.code (c2 (c2 (c2 (c1 (c2 (c1 (c2 weirlaw3_step.B))))))), .inBlock 0, .code (c2 (c2 weirlaw3_step.B))] [(2, .pointer (some (pt b1 0))), (3, .pointer (some (pt b2 0))), (4, .pointer (some (pt b3 0))), (9, .int .i64 a1.Kind), (18, .bool j385)] [(b3, c_weirlaw3_Side.enc z_weirlaw3_Side), (b2, c_weirlaw3_Op.enc a1), (b1, c_weirlaw3_Side.enc a0)] (weirlaw3_step.K5 a0 a1 j385) weirlaw3_step.F0 := by
  unfold weirlaw3_step.K5
  refine SJ.less [2, 3, 4, 9, 18] (m' := [(2, .pointer (some (pt b1 0))), (3, .pointer (some (pt b2 0))), (4, .pointer (some (pt b3 0))), (9, .int .i64 a1.Kind), (18, .bool j385)]) (by kernel_rfl) ?_
  exact weirlaw3_step.K4_ok a0 a1 b1 b2 b3 j385
noncomputable def weirlaw3_step (a0 : weirlaw3_Side) (a1 : weirlaw3_Op) : M (weirlaw3_Side × Bool) :=
  slot 62 >>= fun b1 =>
  slot 45 >>= fun b2 =>
  slot 62 >>= fun b3 =>
  if a1.Kind = 2 then
    weirlaw3_arrived a0 a1.B >>= fun r196 =>
    pure (r196.1, r196.2)
  else
    if a1.Kind = 3 then
      weirlaw3_step.K4 a0 a1 (a1.Kind == 3)
    else
      if a1.Kind = 4 then
        weirlaw3_step.K5 a0 a1 (a1.Kind == 4)
      else
        weirlaw3_step.K5 a0 a1 (a1.Kind == 5)
theorem weirlaw3_step_ok (a0 : weirlaw3_Side) (a1 : weirlaw3_Op) : Ref Try.prog 50 [c_weirlaw3_Side.val a0, c_weirlaw3_Op.val a1] (weirlaw3_step a0 a1) weirlaw3_step.out := by
  refine Ref.of (cd := weirlaw3_step.B) Try.func50 (by kernel_rfl) (by kernel_rfl) ?_
  show SJ weirlaw3_step.cx [.code weirlaw3_step.B] [(0, c_weirlaw3_Side.val a0), (1, c_weirlaw3_Op.val a1)] [] (weirlaw3_step a0 a1) weirlaw3_step.F0
  unfold weirlaw3_step
  refine SJ.seq (by kernel_rfl) ?_
  refine SJ.region (id := 0) (by kernel_rfl) [0, 1, 2, 3] (by kernel_rfl) ?_
  refine OJ.slotOf (d := 2) (op := (.box 62 (.tmp 0))) (cd := c_weirlaw3_Side) (u := a0) (owed := []) (by kernel_rfl) (box_run (by kernel_rfl)) (by kernel_rfl) (by kernel_rfl) (by kernel_rfl) (fun b1 => ?_)
  refine OW.nil ?_
  refine OJ.slotOf (d := 3) (op := (.box 45 (.tmp 1))) (cd := c_weirlaw3_Op) (u := a1) (owed := []) (by kernel_rfl) (box_run (by kernel_rfl)) (by kernel_rfl) (by kernel_rfl) (by kernel_rfl) (fun b2 => ?_)
  refine OW.nil ?_
  refine OJ.slotOf (d := 4) (op := (.alloc 62)) (cd := c_weirlaw3_Side) (u := z_weirlaw3_Side) (owed := []) (by kernel_rfl) (alloc_run Ty62) (by kernel_rfl) (by kernel_rfl) (by kernel_rfl) (fun b3 => ?_)
  refine OW.nil ?_
  refine OJ.run [3] [] [2, 3, 4] (m2 := [(2, .pointer (some (pt b1 0))), (3, .pointer (some (pt b2 0))), (4, .pointer (some (pt b3 0)))]) (by kernel_rfl) (by kernel_rfl) ?_
  refine OJ.nil ?_
  refine SJ.seq (by kernel_rfl) ?_
  refine SJ.seq (by kernel_rfl) ?_
  refine SJ.region (id := 1) (by kernel_rfl) [0, 1] (by kernel_rfl) ?_
  refine OJ.run [0] [1] [2, 3, 4, 8] (m2 := [(2, .pointer (some (pt b1 0))), (3, .pointer (some (pt b2 0))), (4, .pointer (some (pt b3 0))), (8, .pointer (some (pt b2 0)))]) (by kernel_rfl) (by kernel_rfl) ?_
  refine OJ.kld (d := 9) (T := 3) (y := .tmp 8) (cd := (cI .i64)) (j := 1) (b := b2) (o := 0) a1.Kind (pend2 := []) (by kernel_rfl) (by kernel_rfl) Ty3 (by kernel_rfl) rfl (At_weirlaw3_Op_Kind a1) (by kernel_rfl) rfl ?_
  refine OJ.nil ?_
  refine SJ.block (id := 0) (by kernel_rfl) ?_
  refine SJ.seq (by kernel_rfl) ?_
  refine SJ.region (id := 2) (by kernel_rfl) [0, 1] (by kernel_rfl) ?_
  refine OJ.run [0, 1] [] [2, 3, 4, 9, 10] (m2 := [(2, .pointer (some (pt b1 0))), (3, .pointer (some (pt b2 0))), (4, .pointer (some (pt b3 0))), (9, .int .i64 a1.Kind), (10, .bool (a1.Kind == 2))]) (by kernel_rfl) (by kernel_rfl) ?_
  refine OJ.nil ?_
  refine SJ.cond (t := (.tmp 10)) (b := (a1.Kind == 2)) (by kernel_rfl) (by kernel_rfl) beq_iff_eq (fun hc388 => ?_) (fun hc388 => ?_)
  · refine SJ.seq (by kernel_rfl) ?_
    refine SJ.region (id := 3) (by kernel_rfl) [0, 1, 2, 3, 4, 5, 6, 7] (by kernel_rfl) ?_
    refine OJ.kld (d := 12) (T := 62) (y := .tmp 2) (cd := c_weirlaw3_Side) (j := 2) (b := b1) (o := 0) a0 (pend2 := []) (by kernel_rfl) (by kernel_rfl) Ty62 (by kernel_rfl) rfl (At.whole _) (by kernel_rfl) rfl ?_
    refine OJ.run [1] [2, 3, 4, 5, 6, 7] [4, 12, 13] (m2 := [(4, .pointer (some (pt b3 0))), (12, c_weirlaw3_Side.val a0), (13, .pointer (some (pt b2 4)))]) (by kernel_rfl) (by kernel_rfl) ?_
    refine OJ.kld (d := 14) (T := 22) (y := .tmp 13) (cd := cL) (j := 1) (b := b2) (o := 4) a1.B (pend2 := []) (by kernel_rfl) (by kernel_rfl) Ty22 (by kernel_rfl) rfl (At_weirlaw3_Op_B a1) (by kernel_rfl) rfl ?_
    refine OJ.call (d := 15) (g := 57) (ats := #[62, 22]) (args := [.tmp 12, .tmp 14]) (vals := [c_weirlaw3_Side.val a0, Sl.v a1.B]) (owed := []) (by kernel_rfl) F57 (by kernel_rfl) (weirlaw3_arrived_ok a0 a1.B) (by kernel_rfl) (by kernel_rfl) (by kernel_rfl) (fun r196 => ?_)
    refine OW.nil ?_
    refine OJ.run [4, 5] [6, 7] [4, 16, 17] (m2 := [(4, .pointer (some (pt b3 0))), (16, c_weirlaw3_Side.val r196.1), (17, .bool r196.2)]) (by kernel_rfl) (by kernel_rfl) ?_
    refine OJ.kst (T := 62) (y := .tmp 4) (z := .tmp 16) (cd := c_weirlaw3_Side) (u := r196.1) (j := 0) (b := b3) (o := 0) (c_weirlaw3_Side.enc r196.1) (h2 := [(b3, c_weirlaw3_Side.enc r196.1), (b2, c_weirlaw3_Op.enc a1), (b1, c_weirlaw3_Side.enc a0)]) (owed := []) (by kernel_rfl) (by kernel_rfl) (by kernel_rfl) Ty62 rfl (Upd.whole ((Cod.len _ _).trans (Cod.len _ _).symm)) (by kernel_rfl) (by kernel_rfl) rfl ?_
    refine OW.nil ?_
    refine OJ.run [7] [] [4, 5] (m2 := [(4, .pointer (some (pt b3 0))), (5, .bool r196.2)]) (by kernel_rfl) (by kernel_rfl) ?_
    refine OJ.nil ?_
    exact SJ.ret (by kernel_rfl) rfl (Res.run (ys := [c_weirlaw3_Side.val r196.1, .bool r196.2]) (.cell (j := 0) (b := b3) (cd := c_weirlaw3_Side) (q := r196.1) (by kernel_rfl) rfl Ty62 (At.whole _) (.tmp (by kernel_rfl) .nil)) rfl)
  · refine SJ.seq (by kernel_rfl) ?_
    refine SJ.seq (by kernel_rfl) ?_
    refine SJ.region (id := 4) (by kernel_rfl) [0, 1] (by kernel_rfl) ?_
    refine OJ.run [0, 1] [] [2, 3, 4, 9, 18] (m2 := [(2, .pointer (some (pt b1 0))), (3, .pointer (some (pt b2 0))), (4, .pointer (some (pt b3 0))), (9, .int .i64 a1.Kind), (18, .bool (a1.Kind == 3))]) (by kernel_rfl) (by kernel_rfl) ?_
    refine OJ.nil ?_
    refine SJ.cond (t := (.tmp 18)) (b := (a1.Kind == 3)) (by kernel_rfl) (by kernel_rfl) beq_iff_eq (fun hc387 => ?_) (fun hc387 => ?_)
    · refine SJ.skip (by kernel_rfl) ?_
      refine SJ.less [2, 3, 4, 9, 18] (m' := [(2, .pointer (some (pt b1 0))), (3, .pointer (some (pt b2 0))), (4, .pointer (some (pt b3 0))), (9, .int .i64 a1.Kind), (18, .bool (a1.Kind == 3))]) (by kernel_rfl) ?_
      exact weirlaw3_step.K4_ok a0 a1 b1 b2 b3 (a1.Kind == 3)
    · refine SJ.seq (by kernel_rfl) ?_
      refine SJ.region (id := 5) (by kernel_rfl) [0, 1] (by kernel_rfl) ?_
      refine OJ.run [0, 1] [] [2, 3, 4, 9, 18] (m2 := [(2, .pointer (some (pt b1 0))), (3, .pointer (some (pt b2 0))), (4, .pointer (some (pt b3 0))), (9, .int .i64 a1.Kind), (18, .bool (a1.Kind == 4))]) (by kernel_rfl) (by kernel_rfl) ?_
      refine OJ.nil ?_
      refine SJ.cond (t := (.tmp 18)) (b := (a1.Kind == 4)) (by kernel_rfl) (by kernel_rfl) beq_iff_eq (fun hc386 => ?_) (fun hc386 => ?_)
      · refine SJ.skip (by kernel_rfl) ?_
        refine SJ.less [2, 3, 4, 9, 18] (m' := [(2, .pointer (some (pt b1 0))), (3, .pointer (some (pt b2 0))), (4, .pointer (some (pt b3 0))), (9, .int .i64 a1.Kind), (18, .bool (a1.Kind == 4))]) (by kernel_rfl) ?_
        exact weirlaw3_step.K5_ok a0 a1 b1 b2 b3 (a1.Kind == 4)
      · refine SJ.region (id := 6) (by kernel_rfl) [0, 1] (by kernel_rfl) ?_
        refine OJ.run [0, 1] [] [2, 3, 4, 9, 18] (m2 := [(2, .pointer (some (pt b1 0))), (3, .pointer (some (pt b2 0))), (4, .pointer (some (pt b3 0))), (9, .int .i64 a1.Kind), (18, .bool (a1.Kind == 5))]) (by kernel_rfl) (by kernel_rfl) ?_
        refine OJ.nil ?_
        refine SJ.less [2, 3, 4, 9, 18] (m' := [(2, .pointer (some (pt b1 0))), (3, .pointer (some (pt b2 0))), (4, .pointer (some (pt b3 0))), (9, .int .i64 a1.Kind), (18, .bool (a1.Kind == 5))]) (by kernel_rfl) ?_
        exact weirlaw3_step.K5_ok a0 a1 b1 b2 b3 (a1.Kind == 5)

/-! ### weir/weirlaw3.started: function 29 -/
noncomputable def weirlaw3_started.B : Code := (Try.f29.body).getD .skip
noncomputable def weirlaw3_started.cx : Fx := ⟨Try.prog, 29, Try.f29⟩
noncomputable def weirlaw3_started.out (r_ : Bool) : Value := .bool r_
noncomputable def weirlaw3_started.F0 (r_ : Bool) : Reach := .ret (weirlaw3_started.out r_)
noncomputable def weirlaw3_started.K1 (s8 : Bool) (s10 : weirlaw3_Side) : M Bool :=
  (if s8 = true then
      pure ((s10.W.len : Int) == 1)
    else
      pure false) >>= fun y16 =>
  pure y16
theorem weirlaw3_started.K1_ok (b2 : Nat) (s8 : Bool) (s10 : weirlaw3_Side) :
    SJ weirlaw3_started.cx [.code (c2 (c2 (c2 (c2 weirlaw3_started.B))))] [(1, .pointer (some (pt b2 0))), (2, .bool s8)] [(b2, c_weirlaw3_Side.enc s10)] (weirlaw3_started.K1 s8 s10) weirlaw3_started.F0 := by
  unfold weirlaw3_started.K1
  refine SJ.seq (by kernel_rfl) ?_
  refine SJ.region (id := 7) (by kernel_rfl) [0, 1, 2, 3, 4, 5, 6, 7] (by kernel_rfl) ?_
  refine OJ.run [0, 1] [2, 3, 4, 5, 6, 7] [1, 38] (m2 := [(1, .pointer (some (pt b2 0))), (38, .bool s8)]) (by kernel_rfl) (by kernel_rfl) ?_
  refine OJ.join (b := s8) [2, 3, 4, 5, 6] [7] [43] (fun y16 => [(43, .bool y16)]) [] [] (by kernel_rfl) (t := 38) (by kernel_rfl) Iff.rfl (fun hp_ => ?_) (fun hp_ => ?_) (by kernel_rfl) (fun _ _ _ _ _ _ h_ => h_) (fun y16 => ?_)
  · refine OJ.run [2] [3, 4, 5, 6] [38, 39] (m2 := [(38, .bool true), (39, .pointer (some (pt b2 6)))]) (by kernel_rfl) (by kernel_rfl) ?_
    refine OJ.kld (d := 40) (T := 60) (y := .tmp 39) (cd := cL) (j := 0) (b := b2) (o := 6) s10.W (pend2 := []) (by kernel_rfl) (by kernel_rfl) Ty60 (by kernel_rfl) rfl (At_weirlaw3_Side_W s10) (by kernel_rfl) rfl ?_
    refine OJ.run [4, 5, 6] [] [43] (m2 := [(43, .bool ((s10.W.len : Int) == 1))]) (by kernel_rfl) (by kernel_rfl) ?_
    exact OJ.nil ⟨(Cov.mem Cov.nil), rfl, _, rfl, by kernel_rfl⟩
  · refine OJ.run [2, 3, 4, 5, 6] [] [43] (m2 := [(43, .bool false)]) (by kernel_rfl) (by kernel_rfl) ?_
    exact OJ.nil ⟨(Cov.mem Cov.nil), rfl, _, rfl, by kernel_rfl⟩
  · refine OJ.run [7] [] [0] (m2 := [(0, .bool y16)]) (by kernel_rfl) (by kernel_rfl) ?_
    refine OJ.nil ?_
    exact SJ.ret (by kernel_rfl) rfl (Res.run (ys := [.bool y16]) (.tmp (by kernel_rfl) .nil) rfl)
noncomputable def weirlaw3_started.F1 (b2 : Nat) (r4 : Sl) (r6 : Sl) (b7 : Nat) : (LS (Bool × Int × weirlaw3_Side) Bool) → Reach := loopF [.inLoop (c1 (c1 (c2 (c1 (c2 (c2 (c2 weirlaw3_started.B))))))), .inBlock 0, .code (c2 (c2 (c2 (c2 weirlaw3_started.B))))] (fun s_ : (Bool × Int × weirlaw3_Side) => [(1, .pointer (some (pt b2 0))), (2, .bool s_.1), (3, .pointer (some (pt b7 0))), (4, .int .i64 s_.2.1)]) (fun s_ : (Bool × Int × weirlaw3_Side) => [(b7, (c_weirlaw3_Op.arr 8).enc (⟨[(⟨1, z_weirlaw3_Op.Two, z_weirlaw3_Op.I, 1, z_weirlaw3_Op.B⟩ : weirlaw3_Op), (⟨2, z_weirlaw3_Op.Two, z_weirlaw3_Op.I, z_weirlaw3_Op.N, r4⟩ : weirlaw3_Op), (⟨3, z_weirlaw3_Op.Two, z_weirlaw3_Op.I, z_weirlaw3_Op.N, z_weirlaw3_Op.B⟩ : weirlaw3_Op), (⟨10, z_weirlaw3_Op.Two, z_weirlaw3_Op.I, z_weirlaw3_Op.N, r6⟩ : weirlaw3_Op), (⟨7, z_weirlaw3_Op.Two, z_weirlaw3_Op.I, 3, z_weirlaw3_Op.B⟩ : weirlaw3_Op), (⟨11, z_weirlaw3_Op.Two, z_weirlaw3_Op.I, z_weirlaw3_Op.N, z_weirlaw3_Op.B⟩ : weirlaw3_Op), (⟨9, z_weirlaw3_Op.Two, z_weirlaw3_Op.I, z_weirlaw3_Op.N, z_weirlaw3_Op.B⟩ : weirlaw3_Op), (⟨8, z_weirlaw3_Op.Two, z_weirlaw3_Op.I, z_weirlaw3_Op.N, z_weirlaw3_Op.B⟩ : weirlaw3_Op)], rfl⟩ : (Vec weirlaw3_Op 8))), (b2, c_weirlaw3_Side.enc s_.2.2)]) weirlaw3_started.F0
noncomputable def weirlaw3_started.L1 (r4 : Sl) (r6 : Sl) (s8 : Bool) (s9 : Int) (s10 : weirlaw3_Side) : M (LS (Bool × Int × weirlaw3_Side) Bool) :=
  (if s9 < 8 then
      pure s8
    else
      pure false) >>= fun y17 =>
  if y17 = true then
    draw >>= fun _ =>
    chk (0 ≤ s9 ∧ s9 < (8 : Nat)) >>= fun _ =>
    weirlaw3_step s10 (Vec.g (⟨[(⟨1, z_weirlaw3_Op.Two, z_weirlaw3_Op.I, 1, z_weirlaw3_Op.B⟩ : weirlaw3_Op), (⟨2, z_weirlaw3_Op.Two, z_weirlaw3_Op.I, z_weirlaw3_Op.N, r4⟩ : weirlaw3_Op), (⟨3, z_weirlaw3_Op.Two, z_weirlaw3_Op.I, z_weirlaw3_Op.N, z_weirlaw3_Op.B⟩ : weirlaw3_Op), (⟨10, z_weirlaw3_Op.Two, z_weirlaw3_Op.I, z_weirlaw3_Op.N, r6⟩ : weirlaw3_Op), (⟨7, z_weirlaw3_Op.Two, z_weirlaw3_Op.I, 3, z_weirlaw3_Op.B⟩ : weirlaw3_Op), (⟨11, z_weirlaw3_Op.Two, z_weirlaw3_Op.I, z_weirlaw3_Op.N, z_weirlaw3_Op.B⟩ : weirlaw3_Op), (⟨9, z_weirlaw3_Op.Two, z_weirlaw3_Op.I, z_weirlaw3_Op.N, z_weirlaw3_Op.B⟩ : weirlaw3_Op), (⟨8, z_weirlaw3_Op.Two, z_weirlaw3_Op.I, z_weirlaw3_Op.N, z_weirlaw3_Op.B⟩ : weirlaw3_Op)], rfl⟩ : (Vec weirlaw3_Op 8)) s9 z_weirlaw3_Op) >>= fun r20 =>
    pure (LS.next (r20.2, IntKind.wrap .i64 (s9 + 1), r20.1))
  else
    (weirlaw3_started.K1 s8 s10) >>= fun b => pure (LS.done b)
theorem weirlaw3_started.L1_ok (b2 : Nat) (r4 : Sl) (r6 : Sl) (b7 : Nat) (s8 : Bool) (s9 : Int) (s10 : weirlaw3_Side) :
    SJ weirlaw3_started.cx [.code (c1 (c1 (c2 (c1 (c2 (c2 (c2 weirlaw3_started.B))))))), .inLoop (c1 (c1 (c2 (c1 (c2 (c2 (c2 weirlaw3_started.B))))))), .inBlock 0, .code (c2 (c2 (c2 (c2 weirlaw3_started.B))))] [(1, .pointer (some (pt b2 0))), (2, .bool s8), (3, .pointer (some (pt b7 0))), (4, .int .i64 s9)] [(b7, (c_weirlaw3_Op.arr 8).enc (⟨[(⟨1, z_weirlaw3_Op.Two, z_weirlaw3_Op.I, 1, z_weirlaw3_Op.B⟩ : weirlaw3_Op), (⟨2, z_weirlaw3_Op.Two, z_weirlaw3_Op.I, z_weirlaw3_Op.N, r4⟩ : weirlaw3_Op), (⟨3, z_weirlaw3_Op.Two, z_weirlaw3_Op.I, z_weirlaw3_Op.N, z_weirlaw3_Op.B⟩ : weirlaw3_Op), (⟨10, z_weirlaw3_Op.Two, z_weirlaw3_Op.I, z_weirlaw3_Op.N, r6⟩ : weirlaw3_Op), (⟨7, z_weirlaw3_Op.Two, z_weirlaw3_Op.I, 3, z_weirlaw3_Op.B⟩ : weirlaw3_Op), (⟨11, z_weirlaw3_Op.Two, z_weirlaw3_Op.I, z_weirlaw3_Op.N, z_weirlaw3_Op.B⟩ : weirlaw3_Op), (⟨9, z_weirlaw3_Op.Two, z_weirlaw3_Op.I, z_weirlaw3_Op.N, z_weirlaw3_Op.B⟩ : weirlaw3_Op), (⟨8, z_weirlaw3_Op.Two, z_weirlaw3_Op.I, z_weirlaw3_Op.N, z_weirlaw3_Op.B⟩ : weirlaw3_Op)], rfl⟩ : (Vec weirlaw3_Op 8))), (b2, c_weirlaw3_Side.enc s10)] (weirlaw3_started.L1 r4 r6 s8 s9 s10) (weirlaw3_started.F1 b2 r4 r6 b7) := by
  unfold weirlaw3_started.L1
  refine SJ.seq (by kernel_rfl) ?_
  refine SJ.seq (by kernel_rfl) ?_
  refine SJ.region (id := 4) (by kernel_rfl) [0, 1, 2, 3, 4] (by kernel_rfl) ?_
  refine OJ.run [0, 1, 2] [3, 4] [1, 2, 3, 4, 24] (m2 := [(1, .pointer (some (pt b2 0))), (2, .bool s8), (3, .pointer (some (pt b7 0))), (4, .int .i64 s9), (24, .bool (decide (s9 < 8)))]) (by kernel_rfl) (by kernel_rfl) ?_
  refine OJ.join (b := decide (s9 < 8)) [3, 4] [] [1, 2, 3, 4, 26] (fun y17 => [(1, .pointer (some (pt b2 0))), (2, .bool s8), (3, .pointer (some (pt b7 0))), (4, .int .i64 s9), (26, .bool y17)]) [] [] (by kernel_rfl) (t := 24) (by kernel_rfl) decide_eq_true_iff (fun hp_ => ?_) (fun hp_ => ?_) (by kernel_rfl) (fun _ _ _ _ _ _ h_ => h_) (fun y17 => ?_)
  · refine OJ.run [3, 4] [] [1, 2, 3, 4, 26] (m2 := [(1, .pointer (some (pt b2 0))), (2, .bool s8), (3, .pointer (some (pt b7 0))), (4, .int .i64 s9), (26, .bool s8)]) (by kernel_rfl) (by kernel_rfl) ?_
    exact OJ.nil ⟨(Cov.mem Cov.nil), rfl, _, rfl, by kernel_rfl⟩
  · refine OJ.run [3, 4] [] [1, 2, 3, 4, 26] (m2 := [(1, .pointer (some (pt b2 0))), (2, .bool s8), (3, .pointer (some (pt b7 0))), (4, .int .i64 s9), (26, .bool false)]) (by kernel_rfl) (by kernel_rfl) ?_
    exact OJ.nil ⟨(Cov.mem Cov.nil), rfl, _, rfl, by kernel_rfl⟩
  · refine OJ.nil ?_
    refine SJ.cond (t := (.tmp 26)) (b := y17) (by kernel_rfl) (by kernel_rfl) Iff.rfl (fun hc21 => ?_) (fun hc21 => ?_)
    · refine SJ.skip (by kernel_rfl) ?_
      refine SJ.seq (by kernel_rfl) ?_
      refine SJ.block (id := 1) (by kernel_rfl) ?_
      refine SJ.draw (id := 6) (kd := [1, 0, 0, 1, 2, 0, 0, 0, 2, 0]) (bef := [0, 0, 2, 6, 15, 31, 63, 63, 127, 511]) (ord := [0, 1, 2, 3, 4, 5, 6, 7, 8, 9]) (by kernel_rfl) mixed (by kernel_rfl) ?_
      refine OJ.kld (d := 30) (T := 62) (y := .tmp 1) (cd := c_weirlaw3_Side) (j := 1) (b := b2) (o := 0) s10 (pend2 := [⟨0, 62, (pt b2 0), c_weirlaw3_Side.val s10⟩]) (by kernel_rfl) (by kernel_rfl) Ty62 (by kernel_rfl) rfl (At.whole _) (by kernel_rfl) rfl ?_
      refine OJ.run [1] [2, 3, 4, 5, 6, 7, 8, 9] [1, 2, 3, 4, 30, 31] (m2 := [(1, .pointer (some (pt b2 0))), (2, .bool s8), (3, .pointer (some (pt b7 0))), (4, .int .i64 s9), (30, c_weirlaw3_Side.val s10), (31, .int .i64 s9)]) (by kernel_rfl) (by kernel_rfl) ?_
      refine OJ.idxK (d := 32) (T := 96) (y := .tmp 3) (j := .tmp 31) (E := 45) (sz := 5) (b := b7) (o := 0) (k := .i64) (by kernel_rfl) (by kernel_rfl) (by kernel_rfl) (by kernel_rfl) (by kernel_rfl) (by kernel_rfl) (by kernel_rfl) (by kernel_rfl) (fun hb18 hb19 => ?_)
      refine OJ.kld (d := 33) (T := 45) (y := .tmp 32) (cd := c_weirlaw3_Op) (j := 0) (b := b7) (o := (0 + s9.toNat * 5)) (Vec.g (⟨[(⟨1, z_weirlaw3_Op.Two, z_weirlaw3_Op.I, 1, z_weirlaw3_Op.B⟩ : weirlaw3_Op), (⟨2, z_weirlaw3_Op.Two, z_weirlaw3_Op.I, z_weirlaw3_Op.N, r4⟩ : weirlaw3_Op), (⟨3, z_weirlaw3_Op.Two, z_weirlaw3_Op.I, z_weirlaw3_Op.N, z_weirlaw3_Op.B⟩ : weirlaw3_Op), (⟨10, z_weirlaw3_Op.Two, z_weirlaw3_Op.I, z_weirlaw3_Op.N, r6⟩ : weirlaw3_Op), (⟨7, z_weirlaw3_Op.Two, z_weirlaw3_Op.I, 3, z_weirlaw3_Op.B⟩ : weirlaw3_Op), (⟨11, z_weirlaw3_Op.Two, z_weirlaw3_Op.I, z_weirlaw3_Op.N, z_weirlaw3_Op.B⟩ : weirlaw3_Op), (⟨9, z_weirlaw3_Op.Two, z_weirlaw3_Op.I, z_weirlaw3_Op.N, z_weirlaw3_Op.B⟩ : weirlaw3_Op), (⟨8, z_weirlaw3_Op.Two, z_weirlaw3_Op.I, z_weirlaw3_Op.N, z_weirlaw3_Op.B⟩ : weirlaw3_Op)], rfl⟩ : (Vec weirlaw3_Op 8)) s9 z_weirlaw3_Op) (pend2 := [⟨3, 45, (pt b7 (0 + s9.toNat * 5)), c_weirlaw3_Op.val (Vec.g (⟨[(⟨1, z_weirlaw3_Op.Two, z_weirlaw3_Op.I, 1, z_weirlaw3_Op.B⟩ : weirlaw3_Op), (⟨2, z_weirlaw3_Op.Two, z_weirlaw3_Op.I, z_weirlaw3_Op.N, r4⟩ : weirlaw3_Op), (⟨3, z_weirlaw3_Op.Two, z_weirlaw3_Op.I, z_weirlaw3_Op.N, z_weirlaw3_Op.B⟩ : weirlaw3_Op), (⟨10, z_weirlaw3_Op.Two, z_weirlaw3_Op.I, z_weirlaw3_Op.N, r6⟩ : weirlaw3_Op), (⟨7, z_weirlaw3_Op.Two, z_weirlaw3_Op.I, 3, z_weirlaw3_Op.B⟩ : weirlaw3_Op), (⟨11, z_weirlaw3_Op.Two, z_weirlaw3_Op.I, z_weirlaw3_Op.N, z_weirlaw3_Op.B⟩ : weirlaw3_Op), (⟨9, z_weirlaw3_Op.Two, z_weirlaw3_Op.I, z_weirlaw3_Op.N, z_weirlaw3_Op.B⟩ : weirlaw3_Op), (⟨8, z_weirlaw3_Op.Two, z_weirlaw3_Op.I, z_weirlaw3_Op.N, z_weirlaw3_Op.B⟩ : weirlaw3_Op)], rfl⟩ : (Vec weirlaw3_Op 8)) s9 z_weirlaw3_Op)⟩, ⟨0, 62, (pt b2 0), c_weirlaw3_Side.val s10⟩]) (by kernel_rfl) (by kernel_rfl) Ty45 (by kernel_rfl) rfl (At.zero (At.arr (z := z_weirlaw3_Op) hb18 hb19)) (by kernel_rfl) rfl ?_
      refine OJ.call (d := 34) (g := 50) (ats := #[62, 45]) (args := [.tmp 30, .tmp 33]) (vals := [c_weirlaw3_Side.val s10, c_weirlaw3_Op.val (Vec.g (⟨[(⟨1, z_weirlaw3_Op.Two, z_weirlaw3_Op.I, 1, z_weirlaw3_Op.B⟩ : weirlaw3_Op), (⟨2, z_weirlaw3_Op.Two, z_weirlaw3_Op.I, z_weirlaw3_Op.N, r4⟩ : weirlaw3_Op), (⟨3, z_weirlaw3_Op.Two, z_weirlaw3_Op.I, z_weirlaw3_Op.N, z_weirlaw3_Op.B⟩ : weirlaw3_Op), (⟨10, z_weirlaw3_Op.Two, z_weirlaw3_Op.I, z_weirlaw3_Op.N, r6⟩ : weirlaw3_Op), (⟨7, z_weirlaw3_Op.Two, z_weirlaw3_Op.I, 3, z_weirlaw3_Op.B⟩ : weirlaw3_Op), (⟨11, z_weirlaw3_Op.Two, z_weirlaw3_Op.I, z_weirlaw3_Op.N, z_weirlaw3_Op.B⟩ : weirlaw3_Op), (⟨9, z_weirlaw3_Op.Two, z_weirlaw3_Op.I, z_weirlaw3_Op.N, z_weirlaw3_Op.B⟩ : weirlaw3_Op), (⟨8, z_weirlaw3_Op.Two, z_weirlaw3_Op.I, z_weirlaw3_Op.N, z_weirlaw3_Op.B⟩ : weirlaw3_Op)], rfl⟩ : (Vec weirlaw3_Op 8)) s9 z_weirlaw3_Op)]) (owed := []) (by kernel_rfl) F50 (by kernel_rfl) (weirlaw3_step_ok s10 (Vec.g (⟨[(⟨1, z_weirlaw3_Op.Two, z_weirlaw3_Op.I, 1, z_weirlaw3_Op.B⟩ : weirlaw3_Op), (⟨2, z_weirlaw3_Op.Two, z_weirlaw3_Op.I, z_weirlaw3_Op.N, r4⟩ : weirlaw3_Op), (⟨3, z_weirlaw3_Op.Two, z_weirlaw3_Op.I, z_weirlaw3_Op.N, z_weirlaw3_Op.B⟩ : weirlaw3_Op), (⟨10, z_weirlaw3_Op.Two, z_weirlaw3_Op.I, z_weirlaw3_Op.N, r6⟩ : weirlaw3_Op), (⟨7, z_weirlaw3_Op.Two, z_weirlaw3_Op.I, 3, z_weirlaw3_Op.B⟩ : weirlaw3_Op), (⟨11, z_weirlaw3_Op.Two, z_weirlaw3_Op.I, z_weirlaw3_Op.N, z_weirlaw3_Op.B⟩ : weirlaw3_Op), (⟨9, z_weirlaw3_Op.Two, z_weirlaw3_Op.I, z_weirlaw3_Op.N, z_weirlaw3_Op.B⟩ : weirlaw3_Op), (⟨8, z_weirlaw3_Op.Two, z_weirlaw3_Op.I, z_weirlaw3_Op.N, z_weirlaw3_Op.B⟩ : weirlaw3_Op)], rfl⟩ : (Vec weirlaw3_Op 8)) s9 z_weirlaw3_Op)) (by kernel_rfl) (by kernel_rfl) (by kernel_rfl) (fun r20 => ?_)
      refine OW.nil ?_
      refine OJ.run [5, 6, 7] [8, 9] [1, 2, 3, 4, 35, 36] (m2 := [(1, .pointer (some (pt b2 0))), (2, .bool s8), (3, .pointer (some (pt b7 0))), (4, .int .i64 s9), (35, c_weirlaw3_Side.val r20.1), (36, .bool r20.2)]) (by kernel_rfl) (by kernel_rfl) ?_
      refine OJ.kst (T := 62) (y := .tmp 1) (z := .tmp 35) (cd := c_weirlaw3_Side) (u := r20.1) (j := 1) (b := b2) (o := 0) (c_weirlaw3_Side.enc r20.1) (h2 := [(b7, (c_weirlaw3_Op.arr 8).enc (⟨[(⟨1, z_weirlaw3_Op.Two, z_weirlaw3_Op.I, 1, z_weirlaw3_Op.B⟩ : weirlaw3_Op), (⟨2, z_weirlaw3_Op.Two, z_weirlaw3_Op.I, z_weirlaw3_Op.N, r4⟩ : weirlaw3_Op), (⟨3, z_weirlaw3_Op.Two, z_weirlaw3_Op.I, z_weirlaw3_Op.N, z_weirlaw3_Op.B⟩ : weirlaw3_Op), (⟨10, z_weirlaw3_Op.Two, z_weirlaw3_Op.I, z_weirlaw3_Op.N, r6⟩ : weirlaw3_Op), (⟨7, z_weirlaw3_Op.Two, z_weirlaw3_Op.I, 3, z_weirlaw3_Op.B⟩ : weirlaw3_Op), (⟨11, z_weirlaw3_Op.Two, z_weirlaw3_Op.I, z_weirlaw3_Op.N, z_weirlaw3_Op.B⟩ : weirlaw3_Op), (⟨9, z_weirlaw3_Op.Two, z_weirlaw3_Op.I, z_weirlaw3_Op.N, z_weirlaw3_Op.B⟩ : weirlaw3_Op), (⟨8, z_weirlaw3_Op.Two, z_weirlaw3_Op.I, z_weirlaw3_Op.N, z_weirlaw3_Op.B⟩ : weirlaw3_Op)], rfl⟩ : (Vec weirlaw3_Op 8))), (b2, c_weirlaw3_Side.enc r20.1)]) (owed := []) (by kernel_rfl) (by kernel_rfl) (by kernel_rfl) Ty62 rfl (Upd.whole ((Cod.len _ _).trans (Cod.len _ _).symm)) (by kernel_rfl) (by kernel_rfl) rfl ?_
      refine OW.nil ?_
      refine OJ.run [9] [] [1, 2, 3, 4] (m2 := [(1, .pointer (some (pt b2 0))), (2, .bool r20.2), (3, .pointer (some (pt b7 0))), (4, .int .i64 s9)]) (by kernel_rfl) (by kernel_rfl) ?_
      refine OJ.nil ?_
      refine SJ.inBlock ?_
      refine SJ.region (id := 5) (by kernel_rfl) [0, 1, 2] (by kernel_rfl) ?_
      refine OJ.run [0, 1, 2] [] [1, 2, 3, 4] (m2 := [(1, .pointer (some (pt b2 0))), (2, .bool r20.2), (3, .pointer (some (pt b7 0))), (4, .int .i64 (IntKind.wrap .i64 (s9 + 1)))]) (by kernel_rfl) (by kernel_rfl) ?_
      refine OJ.nil ?_
      exact SJ.at_ [1, 2, 3, 4] rfl (by kernel_rfl)
    · refine SJ.exit (id := 0) (by kernel_rfl) (by rfl) ?_
      refine SJ.forget (List.Sublist.cons _ (List.Sublist.cons_cons _ List.Sublist.slnil)) ?_
      refine SJ.less [1, 2] (m' := [(1, .pointer (some (pt b2 0))), (2, .bool s8)]) (by kernel_rfl) ?_
      refine SJ.done ?_
      exact weirlaw3_started.K1_ok b2 s8 s10
noncomputable def weirlaw3_started  : M Bool :=
  weirlaw3_made 1 1 2 64 >>= fun r1 =>
  slot 62 >>= fun b2 =>
  newv 5 ((cI .u8).arr 3) (⟨[97, 98, 99], rfl⟩ : Vec Int 3) >>= fun b3 =>
  markS (⟨some (pt b3 0), 3, 3⟩ : Sl) >>= fun r4 =>
  newv 5 ((cI .u8).arr 1) (⟨[122], rfl⟩ : Vec Int 1) >>= fun b5 =>
  markS (⟨some (pt b5 0), 1, 1⟩ : Sl) >>= fun r6 =>
  slot 96 >>= fun b7 =>
  loopM (fun s_ : (Bool × Int × weirlaw3_Side) => weirlaw3_started.L1 r4 r6 s_.1 s_.2.1 s_.2.2) (r1.2, 0, r1.1)
theorem weirlaw3_started_ok  : Ref Try.prog 29 [] (weirlaw3_started) weirlaw3_started.out := by
  refine Ref.of (cd := weirlaw3_started.B) Try.func29 (by kernel_rfl) (by kernel_rfl) ?_
  show SJ weirlaw3_started.cx [.code weirlaw3_started.B] [] [] (weirlaw3_started) weirlaw3_started.F0
  unfold weirlaw3_started
  refine SJ.seq (by kernel_rfl) ?_
  refine SJ.region (id := 0) (by kernel_rfl) [0] (by kernel_rfl) ?_
  refine OJ.run [0] [] [] (m2 := []) (by kernel_rfl) (by kernel_rfl) ?_
  refine OJ.nil ?_
  refine SJ.seq (by kernel_rfl) ?_
  refine SJ.region (id := 1) (by kernel_rfl) [0, 1, 2, 3, 4, 5, 6] (by kernel_rfl) ?_
  refine OJ.call (d := 6) (g := 30) (ats := #[3, 3, 3, 3]) (args := [.const (.int .i64 1), .const (.int .i64 1), .const (.int .i64 2), .const (.int .i64 64)]) (vals := [.int .i64 1, .int .i64 1, .int .i64 2, .int .i64 64]) (owed := []) (by kernel_rfl) F30 (by kernel_rfl) (weirlaw3_made_ok 1 1 2 64) (by kernel_rfl) (by kernel_rfl) (by kernel_rfl) (fun r1 => ?_)
  refine OW.nil ?_
  refine OJ.run [1, 2, 3] [4, 5, 6] [7, 8] (m2 := [(7, c_weirlaw3_Side.val r1.1), (8, .bool r1.2)]) (by kernel_rfl) (by kernel_rfl) ?_
  refine OJ.slotOf (d := 1) (op := (.alloc 62)) (cd := c_weirlaw3_Side) (u := z_weirlaw3_Side) (owed := []) (by kernel_rfl) (alloc_run Ty62) (by kernel_rfl) (by kernel_rfl) (by kernel_rfl) (fun b2 => ?_)
  refine OW.nil ?_
  refine OJ.kst (T := 62) (y := .tmp 1) (z := .tmp 7) (cd := c_weirlaw3_Side) (u := r1.1) (j := 0) (b := b2) (o := 0) (c_weirlaw3_Side.enc r1.1) (h2 := [(b2, c_weirlaw3_Side.enc r1.1)]) (owed := []) (by kernel_rfl) (by kernel_rfl) (by kernel_rfl) Ty62 rfl (Upd.whole ((Cod.len _ _).trans (Cod.len _ _).symm)) (by kernel_rfl) (by kernel_rfl) rfl ?_
  refine OW.nil ?_
  refine OJ.run [6] [] [1, 2] (m2 := [(1, .pointer (some (pt b2 0))), (2, .bool r1.2)]) (by kernel_rfl) (by kernel_rfl) ?_
  refine OJ.nil ?_
  refine SJ.seq (by kernel_rfl) ?_
  refine SJ.region (id := 2) (by kernel_rfl) [0, 1, 2, 3, 4, 5, 6, 7, 8, 9, 10, 11, 12, 13, 14] (by kernel_rfl) ?_
  refine OJ.build (d := 9) (T := 45) (parts := [(0, .const (.int .i64 1)), (3, .const (.int .i64 1))]) (ps := [(0, (cI .i64).val 1), (3, (cI .i64).val 1)]) (cd := c_weirlaw3_Op) (z0 := z_weirlaw3_Op) (⟨1, z_weirlaw3_Op.Two, z_weirlaw3_Op.I, 1, z_weirlaw3_Op.B⟩ : weirlaw3_Op) (by kernel_rfl) (by kernel_rfl) Ty45 rfl (by kernel_rfl) (Filled.cons (cd := (cI .i64)) (q := 1) (o := 0) (by kernel_rfl) (Up_weirlaw3_Op_Kind z_weirlaw3_Op 1) (Filled.cons (cd := (cI .i64)) (q := 1) (o := 3) (by kernel_rfl) (Up_weirlaw3_Op_N (⟨1, z_weirlaw3_Op.Two, z_weirlaw3_Op.I, z_weirlaw3_Op.N, z_weirlaw3_Op.B⟩ : weirlaw3_Op) 1) Filled.nil)) (by kernel_rfl) (by kernel_rfl) (by kernel_rfl) ?_
  refine OJ.rowNew (d := 10) (t := 22) (parts := [(0, .const (.int .u8 97)), (1, .const (.int .u8 98)), (2, .const (.int .u8 99))]) (ps := [(0, (cI .u8).val 97), (1, (cI .u8).val 98), (2, (cI .u8).val 99)]) (cd := (cI .u8)) (owed := []) (by kernel_rfl) (by kernel_rfl) (by kernel_rfl) Ty5 (by kernel_rfl) (Filled.cons (cd := (cI .u8)) (q := 97) (o := 0) rfl (Upd.arr (i := 0) (by decide) (by decide)) (Filled.cons (cd := (cI .u8)) (q := 98) (o := 1) rfl (Upd.arr (i := 1) (by decide) (by decide)) (Filled.cons (cd := (cI .u8)) (q := 99) (o := 2) rfl (Upd.arr (i := 2) (by decide) (by decide)) Filled.nil))) (by kernel_rfl) (by kernel_rfl) (by kernel_rfl) (fun b3 => ?_)
  refine OW.nil ?_
  refine OJ.markS (d := 11) (t := 22) (E := 5) (x := .tmp 10) (owed := []) (by kernel_rfl) (by kernel_rfl) (by kernel_rfl) (by kernel_rfl) (by kernel_rfl) (by kernel_rfl) (by kernel_rfl) (fun r4 => ?_)
  refine OW.nil ?_
  refine OJ.build (d := 12) (T := 45) (parts := [(0, .const (.int .i64 2)), (4, .tmp 11)]) (ps := [(0, (cI .i64).val 2), (4, cL.val r4)]) (cd := c_weirlaw3_Op) (z0 := z_weirlaw3_Op) (⟨2, z_weirlaw3_Op.Two, z_weirlaw3_Op.I, z_weirlaw3_Op.N, r4⟩ : weirlaw3_Op) (by kernel_rfl) (by kernel_rfl) Ty45 rfl (by kernel_rfl) (Filled.cons (cd := (cI .i64)) (q := 2) (o := 0) (by kernel_rfl) (Up_weirlaw3_Op_Kind z_weirlaw3_Op 2) (Filled.cons (cd := cL) (q := r4) (o := 4) (by kernel_rfl) (Up_weirlaw3_Op_B (⟨2, z_weirlaw3_Op.Two, z_weirlaw3_Op.I, z_weirlaw3_Op.N, z_weirlaw3_Op.B⟩ : weirlaw3_Op) r4) Filled.nil)) (by kernel_rfl) (by kernel_rfl) (by kernel_rfl) ?_
  refine OJ.build (d := 13) (T := 45) (parts := [(0, .const (.int .i64 3))]) (ps := [(0, (cI .i64).val 3)]) (cd := c_weirlaw3_Op) (z0 := z_weirlaw3_Op) (⟨3, z_weirlaw3_Op.Two, z_weirlaw3_Op.I, z_weirlaw3_Op.N, z_weirlaw3_Op.B⟩ : weirlaw3_Op) (by kernel_rfl) (by kernel_rfl) Ty45 rfl (by kernel_rfl) (Filled.cons (cd := (cI .i64)) (q := 3) (o := 0) (by kernel_rfl) (Up_weirlaw3_Op_Kind z_weirlaw3_Op 3) Filled.nil) (by kernel_rfl) (by kernel_rfl) (by kernel_rfl) ?_
  refine OJ.rowNew (d := 14) (t := 22) (parts := [(0, .const (.int .u8 122))]) (ps := [(0, (cI .u8).val 122)]) (cd := (cI .u8)) (owed := []) (by kernel_rfl) (by kernel_rfl) (by kernel_rfl) Ty5 (by kernel_rfl) (Filled.cons (cd := (cI .u8)) (q := 122) (o := 0) rfl (Upd.arr (i := 0) (by decide) (by decide)) Filled.nil) (by kernel_rfl) (by kernel_rfl) (by kernel_rfl) (fun b5 => ?_)
  refine OW.nil ?_
  refine OJ.markS (d := 15) (t := 22) (E := 5) (x := .tmp 14) (owed := []) (by kernel_rfl) (by kernel_rfl) (by kernel_rfl) (by kernel_rfl) (by kernel_rfl) (by kernel_rfl) (by kernel_rfl) (fun r6 => ?_)
  refine OW.nil ?_
  refine OJ.build (d := 16) (T := 45) (parts := [(0, .const (.int .i64 10)), (4, .tmp 15)]) (ps := [(0, (cI .i64).val 10), (4, cL.val r6)]) (cd := c_weirlaw3_Op) (z0 := z_weirlaw3_Op) (⟨10, z_weirlaw3_Op.Two, z_weirlaw3_Op.I, z_weirlaw3_Op.N, r6⟩ : weirlaw3_Op) (by kernel_rfl) (by kernel_rfl) Ty45 rfl (by kernel_rfl) (Filled.cons (cd := (cI .i64)) (q := 10) (o := 0) (by kernel_rfl) (Up_weirlaw3_Op_Kind z_weirlaw3_Op 10) (Filled.cons (cd := cL) (q := r6) (o := 4) (by kernel_rfl) (Up_weirlaw3_Op_B (⟨10, z_weirlaw3_Op.Two, z_weirlaw3_Op.I, z_weirlaw3_Op.N, z_weirlaw3_Op.B⟩ : weirlaw3_Op) r6) Filled.nil)) (by kernel_rfl) (by kernel_rfl) (by kernel_rfl) ?_
  refine OJ.build (d := 17) (T := 45) (parts := [(0, .const (.int .i64 7)), (3, .const (.int .i64 3))]) (ps := [(0, (cI .i64).val 7), (3, (cI .i64).val 3)]) (cd := c_weirlaw3_Op) (z0 := z_weirlaw3_Op) (⟨7, z_weirlaw3_Op.Two, z_weirlaw3_Op.I, 3, z_weirlaw3_Op.B⟩ : weirlaw3_Op) (by kernel_rfl) (by kernel_rfl) Ty45 rfl (by kernel_rfl) (Filled.cons (cd := (cI .i64)) (q := 7) (o := 0) (by kernel_rfl) (Up_weirlaw3_Op_Kind z_weirlaw3_Op 7) (Filled.cons (cd := (cI .i64)) (q := 3) (o := 3) (by kernel_rfl) (Up_weirlaw3_Op_N (⟨7, z_weirlaw3_Op.Two, z_weirlaw3_Op.I, z_weirlaw3_Op.N, z_weirlaw3_Op.B⟩ : weirlaw3_Op) 3) Filled.nil)) (by kernel_rfl) (by kernel_rfl) (by kernel_rfl) ?_
  refine OJ.build (d := 18) (T := 45) (parts := [(0, .const (.int .i64 11))]) (ps := [(0, (cI .i64).val 11)]) (cd := c_weirlaw3_Op) (z0 := z_weirlaw3_Op) (⟨11, z_weirlaw3_Op.Two, z_weirlaw3_Op.I, z_weirlaw3_Op.N, z_weirlaw3_Op.B⟩ : weirlaw3_Op) (by kernel_rfl) (by kernel_rfl) Ty45 rfl (by kernel_rfl) (Filled.cons (cd := (cI .i64)) (q := 11) (o := 0) (by kernel_rfl) (Up_weirlaw3_Op_Kind z_weirlaw3_Op 11) Filled.nil) (by kernel_rfl) (by kernel_rfl) (by kernel_rfl) ?_
  refine OJ.build (d := 19) (T := 45) (parts := [(0, .const (.int .i64 9))]) (ps := [(0, (cI .i64).val 9)]) (cd := c_weirlaw3_Op) (z0 := z_weirlaw3_Op) (⟨9, z_weirlaw3_Op.Two, z_weirlaw3_Op.I, z_weirlaw3_Op.N, z_weirlaw3_Op.B⟩ : weirlaw3_Op) (by kernel_rfl) (by kernel_rfl) Ty45 rfl (by kernel_rfl) (Filled.cons (cd := (cI .i64)) (q := 9) (o := 0) (by kernel_rfl) (Up_weirlaw3_Op_Kind z_weirlaw3_Op 9) Filled.nil) (by kernel_rfl) (by kernel_rfl) (by kernel_rfl) ?_
  refine OJ.build (d := 20) (T := 45) (parts := [(0, .const (.int .i64 8))]) (ps := [(0, (cI .i64).val 8)]) (cd := c_weirlaw3_Op) (z0 := z_weirlaw3_Op) (⟨8, z_weirlaw3_Op.Two, z_weirlaw3_Op.I, z_weirlaw3_Op.N, z_weirlaw3_Op.B⟩ : weirlaw3_Op) (by kernel_rfl) (by kernel_rfl) Ty45 rfl (by kernel_rfl) (Filled.cons (cd := (cI .i64)) (q := 8) (o := 0) (by kernel_rfl) (Up_weirlaw3_Op_Kind z_weirlaw3_Op 8) Filled.nil) (by kernel_rfl) (by kernel_rfl) (by kernel_rfl) ?_
  refine OJ.build (d := 21) (T := 96) (parts := [(0, .tmp 9), (1, .tmp 12), (2, .tmp 13), (3, .tmp 16), (4, .tmp 17), (5, .tmp 18), (6, .tmp 19), (7, .tmp 20)]) (ps := [(0, c_weirlaw3_Op.val (⟨1, z_weirlaw3_Op.Two, z_weirlaw3_Op.I, 1, z_weirlaw3_Op.B⟩ : weirlaw3_Op)), (1, c_weirlaw3_Op.val (⟨2, z_weirlaw3_Op.Two, z_weirlaw3_Op.I, z_weirlaw3_Op.N, r4⟩ : weirlaw3_Op)), (2, c_weirlaw3_Op.val (⟨3, z_weirlaw3_Op.Two, z_weirlaw3_Op.I, z_weirlaw3_Op.N, z_weirlaw3_Op.B⟩ : weirlaw3_Op)), (3, c_weirlaw3_Op.val (⟨10, z_weirlaw3_Op.Two, z_weirlaw3_Op.I, z_weirlaw3_Op.N, r6⟩ : weirlaw3_Op)), (4, c_weirlaw3_Op.val (⟨7, z_weirlaw3_Op.Two, z_weirlaw3_Op.I, 3, z_weirlaw3_Op.B⟩ : weirlaw3_Op)), (5, c_weirlaw3_Op.val (⟨11, z_weirlaw3_Op.Two, z_weirlaw3_Op.I, z_weirlaw3_Op.N, z_weirlaw3_Op.B⟩ : weirlaw3_Op)), (6, c_weirlaw3_Op.val (⟨9, z_weirlaw3_Op.Two, z_weirlaw3_Op.I, z_weirlaw3_Op.N, z_weirlaw3_Op.B⟩ : weirlaw3_Op)), (7, c_weirlaw3_Op.val (⟨8, z_weirlaw3_Op.Two, z_weirlaw3_Op.I, z_weirlaw3_Op.N, z_weirlaw3_Op.B⟩ : weirlaw3_Op))]) (cd := (c_weirlaw3_Op.arr 8)) (z0 := (Vec.rep 8 z_weirlaw3_Op)) (⟨[(⟨1, z_weirlaw3_Op.Two, z_weirlaw3_Op.I, 1, z_weirlaw3_Op.B⟩ : weirlaw3_Op), (⟨2, z_weirlaw3_Op.Two, z_weirlaw3_Op.I, z_weirlaw3_Op.N, r4⟩ : weirlaw3_Op), (⟨3, z_weirlaw3_Op.Two, z_weirlaw3_Op.I, z_weirlaw3_Op.N, z_weirlaw3_Op.B⟩ : weirlaw3_Op), (⟨10, z_weirlaw3_Op.Two, z_weirlaw3_Op.I, z_weirlaw3_Op.N, r6⟩ : weirlaw3_Op), (⟨7, z_weirlaw3_Op.Two, z_weirlaw3_Op.I, 3, z_weirlaw3_Op.B⟩ : weirlaw3_Op), (⟨11, z_weirlaw3_Op.Two, z_weirlaw3_Op.I, z_weirlaw3_Op.N, z_weirlaw3_Op.B⟩ : weirlaw3_Op), (⟨9, z_weirlaw3_Op.Two, z_weirlaw3_Op.I, z_weirlaw3_Op.N, z_weirlaw3_Op.B⟩ : weirlaw3_Op), (⟨8, z_weirlaw3_Op.Two, z_weirlaw3_Op.I, z_weirlaw3_Op.N, z_weirlaw3_Op.B⟩ : weirlaw3_Op)], rfl⟩ : (Vec weirlaw3_Op 8)) (by kernel_rfl) (by kernel_rfl) Ty96 rfl (by kernel_rfl) (Filled.cons (cd := c_weirlaw3_Op) (q := (⟨1, z_weirlaw3_Op.Two, z_weirlaw3_Op.I, 1, z_weirlaw3_Op.B⟩ : weirlaw3_Op)) (o := 0) (by kernel_rfl) (Upd.arr (i := 0) (by decide) (by decide)) (Filled.cons (cd := c_weirlaw3_Op) (q := (⟨2, z_weirlaw3_Op.Two, z_weirlaw3_Op.I, z_weirlaw3_Op.N, r4⟩ : weirlaw3_Op)) (o := 5) (by kernel_rfl) (Upd.arr (i := 1) (by decide) (by decide)) (Filled.cons (cd := c_weirlaw3_Op) (q := (⟨3, z_weirlaw3_Op.Two, z_weirlaw3_Op.I, z_weirlaw3_Op.N, z_weirlaw3_Op.B⟩ : weirlaw3_Op)) (o := 10) (by kernel_rfl) (Upd.arr (i := 2) (by decide) (by decide)) (Filled.cons (cd := c_weirlaw3_Op) (q := (⟨10, z_weirlaw3_Op.Two, z_weirlaw3_Op.I, z_weirlaw3_Op.N, r6⟩ : weirlaw3_Op)) (o := 15) (by kernel_rfl) (Upd.arr (i := 3) (by decide) (by decide)) (Filled.cons (cd := c_weirlaw3_Op) (q := (⟨7, z_weirlaw3_Op.Two, z_weirlaw3_Op.I, 3, z_weirlaw3_Op.B⟩ : weirlaw3_Op)) (o := 20) (by kernel_rfl) (Upd.arr (i := 4) (by decide) (by decide)) (Filled.cons (cd := c_weirlaw3_Op) (q := (⟨11, z_weirlaw3_Op.Two, z_weirlaw3_Op.I, z_weirlaw3_Op.N, z_weirlaw3_Op.B⟩ : weirlaw3_Op)) (o := 25) (by kernel_rfl) (Upd.arr (i := 5) (by decide) (by decide)) (Filled.cons (cd := c_weirlaw3_Op) (q := (⟨9, z_weirlaw3_Op.Two, z_weirlaw3_Op.I, z_weirlaw3_Op.N, z_weirlaw3_Op.B⟩ : weirlaw3_Op)) (o := 30) (by kernel_rfl) (Upd.arr (i := 6) (by decide) (by decide)) (Filled.cons (cd := c_weirlaw3_Op) (q := (⟨8, z_weirlaw3_Op.Two, z_weirlaw3_Op.I, z_weirlaw3_Op.N, z_weirlaw3_Op.B⟩ : weirlaw3_Op)) (o := 35) (by kernel_rfl) (Upd.arr (i := 7) (by decide) (by decide)) Filled.nil)))))))) (by kernel_rfl) (by kernel_rfl) (by kernel_rfl) ?_
  refine OJ.slotOf (d := 3) (op := (.alloc 96)) (cd := (c_weirlaw3_Op.arr 8)) (u := (Vec.rep 8 z_weirlaw3_Op)) (owed := []) (by kernel_rfl) (alloc_run Ty96) (by kernel_rfl) (by kernel_rfl) (by kernel_rfl) (fun b7 => ?_)
  refine OW.nil ?_
  refine OJ.kst (T := 96) (y := .tmp 3) (z := .tmp 21) (cd := (c_weirlaw3_Op.arr 8)) (u := (⟨[(⟨1, z_weirlaw3_Op.Two, z_weirlaw3_Op.I, 1, z_weirlaw3_Op.B⟩ : weirlaw3_Op), (⟨2, z_weirlaw3_Op.Two, z_weirlaw3_Op.I, z_weirlaw3_Op.N, r4⟩ : weirlaw3_Op), (⟨3, z_weirlaw3_Op.Two, z_weirlaw3_Op.I, z_weirlaw3_Op.N, z_weirlaw3_Op.B⟩ : weirlaw3_Op), (⟨10, z_weirlaw3_Op.Two, z_weirlaw3_Op.I, z_weirlaw3_Op.N, r6⟩ : weirlaw3_Op), (⟨7, z_weirlaw3_Op.Two, z_weirlaw3_Op.I, 3, z_weirlaw3_Op.B⟩ : weirlaw3_Op), (⟨11, z_weirlaw3_Op.Two, z_weirlaw3_Op.I, z_weirlaw3_Op.N, z_weirlaw3_Op.B⟩ : weirlaw3_Op), (⟨9, z_weirlaw3_Op.Two, z_weirlaw3_Op.I, z_weirlaw3_Op.N, z_weirlaw3_Op.B⟩ : weirlaw3_Op), (⟨8, z_weirlaw3_Op.Two, z_weirlaw3_Op.I, z_weirlaw3_Op.N, z_weirlaw3_Op.B⟩ : weirlaw3_Op)], rfl⟩ : (Vec weirlaw3_Op 8))) (j := 0) (b := b7) (o := 0) ((c_weirlaw3_Op.arr 8).enc (⟨[(⟨1, z_weirlaw3_Op.Two, z_weirlaw3_Op.I, 1, z_weirlaw3_Op.B⟩ : weirlaw3_Op), (⟨2, z_weirlaw3_Op.Two, z_weirlaw3_Op.I, z_weirlaw3_Op.N, r4⟩ : weirlaw3_Op), (⟨3, z_weirlaw3_Op.Two, z_weirlaw3_Op.I, z_weirlaw3_Op.N, z_weirlaw3_Op.B⟩ : weirlaw3_Op), (⟨10, z_weirlaw3_Op.Two, z_weirlaw3_Op.I, z_weirlaw3_Op.N, r6⟩ : weirlaw3_Op), (⟨7, z_weirlaw3_Op.Two, z_weirlaw3_Op.I, 3, z_weirlaw3_Op.B⟩ : weirlaw3_Op), (⟨11, z_weirlaw3_Op.Two, z_weirlaw3_Op.I, z_weirlaw3_Op.N, z_weirlaw3_Op.B⟩ : weirlaw3_Op), (⟨9, z_weirlaw3_Op.Two, z_weirlaw3_Op.I, z_weirlaw3_Op.N, z_weirlaw3_Op.B⟩ : weirlaw3_Op), (⟨8, z_weirlaw3_Op.Two, z_weirlaw3_Op.I, z_weirlaw3_Op.N, z_weirlaw3_Op.B⟩ : weirlaw3_Op)], rfl⟩ : (Vec weirlaw3_Op 8))) (h2 := [(b7, (c_weirlaw3_Op.arr 8).enc (⟨[(⟨1, z_weirlaw3_Op.Two, z_weirlaw3_Op.I, 1, z_weirlaw3_Op.B⟩ : weirlaw3_Op), (⟨2, z_weirlaw3_Op.Two, z_weirlaw3_Op.I, z_weirlaw3_Op.N, r4⟩ : weirlaw3_Op), (⟨3, z_weirlaw3_Op.Two, z_weirlaw3_Op.I, z_weirlaw3_Op.N, z_weirlaw3_Op.B⟩ : weirlaw3_Op), (⟨10, z_weirlaw3_Op.Two, z_weirlaw3_Op.I, z_weirlaw3_Op.N, r6⟩ : weirlaw3_Op), (⟨7, z_weirlaw3_Op.Two, z_weirlaw3_Op.I, 3, z_weirlaw3_Op.B⟩ : weirlaw3_Op), (⟨11, z_weirlaw3_Op.Two, z_weirlaw3_Op.I, z_weirlaw3_Op.N, z_weirlaw3_Op.B⟩ : weirlaw3_Op), (⟨9, z_weirlaw3_Op.Two, z_weirlaw3_Op.I, z_weirlaw3_Op.N, z_weirlaw3_Op.B⟩ : weirlaw3_Op), (⟨8, z_weirlaw3_Op.Two, z_weirlaw3_Op.I, z_weirlaw3_Op.N, z_weirlaw3_Op.B⟩ : weirlaw3_Op)], rfl⟩ : (Vec weirlaw3_Op 8))), (b2, c_weirlaw3_Side.enc r1.1)]) (owed := []) (by kernel_rfl) (by kernel_rfl) (by kernel_rfl) Ty96 rfl (Upd.whole ((Cod.len _ _).trans (Cod.len _ _).symm)) (by kernel_rfl) (by kernel_rfl) rfl ?_
  refine OW.nil ?_
  refine OJ.nil ?_
  refine SJ.seq (by kernel_rfl) ?_
  refine SJ.seq (by kernel_rfl) ?_
  refine SJ.region (id := 3) (by kernel_rfl) [0] (by kernel_rfl) ?_
  refine OJ.run [0] [] [1, 2, 3, 4] (m2 := [(1, .pointer (some (pt b2 0))), (2, .bool r1.2), (3, .pointer (some (pt b7 0))), (4, .int .i64 0)]) (by kernel_rfl) (by kernel_rfl) ?_
  refine OJ.nil ?_
  refine SJ.block (id := 0) (by kernel_rfl) ?_
  exact SJ.loop (fun s_ : (Bool × Int × weirlaw3_Side) => [(1, .pointer (some (pt b2 0))), (2, .bool s_.1), (3, .pointer (some (pt b7 0))), (4, .int .i64 s_.2.1)]) (fun s_ : (Bool × Int × weirlaw3_Side) => [(b7, (c_weirlaw3_Op.arr 8).enc (⟨[(⟨1, z_weirlaw3_Op.Two, z_weirlaw3_Op.I, 1, z_weirlaw3_Op.B⟩ : weirlaw3_Op), (⟨2, z_weirlaw3_Op.Two, z_weirlaw3_Op.I, z_weirlaw3_Op.N, r4⟩ : weirlaw3_Op), (⟨3, z_weirlaw3_Op.Two, z_weirlaw3_Op.I, z_weirlaw3_Op.N, z_weirlaw3_Op.B⟩ : weirlaw3_Op), (⟨10, z_weirlaw3_Op.Two, z_weirlaw3_Op.I, z_weirlaw3_Op.N, r6⟩ : weirlaw3_Op), (⟨7, z_weirlaw3_Op.Two, z_weirlaw3_Op.I, 3, z_weirlaw3_Op.B⟩ : weirlaw3_Op), (⟨11, z_weirlaw3_Op.Two, z_weirlaw3_Op.I, z_weirlaw3_Op.N, z_weirlaw3_Op.B⟩ : weirlaw3_Op), (⟨9, z_weirlaw3_Op.Two, z_weirlaw3_Op.I, z_weirlaw3_Op.N, z_weirlaw3_Op.B⟩ : weirlaw3_Op), (⟨8, z_weirlaw3_Op.Two, z_weirlaw3_Op.I, z_weirlaw3_Op.N, z_weirlaw3_Op.B⟩ : weirlaw3_Op)], rfl⟩ : (Vec weirlaw3_Op 8))), (b2, c_weirlaw3_Side.enc s_.2.2)]) [1, 2, 3, 4] (by kernel_rfl) (by kernel_rfl) rfl (fun _ _ => rfl) (fun s_ => weirlaw3_started.L1_ok b2 r4 r6 b7 s_.1 s_.2.1 s_.2.2)

/-! ### weir/weirlaw3.plays: function 28 -/
noncomputable def weirlaw3_plays.B : Code := (Try.f28.body).getD .skip
noncomputable def weirlaw3_plays.cx : Fx := ⟨Try.prog, 28, Try.f28⟩
noncomputable def weirlaw3_plays.out (r_ : Bool) : Value := .bool r_
noncomputable def weirlaw3_plays.F0 (r_ : Bool) : Reach := .ret (weirlaw3_plays.out r_)
noncomputable def weirlaw3_plays.F1 (a4 : Sl) (a5 : Int) (a6 : Int) (b3 : Nat) (b5 : Nat) : (LS (Bool × Int × weirlaw3_Side × weirlaw3_Side) Bool) → Reach := loopF [.inLoop (c1 (c1 (c2 (c1 (c2 (c2 (c2 (c2 (c2 (c2 weirlaw3_plays.B)))))))))), .inBlock 0, .code (c2 (c2 (c2 (c2 (c2 (c2 (c2 weirlaw3_plays.B)))))))] (fun s_ : (Bool × Int × weirlaw3_Side × weirlaw3_Side) => [(4, Sl.v a4), (5, .int .i64 a5), (6, .int .i64 a6), (16, .pointer (some (pt b3 0))), (17, .pointer (some (pt b5 0))), (15, .bool s_.1), (18, .int .i64 s_.2.1)]) (fun s_ : (Bool × Int × weirlaw3_Side × weirlaw3_Side) => [(b5, c_weirlaw3_Side.enc s_.2.2.1), (b3, c_weirlaw3_Side.enc s_.2.2.2)]) weirlaw3_plays.F0
noncomputable def weirlaw3_plays.L1 (a4 : Sl) (a5 : Int) (a6 : Int) (s6 : Bool) (s7 : Int) (s8 : weirlaw3_Side) (s9 : weirlaw3_Side) : M (LS (Bool × Int × weirlaw3_Side × weirlaw3_Side) Bool) :=
  (if s7 < (a4.len : Int) then
      pure s6
    else
      pure false) >>= fun y24 =>
  if y24 = true then
    idx a4.a a4.len s7 5 >>= fun p25 =>
    ld c_weirlaw3_Op p25 >>= fun x26 =>
    slot 45 >>= fun b27 =>
    (if x26.Kind = 9 then
        pure true
      else
        pure (x26.Kind == 11)) >>= fun y28 =>
    (if y28 = true then
        (if x26.Kind < a5 then
            pure true
          else
            pure (decide (x26.Kind > a6))) >>= fun y29 =>
        pure y29
      else
        pure false) >>= fun y30 =>
    if y30 = true then
      pure (LS.next (s6, IntKind.wrap .i64 (s7 + 1), s8, s9))
    else
      if x26.Two = true then
        weirlaw3_step s8 x26 >>= fun r33 =>
        pure (LS.next (r33.2, IntKind.wrap .i64 (s7 + 1), r33.1, s9))
      else
        weirlaw3_step s9 x26 >>= fun r34 =>
        pure (LS.next (r34.2, IntKind.wrap .i64 (s7 + 1), s8, r34.1))
  else
    pure (LS.done s6)
theorem weirlaw3_plays.L1_ok (a4 : Sl) (a5 : Int) (a6 : Int) (b3 : Nat) (b5 : Nat) (s6 : Bool) (s7 : Int) (s8 : weirlaw3_Side) (s9 : weirlaw3_Side) :
    SJ weirlaw3_plays.cx [.code (c1 (c1 (c2 (c1 (c2 (c2 (c2 (c2 (c2 (c2 weirlaw3_plays.B)))))))))), .inLoop (c1 (c1 (c2 (c1 (c2 (c2 (c2 (c2 (c2 (c2 weirlaw3_plays.B)))))))))), .inBlock 0, .code (c2 (c2 (c2 (c2 (c2 (c2 (c2 weirlaw3_plays.B)))))))] [(4, Sl.v a4), (5, .int .i64 a5), (6, .int .i64 a6), (16, .pointer (some (pt b3 0))), (17, .pointer (some (pt b5 0))), (15, .bool s6), (18, .int .i64 s7)] [(b5, c_weirlaw3_Side.enc s8), (b3, c_weirlaw3_Side.enc s9)] (weirlaw3_plays.L1 a4 a5 a6 s6 s7 s8 s9) (weirlaw3_plays.F1 a4 a5 a6 b3 b5) := by
  unfold weirlaw3_plays.L1
  refine SJ.seq (by kernel_rfl) ?_
  refine SJ.seq (by kernel_rfl) ?_
  refine SJ.region (id := 9) (by kernel_rfl) [0, 1, 2, 3, 4, 5, 6] (by kernel_rfl) ?_
  refine OJ.run [0, 1, 2, 3, 4] [5, 6] [4, 5, 6, 16, 17, 15, 18, 41] (m2 := [(4, Sl.v a4), (5, .int .i64 a5), (6, .int .i64 a6), (16, .pointer (some (pt b3 0))), (17, .pointer (some (pt b5 0))), (15, .bool s6), (18, .int .i64 s7), (41, .bool (decide (s7 < (a4.len : Int))))]) (by kernel_rfl) (by kernel_rfl) ?_
  refine OJ.join (b := decide (s7 < (a4.len : Int))) [5, 6] [] [4, 5, 6, 16, 17, 15, 18, 43] (fun y24 => [(4, Sl.v a4), (5, .int .i64 a5), (6, .int .i64 a6), (16, .pointer (some (pt b3 0))), (17, .pointer (some (pt b5 0))), (15, .bool s6), (18, .int .i64 s7), (43, .bool y24)]) [] [] (by kernel_rfl) (t := 41) (by kernel_rfl) decide_eq_true_iff (fun hp_ => ?_) (fun hp_ => ?_) (by kernel_rfl) (fun _ _ _ _ _ _ h_ => h_) (fun y24 => ?_)
  · refine OJ.run [5, 6] [] [4, 5, 6, 16, 17, 15, 18, 43] (m2 := [(4, Sl.v a4), (5, .int .i64 a5), (6, .int .i64 a6), (16, .pointer (some (pt b3 0))), (17, .pointer (some (pt b5 0))), (15, .bool s6), (18, .int .i64 s7), (43, .bool s6)]) (by kernel_rfl) (by kernel_rfl) ?_
    exact OJ.nil ⟨(Cov.mem Cov.nil), rfl, _, rfl, by kernel_rfl⟩
  · refine OJ.run [5, 6] [] [4, 5, 6, 16, 17, 15, 18, 43] (m2 := [(4, Sl.v a4), (5, .int .i64 a5), (6, .int .i64 a6), (16, .pointer (some (pt b3 0))), (17, .pointer (some (pt b5 0))), (15, .bool s6), (18, .int .i64 s7), (43, .bool false)]) (by kernel_rfl) (by kernel_rfl) ?_
    exact OJ.nil ⟨(Cov.mem Cov.nil), rfl, _, rfl, by kernel_rfl⟩
  · refine OJ.nil ?_
    refine SJ.cond (t := (.tmp 43)) (b := y24) (by kernel_rfl) (by kernel_rfl) Iff.rfl (fun hc37 => ?_) (fun hc37 => ?_)
    · refine SJ.skip (by kernel_rfl) ?_
      refine SJ.seq (by kernel_rfl) ?_
      refine SJ.block (id := 1) (by kernel_rfl) ?_
      refine SJ.seq (by kernel_rfl) ?_
      refine SJ.region (id := 11) (by kernel_rfl) [0, 1, 2, 3, 4, 5] (by kernel_rfl) ?_
      refine OJ.run [0, 1] [2, 3, 4, 5] [4, 5, 6, 16, 17, 15, 18, 46, 47] (m2 := [(4, Sl.v a4), (5, .int .i64 a5), (6, .int .i64 a6), (16, .pointer (some (pt b3 0))), (17, .pointer (some (pt b5 0))), (15, .bool s6), (18, .int .i64 s7), (46, Sl.v a4), (47, .int .i64 s7)]) (by kernel_rfl) (by kernel_rfl) ?_
      refine OJ.idxS (d := 48) (T := 40) (y := .tmp 46) (j := .tmp 47) (E := 45) (cap := a4.cap) (k := .i64) (by kernel_rfl) (by kernel_rfl) (by kernel_rfl) (by kernel_rfl) (by kernel_rfl) (by kernel_rfl) (by kernel_rfl) (by kernel_rfl) (fun p25 => ?_)
      refine OJ.ld (d := 49) (T := 45) (y := .tmp 48) (pend2 := fun x26 => []) (by kernel_rfl) (by kernel_rfl) Ty45 (by kernel_rfl) (by kernel_rfl) (fun _ => rfl) (fun x26 => ?_)
      refine OJ.slotOf (d := 19) (op := (.alloc 45)) (cd := c_weirlaw3_Op) (u := z_weirlaw3_Op) (owed := []) (by kernel_rfl) (alloc_run Ty45) (by kernel_rfl) (by kernel_rfl) (by kernel_rfl) (fun b27 => ?_)
      refine OW.nil ?_
      refine OJ.kst (T := 45) (y := .tmp 19) (z := .tmp 49) (cd := c_weirlaw3_Op) (u := x26) (j := 0) (b := b27) (o := 0) (c_weirlaw3_Op.enc x26) (h2 := [(b27, c_weirlaw3_Op.enc x26), (b5, c_weirlaw3_Side.enc s8), (b3, c_weirlaw3_Side.enc s9)]) (owed := []) (by kernel_rfl) (by kernel_rfl) (by kernel_rfl) Ty45 rfl (Upd.whole ((Cod.len _ _).trans (Cod.len _ _).symm)) (by kernel_rfl) (by kernel_rfl) rfl ?_
      refine OW.nil ?_
      refine OJ.nil ?_
      refine SJ.seq (by kernel_rfl) ?_
      refine SJ.seq (by kernel_rfl) ?_
      refine SJ.region (id := 12) (by kernel_rfl) [0, 1, 2, 3, 4, 5, 6, 7, 8, 9, 10, 11, 12, 13, 14, 15, 16, 17, 18, 19] (by kernel_rfl) ?_
      refine OJ.run [0] [1, 2, 3, 4, 5, 6, 7, 8, 9, 10, 11, 12, 13, 14, 15, 16, 17, 18, 19] [4, 5, 6, 16, 17, 15, 18, 19, 50] (m2 := [(4, Sl.v a4), (5, .int .i64 a5), (6, .int .i64 a6), (16, .pointer (some (pt b3 0))), (17, .pointer (some (pt b5 0))), (15, .bool s6), (18, .int .i64 s7), (19, .pointer (some (pt b27 0))), (50, .pointer (some (pt b27 0)))]) (by kernel_rfl) (by kernel_rfl) ?_
      refine OJ.kld (d := 51) (T := 3) (y := .tmp 50) (cd := (cI .i64)) (j := 0) (b := b27) (o := 0) x26.Kind (pend2 := []) (by kernel_rfl) (by kernel_rfl) Ty3 (by kernel_rfl) rfl (At_weirlaw3_Op_Kind x26) (by kernel_rfl) rfl ?_
      refine OJ.run [2, 3] [4, 5, 6, 7, 8, 9, 10, 11, 12, 13, 14, 15, 16, 17, 18, 19] [4, 5, 6, 16, 17, 15, 18, 19, 53] (m2 := [(4, Sl.v a4), (5, .int .i64 a5), (6, .int .i64 a6), (16, .pointer (some (pt b3 0))), (17, .pointer (some (pt b5 0))), (15, .bool s6), (18, .int .i64 s7), (19, .pointer (some (pt b27 0))), (53, .bool (x26.Kind == 9))]) (by kernel_rfl) (by kernel_rfl) ?_
      refine OJ.join (b := (x26.Kind == 9)) [4, 5, 6, 7] [8, 9, 10, 11, 12, 13, 14, 15, 16, 17, 18, 19] [4, 5, 6, 16, 17, 15, 18, 19, 57] (fun y28 => [(4, Sl.v a4), (5, .int .i64 a5), (6, .int .i64 a6), (16, .pointer (some (pt b3 0))), (17, .pointer (some (pt b5 0))), (15, .bool s6), (18, .int .i64 s7), (19, .pointer (some (pt b27 0))), (57, .bool y28)]) [] [] (by kernel_rfl) (t := 53) (by kernel_rfl) beq_iff_eq (fun hp_ => ?_) (fun hp_ => ?_) (by kernel_rfl) (fun _ _ _ _ _ _ h_ => h_) (fun y28 => ?_)
      · refine OJ.run [4, 5, 6, 7] [] [4, 5, 6, 16, 17, 15, 18, 19, 57] (m2 := [(4, Sl.v a4), (5, .int .i64 a5), (6, .int .i64 a6), (16, .pointer (some (pt b3 0))), (17, .pointer (some (pt b5 0))), (15, .bool s6), (18, .int .i64 s7), (19, .pointer (some (pt b27 0))), (57, .bool true)]) (by kernel_rfl) (by kernel_rfl) ?_
        exact OJ.nil ⟨(Cov.mem Cov.nil), rfl, _, rfl, by kernel_rfl⟩
      · refine OJ.run [4] [5, 6, 7] [4, 5, 6, 16, 17, 15, 18, 19, 53, 54] (m2 := [(4, Sl.v a4), (5, .int .i64 a5), (6, .int .i64 a6), (16, .pointer (some (pt b3 0))), (17, .pointer (some (pt b5 0))), (15, .bool s6), (18, .int .i64 s7), (19, .pointer (some (pt b27 0))), (53, .bool false), (54, .pointer (some (pt b27 0)))]) (by kernel_rfl) (by kernel_rfl) ?_
        refine OJ.kld (d := 55) (T := 3) (y := .tmp 54) (cd := (cI .i64)) (j := 0) (b := b27) (o := 0) x26.Kind (pend2 := []) (by kernel_rfl) (by kernel_rfl) Ty3 (by kernel_rfl) rfl (At_weirlaw3_Op_Kind x26) (by kernel_rfl) rfl ?_
        refine OJ.run [6, 7] [] [4, 5, 6, 16, 17, 15, 18, 19, 57] (m2 := [(4, Sl.v a4), (5, .int .i64 a5), (6, .int .i64 a6), (16, .pointer (some (pt b3 0))), (17, .pointer (some (pt b5 0))), (15, .bool s6), (18, .int .i64 s7), (19, .pointer (some (pt b27 0))), (57, .bool (x26.Kind == 11))]) (by kernel_rfl) (by kernel_rfl) ?_
        exact OJ.nil ⟨(Cov.mem Cov.nil), rfl, _, rfl, by kernel_rfl⟩
      · refine OJ.run [8] [9, 10, 11, 12, 13, 14, 15, 16, 17, 18, 19] [4, 5, 6, 16, 17, 15, 18, 19, 58] (m2 := [(4, Sl.v a4), (5, .int .i64 a5), (6, .int .i64 a6), (16, .pointer (some (pt b3 0))), (17, .pointer (some (pt b5 0))), (15, .bool s6), (18, .int .i64 s7), (19, .pointer (some (pt b27 0))), (58, .bool y28)]) (by kernel_rfl) (by kernel_rfl) ?_
        refine OJ.join (b := y28) [9, 10, 11, 12, 13, 14, 15, 16, 17, 18, 19] [] [4, 5, 6, 16, 17, 15, 18, 19, 69] (fun y30 => [(4, Sl.v a4), (5, .int .i64 a5), (6, .int .i64 a6), (16, .pointer (some (pt b3 0))), (17, .pointer (some (pt b5 0))), (15, .bool s6), (18, .int .i64 s7), (19, .pointer (some (pt b27 0))), (69, .bool y30)]) [] [] (by kernel_rfl) (t := 58) (by kernel_rfl) Iff.rfl (fun hp_ => ?_) (fun hp_ => ?_) (by kernel_rfl) (fun _ _ _ _ _ _ h_ => h_) (fun y30 => ?_)
        · refine OJ.run [9] [10, 11, 12, 13, 14, 15, 16, 17, 18, 19] [4, 5, 6, 16, 17, 15, 18, 19, 58, 59] (m2 := [(4, Sl.v a4), (5, .int .i64 a5), (6, .int .i64 a6), (16, .pointer (some (pt b3 0))), (17, .pointer (some (pt b5 0))), (15, .bool s6), (18, .int .i64 s7), (19, .pointer (some (pt b27 0))), (58, .bool true), (59, .pointer (some (pt b27 0)))]) (by kernel_rfl) (by kernel_rfl) ?_
          refine OJ.kld (d := 60) (T := 3) (y := .tmp 59) (cd := (cI .i64)) (j := 0) (b := b27) (o := 0) x26.Kind (pend2 := []) (by kernel_rfl) (by kernel_rfl) Ty3 (by kernel_rfl) rfl (At_weirlaw3_Op_Kind x26) (by kernel_rfl) rfl ?_
          refine OJ.run [11, 12, 13] [14, 15, 16, 17, 18, 19] [4, 5, 6, 16, 17, 15, 18, 19, 58, 63] (m2 := [(4, Sl.v a4), (5, .int .i64 a5), (6, .int .i64 a6), (16, .pointer (some (pt b3 0))), (17, .pointer (some (pt b5 0))), (15, .bool s6), (18, .int .i64 s7), (19, .pointer (some (pt b27 0))), (58, .bool true), (63, .bool (decide (x26.Kind < a5)))]) (by kernel_rfl) (by kernel_rfl) ?_
          refine OJ.join (b := decide (x26.Kind < a5)) [14, 15, 16, 17, 18] [19] [4, 5, 6, 16, 17, 15, 18, 19, 58, 68] (fun y29 => [(4, Sl.v a4), (5, .int .i64 a5), (6, .int .i64 a6), (16, .pointer (some (pt b3 0))), (17, .pointer (some (pt b5 0))), (15, .bool s6), (18, .int .i64 s7), (19, .pointer (some (pt b27 0))), (58, .bool true), (68, .bool y29)]) [] [] (by kernel_rfl) (t := 63) (by kernel_rfl) decide_eq_true_iff (fun hp_ => ?_) (fun hp_ => ?_) (by kernel_rfl) (fun _ _ _ _ _ hq_ h_ => ⟨fun e_ he_ => (hq_ e_ he_).elim (fun h => h_.1 e_ h) (fun h => nomatch h), h_.2⟩) (fun y29 => ?_)
          · refine OJ.run [14, 15, 16, 17, 18] [] [4, 5, 6, 16, 17, 15, 18, 19, 58, 68] (m2 := [(4, Sl.v a4), (5, .int .i64 a5), (6, .int .i64 a6), (16, .pointer (some (pt b3 0))), (17, .pointer (some (pt b5 0))), (15, .bool s6), (18, .int .i64 s7), (19, .pointer (some (pt b27 0))), (58, .bool true), (68, .bool true)]) (by kernel_rfl) (by kernel_rfl) ?_
            exact OJ.nil ⟨(Cov.mem Cov.nil), rfl, _, rfl, by kernel_rfl⟩
          · refine OJ.run [14] [15, 16, 17, 18] [4, 5, 6, 16, 17, 15, 18, 19, 58, 63, 64] (m2 := [(4, Sl.v a4), (5, .int .i64 a5), (6, .int .i64 a6), (16, .pointer (some (pt b3 0))), (17, .pointer (some (pt b5 0))), (15, .bool s6), (18, .int .i64 s7), (19, .pointer (some (pt b27 0))), (58, .bool true), (63, .bool false), (64, .pointer (some (pt b27 0)))]) (by kernel_rfl) (by kernel_rfl) ?_
            refine OJ.kld (d := 65) (T := 3) (y := .tmp 64) (cd := (cI .i64)) (j := 0) (b := b27) (o := 0) x26.Kind (pend2 := []) (by kernel_rfl) (by kernel_rfl) Ty3 (by kernel_rfl) rfl (At_weirlaw3_Op_Kind x26) (by kernel_rfl) rfl ?_
            refine OJ.run [16, 17, 18] [] [4, 5, 6, 16, 17, 15, 18, 19, 58, 68] (m2 := [(4, Sl.v a4), (5, .int .i64 a5), (6, .int .i64 a6), (16, .pointer (some (pt b3 0))), (17, .pointer (some (pt b5 0))), (15, .bool s6), (18, .int .i64 s7), (19, .pointer (some (pt b27 0))), (58, .bool true), (68, .bool (decide (x26.Kind > a6)))]) (by kernel_rfl) (by kernel_rfl) ?_
            exact OJ.nil ⟨(Cov.mem Cov.nil), rfl, _, rfl, by kernel_rfl⟩
          · refine OJ.run [19] [] [4, 5, 6, 16, 17, 15, 18, 19, 69] (m2 := [(4, Sl.v a4), (5, .int .i64 a5), (6, .int .i64 a6), (16, .pointer (some (pt b3 0))), (17, .pointer (some (pt b5 0))), (15, .bool s6), (18, .int .i64 s7), (19, .pointer (some (pt b27 0))), (69, .bool y29)]) (by kernel_rfl) (by kernel_rfl) ?_
            exact OJ.nil ⟨(Cov.mem Cov.nil), rfl, _, rfl, by kernel_rfl⟩
        · refine OJ.run [9, 10, 11, 12, 13, 14, 15, 16, 17, 18, 19] [] [4, 5, 6, 16, 17, 15, 18, 19, 69] (m2 := [(4, Sl.v a4), (5, .int .i64 a5), (6, .int .i64 a6), (16, .pointer (some (pt b3 0))), (17, .pointer (some (pt b5 0))), (15, .bool s6), (18, .int .i64 s7), (19, .pointer (some (pt b27 0))), (69, .bool false)]) (by kernel_rfl) (by kernel_rfl) ?_
          exact OJ.nil ⟨(Cov.mem Cov.nil), rfl, _, rfl, by kernel_rfl⟩
        · refine OJ.nil ?_
          refine SJ.cond (t := (.tmp 69)) (b := y30) (by kernel_rfl) (by kernel_rfl) Iff.rfl (fun hc36 => ?_) (fun hc36 => ?_)
          · refine SJ.exit (id := 1) (by kernel_rfl) (by rfl) ?_
            refine SJ.region (id := 10) (by kernel_rfl) [0, 1, 2] (by kernel_rfl) ?_
            refine OJ.run [0, 1, 2] [] [4, 5, 6, 16, 17, 15, 18] (m2 := [(4, Sl.v a4), (5, .int .i64 a5), (6, .int .i64 a6), (16, .pointer (some (pt b3 0))), (17, .pointer (some (pt b5 0))), (15, .bool s6), (18, .int .i64 (IntKind.wrap .i64 (s7 + 1)))]) (by kernel_rfl) (by kernel_rfl) ?_
            refine OJ.nil ?_
            refine SJ.forget (List.Sublist.cons _ (List.Sublist.cons_cons _ (List.Sublist.cons_cons _ List.Sublist.slnil))) ?_
            exact SJ.at_ [4, 5, 6, 16, 17, 15, 18] rfl (by kernel_rfl)
          · refine SJ.skip (by kernel_rfl) ?_
            refine SJ.seq (by kernel_rfl) ?_
            refine SJ.region (id := 13) (by kernel_rfl) [0, 1] (by kernel_rfl) ?_
            refine OJ.run [0] [1] [4, 5, 6, 16, 17, 18, 19, 70] (m2 := [(4, Sl.v a4), (5, .int .i64 a5), (6, .int .i64 a6), (16, .pointer (some (pt b3 0))), (17, .pointer (some (pt b5 0))), (18, .int .i64 s7), (19, .pointer (some (pt b27 0))), (70, .pointer (some (pt b27 1)))]) (by kernel_rfl) (by kernel_rfl) ?_
            refine OJ.kld (d := 71) (T := 4) (y := .tmp 70) (cd := cB) (j := 0) (b := b27) (o := 1) x26.Two (pend2 := []) (by kernel_rfl) (by kernel_rfl) Ty4 (by kernel_rfl) rfl (At_weirlaw3_Op_Two x26) (by kernel_rfl) rfl ?_
            refine OJ.nil ?_
            refine SJ.cond (t := (.tmp 71)) (b := x26.Two) (by kernel_rfl) (by kernel_rfl) Iff.rfl (fun hc35 => ?_) (fun hc35 => ?_)
            · refine SJ.region (id := 14) (by kernel_rfl) [0, 1, 2, 3, 4, 5, 6, 7] (by kernel_rfl) ?_
              refine OJ.kld (d := 73) (T := 62) (y := .tmp 17) (cd := c_weirlaw3_Side) (j := 1) (b := b5) (o := 0) s8 (pend2 := []) (by kernel_rfl) (by kernel_rfl) Ty62 (by kernel_rfl) rfl (At.whole _) (by kernel_rfl) rfl ?_
              refine OJ.kld (d := 74) (T := 45) (y := .tmp 19) (cd := c_weirlaw3_Op) (j := 0) (b := b27) (o := 0) x26 (pend2 := []) (by kernel_rfl) (by kernel_rfl) Ty45 (by kernel_rfl) rfl (At.whole _) (by kernel_rfl) rfl ?_
              refine OJ.call (d := 75) (g := 50) (ats := #[62, 45]) (args := [.tmp 73, .tmp 74]) (vals := [c_weirlaw3_Side.val s8, c_weirlaw3_Op.val x26]) (owed := []) (by kernel_rfl) F50 (by kernel_rfl) (weirlaw3_step_ok s8 x26) (by kernel_rfl) (by kernel_rfl) (by kernel_rfl) (fun r33 => ?_)
              refine OW.nil ?_
              refine OJ.run [3, 4, 5] [6, 7] [4, 5, 6, 16, 17, 18, 76, 77] (m2 := [(4, Sl.v a4), (5, .int .i64 a5), (6, .int .i64 a6), (16, .pointer (some (pt b3 0))), (17, .pointer (some (pt b5 0))), (18, .int .i64 s7), (76, c_weirlaw3_Side.val r33.1), (77, .bool r33.2)]) (by kernel_rfl) (by kernel_rfl) ?_
              refine OJ.kst (T := 62) (y := .tmp 17) (z := .tmp 76) (cd := c_weirlaw3_Side) (u := r33.1) (j := 1) (b := b5) (o := 0) (c_weirlaw3_Side.enc r33.1) (h2 := [(b27, c_weirlaw3_Op.enc x26), (b5, c_weirlaw3_Side.enc r33.1), (b3, c_weirlaw3_Side.enc s9)]) (owed := []) (by kernel_rfl) (by kernel_rfl) (by kernel_rfl) Ty62 rfl (Upd.whole ((Cod.len _ _).trans (Cod.len _ _).symm)) (by kernel_rfl) (by kernel_rfl) rfl ?_
              refine OW.nil ?_
              refine OJ.run [7] [] [4, 5, 6, 16, 17, 18, 15] (m2 := [(4, Sl.v a4), (5, .int .i64 a5), (6, .int .i64 a6), (16, .pointer (some (pt b3 0))), (17, .pointer (some (pt b5 0))), (18, .int .i64 s7), (15, .bool r33.2)]) (by kernel_rfl) (by kernel_rfl) ?_
              refine OJ.nil ?_
              refine SJ.inBlock ?_
              refine SJ.region (id := 10) (by kernel_rfl) [0, 1, 2] (by kernel_rfl) ?_
              refine OJ.run [0, 1, 2] [] [4, 5, 6, 16, 17, 18, 15] (m2 := [(4, Sl.v a4), (5, .int .i64 a5), (6, .int .i64 a6), (16, .pointer (some (pt b3 0))), (17, .pointer (some (pt b5 0))), (18, .int .i64 (IntKind.wrap .i64 (s7 + 1))), (15, .bool r33.2)]) (by kernel_rfl) (by kernel_rfl) ?_
              refine OJ.nil ?_
              refine SJ.forget (List.Sublist.cons _ (List.Sublist.cons_cons _ (List.Sublist.cons_cons _ List.Sublist.slnil))) ?_
              exact SJ.at_ [4, 5, 6, 16, 17, 15, 18] rfl (by kernel_rfl)
            · refine SJ.region (id := 15) (by kernel_rfl) [0, 1, 2, 3, 4, 5, 6, 7] (by kernel_rfl) ?_
              refine OJ.kld (d := 79) (T := 62) (y := .tmp 16) (cd := c_weirlaw3_Side) (j := 2) (b := b3) (o := 0) s9 (pend2 := []) (by kernel_rfl) (by kernel_rfl) Ty62 (by kernel_rfl) rfl (At.whole _) (by kernel_rfl) rfl ?_
              refine OJ.kld (d := 80) (T := 45) (y := .tmp 19) (cd := c_weirlaw3_Op) (j := 0) (b := b27) (o := 0) x26 (pend2 := []) (by kernel_rfl) (by kernel_rfl) Ty45 (by kernel_rfl) rfl (At.whole _) (by kernel_rfl) rfl ?_
              refine OJ.call (d := 81) (g := 50) (ats := #[62, 45]) (args := [.tmp 79, .tmp 80]) (vals := [c_weirlaw3_Side.val s9, c_weirlaw3_Op.val x26]) (owed := []) (by kernel_rfl) F50 (by kernel_rfl) (weirlaw3_step_ok s9 x26) (by kernel_rfl) (by kernel_rfl) (by kernel_rfl) (fun r34 => ?_)
              refine OW.nil ?_
              refine OJ.run [3, 4, 5] [6, 7] [4, 5, 6, 16, 17, 18, 82, 83] (m2 := [(4, Sl.v a4), (5, .int .i64 a5), (6, .int .i64 a6), (16, .pointer (some (pt b3 0))), (17, .pointer (some (pt b5 0))), (18, .int .i64 s7), (82, c_weirlaw3_Side.val r34.1), (83, .bool r34.2)]) (by kernel_rfl) (by kernel_rfl) ?_
              refine OJ.kst (T := 62) (y := .tmp 16) (z := .tmp 82) (cd := c_weirlaw3_Side) (u := r34.1) (j := 2) (b := b3) (o := 0) (c_weirlaw3_Side.enc r34.1) (h2 := [(b27, c_weirlaw3_Op.enc x26), (b5, c_weirlaw3_Side.enc s8), (b3, c_weirlaw3_Side.enc r34.1)]) (owed := []) (by kernel_rfl) (by kernel_rfl) (by kernel_rfl) Ty62 rfl (Upd.whole ((Cod.len _ _).trans (Cod.len _ _).symm)) (by kernel_rfl) (by kernel_rfl) rfl ?_
              refine OW.nil ?_
              refine OJ.run [7] [] [4, 5, 6, 16, 17, 18, 15] (m2 := [(4, Sl.v a4), (5, .int .i64 a5), (6, .int .i64 a6), (16, .pointer (some (pt b3 0))), (17, .pointer (some (pt b5 0))), (18, .int .i64 s7), (15, .bool r34.2)]) (by kernel_rfl) (by kernel_rfl) ?_
              refine OJ.nil ?_
              refine SJ.inBlock ?_
              refine SJ.region (id := 10) (by kernel_rfl) [0, 1, 2] (by kernel_rfl) ?_
              refine OJ.run [0, 1, 2] [] [4, 5, 6, 16, 17, 18, 15] (m2 := [(4, Sl.v a4), (5, .int .i64 a5), (6, .int .i64 a6), (16, .pointer (some (pt b3 0))), (17, .pointer (some (pt b5 0))), (18, .int .i64 (IntKind.wrap .i64 (s7 + 1))), (15, .bool r34.2)]) (by kernel_rfl) (by kernel_rfl) ?_
              refine OJ.nil ?_
              refine SJ.forget (List.Sublist.cons _ (List.Sublist.cons_cons _ (List.Sublist.cons_cons _ List.Sublist.slnil))) ?_
              exact SJ.at_ [4, 5, 6, 16, 17, 15, 18] rfl (by kernel_rfl)
    · refine SJ.exit (id := 0) (by kernel_rfl) (by rfl) ?_
      refine SJ.seq (by kernel_rfl) ?_
      refine SJ.region (id := 16) (by kernel_rfl) [0, 1] (by kernel_rfl) ?_
      refine OJ.run [0, 1] [] [14] (m2 := [(14, .bool s6)]) (by kernel_rfl) (by kernel_rfl) ?_
      refine OJ.nil ?_
      exact SJ.ret (by kernel_rfl) rfl (Res.run (ys := [.bool s6]) (.tmp (by kernel_rfl) .nil) rfl)
noncomputable def weirlaw3_plays (a0 : Int) (a1 : Int) (a2 : Int) (a3 : Int) (a4 : Sl) (a5 : Int) (a6 : Int) : M Bool :=
  weirlaw3_started >>= fun r1 =>
  if ¬ (r1 = true) then
    pure false
  else
    weirlaw3_made a0 a1 a2 a3 >>= fun r2 =>
    slot 62 >>= fun b3 =>
    if ¬ (r2.2 = true) then
      pure false
    else
      weirlaw3_made 3 2 4 70 >>= fun r4 =>
      slot 62 >>= fun b5 =>
      loopM (fun s_ : (Bool × Int × weirlaw3_Side × weirlaw3_Side) => weirlaw3_plays.L1 a4 a5 a6 s_.1 s_.2.1 s_.2.2.1 s_.2.2.2) (r4.2, 0, r4.1, r2.1)
theorem weirlaw3_plays_ok (a0 : Int) (a1 : Int) (a2 : Int) (a3 : Int) (a4 : Sl) (a5 : Int) (a6 : Int) : Ref Try.prog 28 [.int .i64 a0, .int .i64 a1, .int .i64 a2, .int .i64 a3, Sl.v a4, .int .i64 a5, .int .i64 a6] (weirlaw3_plays a0 a1 a2 a3 a4 a5 a6) weirlaw3_plays.out := by
  refine Ref.of (cd := weirlaw3_plays.B) Try.func28 (by kernel_rfl) (by kernel_rfl) ?_
  show SJ weirlaw3_plays.cx [.code weirlaw3_plays.B] [(0, .int .i64 a0), (1, .int .i64 a1), (2, .int .i64 a2), (3, .int .i64 a3), (4, Sl.v a4), (5, .int .i64 a5), (6, .int .i64 a6)] [] (weirlaw3_plays a0 a1 a2 a3 a4 a5 a6) weirlaw3_plays.F0
  unfold weirlaw3_plays
  refine SJ.seq (by kernel_rfl) ?_
  refine SJ.region (id := 0) (by kernel_rfl) [0] (by kernel_rfl) ?_
  refine OJ.run [0] [] [0, 1, 2, 3, 4, 5, 6] (m2 := [(0, .int .i64 a0), (1, .int .i64 a1), (2, .int .i64 a2), (3, .int .i64 a3), (4, Sl.v a4), (5, .int .i64 a5), (6, .int .i64 a6)]) (by kernel_rfl) (by kernel_rfl) ?_
  refine OJ.nil ?_
  refine SJ.seq (by kernel_rfl) ?_
  refine SJ.region (id := 1) (by kernel_rfl) [0, 1] (by kernel_rfl) ?_
  refine OJ.call (d := 20) (g := 29) (ats := #[]) (args := []) (vals := []) (owed := []) (by kernel_rfl) F29 (by kernel_rfl) (weirlaw3_started_ok ) (by kernel_rfl) (by kernel_rfl) (by kernel_rfl) (fun r1 => ?_)
  refine OW.nil ?_
  refine OJ.run [1] [] [0, 1, 2, 3, 4, 5, 6, 15] (m2 := [(0, .int .i64 a0), (1, .int .i64 a1), (2, .int .i64 a2), (3, .int .i64 a3), (4, Sl.v a4), (5, .int .i64 a5), (6, .int .i64 a6), (15, .bool r1)]) (by kernel_rfl) (by kernel_rfl) ?_
  refine OJ.nil ?_
  refine SJ.seq (by kernel_rfl) ?_
  refine SJ.seq (by kernel_rfl) ?_
  refine SJ.region (id := 2) (by kernel_rfl) [0, 1] (by kernel_rfl) ?_
  refine OJ.run [0, 1] [] [0, 1, 2, 3, 4, 5, 6, 22] (m2 := [(0, .int .i64 a0), (1, .int .i64 a1), (2, .int .i64 a2), (3, .int .i64 a3), (4, Sl.v a4), (5, .int .i64 a5), (6, .int .i64 a6), (22, .bool (!r1))]) (by kernel_rfl) (by kernel_rfl) ?_
  refine OJ.nil ?_
  refine SJ.cond (t := (.tmp 22)) (b := (!r1)) (by kernel_rfl) (by kernel_rfl) (bnot_iff Iff.rfl) (fun hc39 => ?_) (fun hc39 => ?_)
  · refine SJ.seq (by kernel_rfl) ?_
    refine SJ.region (id := 3) (by kernel_rfl) [0] (by kernel_rfl) ?_
    refine OJ.run [0] [] [14] (m2 := [(14, .bool false)]) (by kernel_rfl) (by kernel_rfl) ?_
    refine OJ.nil ?_
    exact SJ.ret (by kernel_rfl) rfl (Res.run (ys := [.bool false]) (.tmp (by kernel_rfl) .nil) rfl)
  · refine SJ.skip (by kernel_rfl) ?_
    refine SJ.seq (by kernel_rfl) ?_
    refine SJ.region (id := 4) (by kernel_rfl) [0, 1, 2, 3, 4, 5, 6, 7, 8, 9, 10] (by kernel_rfl) ?_
    refine OJ.run [0, 1, 2, 3] [4, 5, 6, 7, 8, 9, 10] [4, 5, 6, 24, 25, 26, 27] (m2 := [(4, Sl.v a4), (5, .int .i64 a5), (6, .int .i64 a6), (24, .int .i64 a0), (25, .int .i64 a1), (26, .int .i64 a2), (27, .int .i64 a3)]) (by kernel_rfl) (by kernel_rfl) ?_
    refine OJ.call (d := 28) (g := 30) (ats := #[3, 3, 3, 3]) (args := [.tmp 24, .tmp 25, .tmp 26, .tmp 27]) (vals := [.int .i64 a0, .int .i64 a1, .int .i64 a2, .int .i64 a3]) (owed := []) (by kernel_rfl) F30 (by kernel_rfl) (weirlaw3_made_ok a0 a1 a2 a3) (by kernel_rfl) (by kernel_rfl) (by kernel_rfl) (fun r2 => ?_)
    refine OW.nil ?_
    refine OJ.run [5, 6, 7] [8, 9, 10] [4, 5, 6, 29, 30] (m2 := [(4, Sl.v a4), (5, .int .i64 a5), (6, .int .i64 a6), (29, c_weirlaw3_Side.val r2.1), (30, .bool r2.2)]) (by kernel_rfl) (by kernel_rfl) ?_
    refine OJ.slotOf (d := 16) (op := (.alloc 62)) (cd := c_weirlaw3_Side) (u := z_weirlaw3_Side) (owed := []) (by kernel_rfl) (alloc_run Ty62) (by kernel_rfl) (by kernel_rfl) (by kernel_rfl) (fun b3 => ?_)
    refine OW.nil ?_
    refine OJ.kst (T := 62) (y := .tmp 16) (z := .tmp 29) (cd := c_weirlaw3_Side) (u := r2.1) (j := 0) (b := b3) (o := 0) (c_weirlaw3_Side.enc r2.1) (h2 := [(b3, c_weirlaw3_Side.enc r2.1)]) (owed := []) (by kernel_rfl) (by kernel_rfl) (by kernel_rfl) Ty62 rfl (Upd.whole ((Cod.len _ _).trans (Cod.len _ _).symm)) (by kernel_rfl) (by kernel_rfl) rfl ?_
    refine OW.nil ?_
    refine OJ.run [10] [] [4, 5, 6, 16, 15] (m2 := [(4, Sl.v a4), (5, .int .i64 a5), (6, .int .i64 a6), (16, .pointer (some (pt b3 0))), (15, .bool r2.2)]) (by kernel_rfl) (by kernel_rfl) ?_
    refine OJ.nil ?_
    refine SJ.seq (by kernel_rfl) ?_
    refine SJ.seq (by kernel_rfl) ?_
    refine SJ.region (id := 5) (by kernel_rfl) [0, 1] (by kernel_rfl) ?_
    refine OJ.run [0, 1] [] [4, 5, 6, 16, 32] (m2 := [(4, Sl.v a4), (5, .int .i64 a5), (6, .int .i64 a6), (16, .pointer (some (pt b3 0))), (32, .bool (!r2.2))]) (by kernel_rfl) (by kernel_rfl) ?_
    refine OJ.nil ?_
    refine SJ.cond (t := (.tmp 32)) (b := (!r2.2)) (by kernel_rfl) (by kernel_rfl) (bnot_iff Iff.rfl) (fun hc38 => ?_) (fun hc38 => ?_)
    · refine SJ.seq (by kernel_rfl) ?_
      refine SJ.region (id := 6) (by kernel_rfl) [0] (by kernel_rfl) ?_
      refine OJ.run [0] [] [14] (m2 := [(14, .bool false)]) (by kernel_rfl) (by kernel_rfl) ?_
      refine OJ.nil ?_
      exact SJ.ret (by kernel_rfl) rfl (Res.run (ys := [.bool false]) (.tmp (by kernel_rfl) .nil) rfl)
    · refine SJ.skip (by kernel_rfl) ?_
      refine SJ.seq (by kernel_rfl) ?_
      refine SJ.region (id := 7) (by kernel_rfl) [0, 1, 2, 3, 4, 5, 6] (by kernel_rfl) ?_
      refine OJ.call (d := 34) (g := 30) (ats := #[3, 3, 3, 3]) (args := [.const (.int .i64 3), .const (.int .i64 2), .const (.int .i64 4), .const (.int .i64 70)]) (vals := [.int .i64 3, .int .i64 2, .int .i64 4, .int .i64 70]) (owed := []) (by kernel_rfl) F30 (by kernel_rfl) (weirlaw3_made_ok 3 2 4 70) (by kernel_rfl) (by kernel_rfl) (by kernel_rfl) (fun r4 => ?_)
      refine OW.nil ?_
      refine OJ.run [1, 2, 3] [4, 5, 6] [4, 5, 6, 16, 35, 36] (m2 := [(4, Sl.v a4), (5, .int .i64 a5), (6, .int .i64 a6), (16, .pointer (some (pt b3 0))), (35, c_weirlaw3_Side.val r4.1), (36, .bool r4.2)]) (by kernel_rfl) (by kernel_rfl) ?_
      refine OJ.slotOf (d := 17) (op := (.alloc 62)) (cd := c_weirlaw3_Side) (u := z_weirlaw3_Side) (owed := []) (by kernel_rfl) (alloc_run Ty62) (by kernel_rfl) (by kernel_rfl) (by kernel_rfl) (fun b5 => ?_)
      refine OW.nil ?_
      refine OJ.kst (T := 62) (y := .tmp 17) (z := .tmp 35) (cd := c_weirlaw3_Side) (u := r4.1) (j := 0) (b := b5) (o := 0) (c_weirlaw3_Side.enc r4.1) (h2 := [(b5, c_weirlaw3_Side.enc r4.1), (b3, c_weirlaw3_Side.enc r2.1)]) (owed := []) (by kernel_rfl) (by kernel_rfl) (by kernel_rfl) Ty62 rfl (Upd.whole ((Cod.len _ _).trans (Cod.len _ _).symm)) (by kernel_rfl) (by kernel_rfl) rfl ?_
      refine OW.nil ?_
      refine OJ.run [6] [] [4, 5, 6, 16, 17, 15] (m2 := [(4, Sl.v a4), (5, .int .i64 a5), (6, .int .i64 a6), (16, .pointer (some (pt b3 0))), (17, .pointer (some (pt b5 0))), (15, .bool r4.2)]) (by kernel_rfl) (by kernel_rfl) ?_
      refine OJ.nil ?_
      refine SJ.seq (by kernel_rfl) ?_
      refine SJ.seq (by kernel_rfl) ?_
      refine SJ.region (id := 8) (by kernel_rfl) [0] (by kernel_rfl) ?_
      refine OJ.run [0] [] [4, 5, 6, 16, 17, 15, 18] (m2 := [(4, Sl.v a4), (5, .int .i64 a5), (6, .int .i64 a6), (16, .pointer (some (pt b3 0))), (17, .pointer (some (pt b5 0))), (15, .bool r4.2), (18, .int .i64 0)]) (by kernel_rfl) (by kernel_rfl) ?_
      refine OJ.nil ?_
      refine SJ.block (id := 0) (by kernel_rfl) ?_
      exact SJ.loop (fun s_ : (Bool × Int × weirlaw3_Side × weirlaw3_Side) => [(4, Sl.v a4), (5, .int .i64 a5), (6, .int .i64 a6), (16, .pointer (some (pt b3 0))), (17, .pointer (some (pt b5 0))), (15, .bool s_.1), (18, .int .i64 s_.2.1)]) (fun s_ : (Bool × Int × weirlaw3_Side × weirlaw3_Side) => [(b5, c_weirlaw3_Side.enc s_.2.2.1), (b3, c_weirlaw3_Side.enc s_.2.2.2)]) [4, 5, 6, 16, 17, 15, 18] (by kernel_rfl) (by kernel_rfl) rfl (fun _ _ => rfl) (fun s_ => weirlaw3_plays.L1_ok a4 a5 a6 b3 b5 s_.1 s_.2.1 s_.2.2.1 s_.2.2.2)

/-! ### weir/weirlaw3.RingFrames: function 6 -/
noncomputable def weirlaw3_RingFrames.B : Code := (Try.f6.body).getD .skip
noncomputable def weirlaw3_RingFrames.cx : Fx := ⟨Try.prog, 6, Try.f6⟩
noncomputable def weirlaw3_RingFrames.out (r_ : Bool) : Value := .bool r_
noncomputable def weirlaw3_RingFrames.F0 (r_ : Bool) : Reach := .ret (weirlaw3_RingFrames.out r_)
noncomputable def weirlaw3_RingFrames (a0 : Int) (a1 : Int) (a2 : Int) (a3 : Int) (a4 : Sl) : M Bool :=
  weirlaw3_plays a0 a1 a2 a3 a4 0 0 >>= fun r1 =>
  pure r1
theorem weirlaw3_RingFrames_ok (a0 : Int) (a1 : Int) (a2 : Int) (a3 : Int) (a4 : Sl) : Ref Try.prog 6 [.int .i64 a0, .int .i64 a1, .int .i64 a2, .int .i64 a3, Sl.v a4] (weirlaw3_RingFrames a0 a1 a2 a3 a4) weirlaw3_RingFrames.out := by
  refine Ref.of (cd := weirlaw3_RingFrames.B) Try.func6 (by kernel_rfl) (by kernel_rfl) ?_
  show SJ weirlaw3_RingFrames.cx [.code weirlaw3_RingFrames.B] [(0, .int .i64 a0), (1, .int .i64 a1), (2, .int .i64 a2), (3, .int .i64 a3), (4, Sl.v a4)] [] (weirlaw3_RingFrames a0 a1 a2 a3 a4) weirlaw3_RingFrames.F0
  unfold weirlaw3_RingFrames
  refine SJ.seq (by kernel_rfl) ?_
  refine SJ.region (id := 0) (by kernel_rfl) [0] (by kernel_rfl) ?_
  refine OJ.run [0] [] [0, 1, 2, 3, 4] (m2 := [(0, .int .i64 a0), (1, .int .i64 a1), (2, .int .i64 a2), (3, .int .i64 a3), (4, Sl.v a4)]) (by kernel_rfl) (by kernel_rfl) ?_
  refine OJ.nil ?_
  refine SJ.seq (by kernel_rfl) ?_
  refine SJ.region (id := 1) (by kernel_rfl) [0, 1, 2, 3, 4, 5, 6] (by kernel_rfl) ?_
  refine OJ.run [0, 1, 2, 3, 4] [5, 6] [11, 12, 13, 14, 15] (m2 := [(11, .int .i64 a0), (12, .int .i64 a1), (13, .int .i64 a2), (14, .int .i64 a3), (15, Sl.v a4)]) (by kernel_rfl) (by kernel_rfl) ?_
  refine OJ.call (d := 16) (g := 28) (ats := #[3, 3, 3, 3, 40, 3, 3]) (args := [.tmp 11, .tmp 12, .tmp 13, .tmp 14, .tmp 15, .const (.int .i64 0), .const (.int .i64 0)]) (vals := [.int .i64 a0, .int .i64 a1, .int .i64 a2, .int .i64 a3, Sl.v a4, .int .i64 0, .int .i64 0]) (owed := []) (by kernel_rfl) F28 (by kernel_rfl) (weirlaw3_plays_ok a0 a1 a2 a3 a4 0 0) (by kernel_rfl) (by kernel_rfl) (by kernel_rfl) (fun r1 => ?_)
  refine OW.nil ?_
  refine OJ.run [6] [] [10] (m2 := [(10, .bool r1)]) (by kernel_rfl) (by kernel_rfl) ?_
  refine OJ.nil ?_
  exact SJ.ret (by kernel_rfl) rfl (Res.run (ys := [.bool r1]) (.tmp (by kernel_rfl) .nil) rfl)

/-! ### weir/weirlaw3.RingCounts: function 7 -/
noncomputable def weirlaw3_RingCounts.B : Code := (Try.f7.body).getD .skip
noncomputable def weirlaw3_RingCounts.cx : Fx := ⟨Try.prog, 7, Try.f7⟩
noncomputable def weirlaw3_RingCounts.out (r_ : Bool) : Value := .bool r_
noncomputable def weirlaw3_RingCounts.F0 (r_ : Bool) : Reach := .ret (weirlaw3_RingCounts.out r_)
noncomputable def weirlaw3_RingCounts (a0 : Int) (a1 : Int) (a2 : Int) (a3 : Int) (a4 : Sl) : M Bool :=
  weirlaw3_plays a0 a1 a2 a3 a4 9 9 >>= fun r1 =>
  pure r1
theorem weirlaw3_RingCounts_ok (a0 : Int) (a1 : Int) (a2 : Int) (a3 : Int) (a4 : Sl) : Ref Try.prog 7 [.int .i64 a0, .int .i64 a1, .int .i64 a2, .int .i64 a3, Sl.v a4] (weirlaw3_RingCounts a0 a1 a2 a3 a4) weirlaw3_RingCounts.out := by
  refine Ref.of (cd := weirlaw3_RingCounts.B) Try.func7 (by kernel_rfl) (by kernel_rfl) ?_
  show SJ weirlaw3_RingCounts.cx [.code weirlaw3_RingCounts.B] [(0, .int .i64 a0), (1, .int .i64 a1), (2, .int .i64 a2), (3, .int .i64 a3), (4, Sl.v a4)] [] (weirlaw3_RingCounts a0 a1 a2 a3 a4) weirlaw3_RingCounts.F0
  unfold weirlaw3_RingCounts
  refine SJ.seq (by kernel_rfl) ?_
  refine SJ.region (id := 0) (by kernel_rfl) [0] (by kernel_rfl) ?_
  refine OJ.run [0] [] [0, 1, 2, 3, 4] (m2 := [(0, .int .i64 a0), (1, .int .i64 a1), (2, .int .i64 a2), (3, .int .i64 a3), (4, Sl.v a4)]) (by kernel_rfl) (by kernel_rfl) ?_
  refine OJ.nil ?_
  refine SJ.seq (by kernel_rfl) ?_
  refine SJ.region (id := 1) (by kernel_rfl) [0, 1, 2, 3, 4, 5, 6] (by kernel_rfl) ?_
  refine OJ.run [0, 1, 2, 3, 4] [5, 6] [11, 12, 13, 14, 15] (m2 := [(11, .int .i64 a0), (12, .int .i64 a1), (13, .int .i64 a2), (14, .int .i64 a3), (15, Sl.v a4)]) (by kernel_rfl) (by kernel_rfl) ?_
  refine OJ.call (d := 16) (g := 28) (ats := #[3, 3, 3, 3, 40, 3, 3]) (args := [.tmp 11, .tmp 12, .tmp 13, .tmp 14, .tmp 15, .const (.int .i64 9), .const (.int .i64 9)]) (vals := [.int .i64 a0, .int .i64 a1, .int .i64 a2, .int .i64 a3, Sl.v a4, .int .i64 9, .int .i64 9]) (owed := []) (by kernel_rfl) F28 (by kernel_rfl) (weirlaw3_plays_ok a0 a1 a2 a3 a4 9 9) (by kernel_rfl) (by kernel_rfl) (by kernel_rfl) (fun r1 => ?_)
  refine OW.nil ?_
  refine OJ.run [6] [] [10] (m2 := [(10, .bool r1)]) (by kernel_rfl) (by kernel_rfl) ?_
  refine OJ.nil ?_
  exact SJ.ret (by kernel_rfl) rfl (Res.run (ys := [.bool r1]) (.tmp (by kernel_rfl) .nil) rfl)

/-! ### weir/weirlaw3.RingPlays: function 8 -/
noncomputable def weirlaw3_RingPlays.B : Code := (Try.f8.body).getD .skip
noncomputable def weirlaw3_RingPlays.cx : Fx := ⟨Try.prog, 8, Try.f8⟩
noncomputable def weirlaw3_RingPlays.out (r_ : Bool) : Value := .bool r_
noncomputable def weirlaw3_RingPlays.F0 (r_ : Bool) : Reach := .ret (weirlaw3_RingPlays.out r_)
noncomputable def weirlaw3_RingPlays (a0 : Int) (a1 : Int) (a2 : Int) (a3 : Int) (a4 : Sl) : M Bool :=
  weirlaw3_plays a0 a1 a2 a3 a4 9 11 >>= fun r1 =>
  pure r1
theorem weirlaw3_RingPlays_ok (a0 : Int) (a1 : Int) (a2 : Int) (a3 : Int) (a4 : Sl) : Ref Try.prog 8 [.int .i64 a0, .int .i64 a1, .int .i64 a2, .int .i64 a3, Sl.v a4] (weirlaw3_RingPlays a0 a1 a2 a3 a4) weirlaw3_RingPlays.out := by
  refine Ref.of (cd := weirlaw3_RingPlays.B) Try.func8 (by kernel_rfl) (by kernel_rfl) ?_
  show SJ weirlaw3_RingPlays.cx [.code weirlaw3_RingPlays.B] [(0, .int .i64 a0), (1, .int .i64 a1), (2, .int .i64 a2), (3, .int .i64 a3), (4, Sl.v a4)] [] (weirlaw3_RingPlays a0 a1 a2 a3 a4) weirlaw3_RingPlays.F0
  unfold weirlaw3_RingPlays
  refine SJ.seq (by kernel_rfl) ?_
  refine SJ.region (id := 0) (by kernel_rfl) [0] (by kernel_rfl) ?_
  refine OJ.run [0] [] [0, 1, 2, 3, 4] (m2 := [(0, .int .i64 a0), (1, .int .i64 a1), (2, .int .i64 a2), (3, .int .i64 a3), (4, Sl.v a4)]) (by kernel_rfl) (by kernel_rfl) ?_
  refine OJ.nil ?_
  refine SJ.seq (by kernel_rfl) ?_
  refine SJ.region (id := 1) (by kernel_rfl) [0, 1, 2, 3, 4, 5, 6] (by kernel_rfl) ?_
  refine OJ.run [0, 1, 2, 3, 4] [5, 6] [11, 12, 13, 14, 15] (m2 := [(11, .int .i64 a0), (12, .int .i64 a1), (13, .int .i64 a2), (14, .int .i64 a3), (15, Sl.v a4)]) (by kernel_rfl) (by kernel_rfl) ?_
  refine OJ.call (d := 16) (g := 28) (ats := #[3, 3, 3, 3, 40, 3, 3]) (args := [.tmp 11, .tmp 12, .tmp 13, .tmp 14, .tmp 15, .const (.int .i64 9), .const (.int .i64 11)]) (vals := [.int .i64 a0, .int .i64 a1, .int .i64 a2, .int .i64 a3, Sl.v a4, .int .i64 9, .int .i64 11]) (owed := []) (by kernel_rfl) F28 (by kernel_rfl) (weirlaw3_plays_ok a0 a1 a2 a3 a4 9 11) (by kernel_rfl) (by kernel_rfl) (by kernel_rfl) (fun r1 => ?_)
  refine OW.nil ?_
  refine OJ.run [6] [] [10] (m2 := [(10, .bool r1)]) (by kernel_rfl) (by kernel_rfl) ?_
  refine OJ.nil ?_
  exact SJ.ret (by kernel_rfl) rfl (Res.run (ys := [.bool r1]) (.tmp (by kernel_rfl) .nil) rfl)

/-! ### weir/weirlaw3.RingMakes: function 9 -/
noncomputable def weirlaw3_RingMakes.B : Code := (Try.f9.body).getD .skip
noncomputable def weirlaw3_RingMakes.cx : Fx := ⟨Try.prog, 9, Try.f9⟩
noncomputable def weirlaw3_RingMakes.out (r_ : Bool) : Value := .bool r_
noncomputable def weirlaw3_RingMakes.F0 (r_ : Bool) : Reach := .ret (weirlaw3_RingMakes.out r_)
noncomputable def weirlaw3_RingMakes (a0 : Int) (a1 : Int) (a2 : Int) (a3 : Int) : M Bool :=
  weirlaw3_started >>= fun r1 =>
  weirlaw3_made a0 a1 a2 a3 >>= fun r2 =>
  slot 62 >>= fun b3 =>
  (if r1 = true then
      pure r2.2
    else
      pure false) >>= fun y4 =>
  (if y4 = true then
      weirlaw3_told r2.1 >>= fun r5 =>
      pure r5
    else
      pure false) >>= fun y6 =>
  pure y6
theorem weirlaw3_RingMakes_ok (a0 : Int) (a1 : Int) (a2 : Int) (a3 : Int) : Ref Try.prog 9 [.int .i64 a0, .int .i64 a1, .int .i64 a2, .int .i64 a3] (weirlaw3_RingMakes a0 a1 a2 a3) weirlaw3_RingMakes.out := by
  refine Ref.of (cd := weirlaw3_RingMakes.B) Try.func9 (by kernel_rfl) (by kernel_rfl) ?_
  show SJ weirlaw3_RingMakes.cx [.code weirlaw3_RingMakes.B] [(0, .int .i64 a0), (1, .int .i64 a1), (2, .int .i64 a2), (3, .int .i64 a3)] [] (weirlaw3_RingMakes a0 a1 a2 a3) weirlaw3_RingMakes.F0
  unfold weirlaw3_RingMakes
  refine SJ.seq (by kernel_rfl) ?_
  refine SJ.region (id := 0) (by kernel_rfl) [0] (by kernel_rfl) ?_
  refine OJ.run [0] [] [0, 1, 2, 3] (m2 := [(0, .int .i64 a0), (1, .int .i64 a1), (2, .int .i64 a2), (3, .int .i64 a3)]) (by kernel_rfl) (by kernel_rfl) ?_
  refine OJ.nil ?_
  refine SJ.seq (by kernel_rfl) ?_
  refine SJ.region (id := 1) (by kernel_rfl) [0, 1] (by kernel_rfl) ?_
  refine OJ.call (d := 12) (g := 29) (ats := #[]) (args := []) (vals := []) (owed := []) (by kernel_rfl) F29 (by kernel_rfl) (weirlaw3_started_ok ) (by kernel_rfl) (by kernel_rfl) (by kernel_rfl) (fun r1 => ?_)
  refine OW.nil ?_
  refine OJ.run [1] [] [0, 1, 2, 3, 9] (m2 := [(0, .int .i64 a0), (1, .int .i64 a1), (2, .int .i64 a2), (3, .int .i64 a3), (9, .bool r1)]) (by kernel_rfl) (by kernel_rfl) ?_
  refine OJ.nil ?_
  refine SJ.seq (by kernel_rfl) ?_
  refine SJ.region (id := 2) (by kernel_rfl) [0, 1, 2, 3, 4, 5, 6, 7, 8, 9, 10] (by kernel_rfl) ?_
  refine OJ.run [0, 1, 2, 3] [4, 5, 6, 7, 8, 9, 10] [9, 14, 15, 16, 17] (m2 := [(9, .bool r1), (14, .int .i64 a0), (15, .int .i64 a1), (16, .int .i64 a2), (17, .int .i64 a3)]) (by kernel_rfl) (by kernel_rfl) ?_
  refine OJ.call (d := 18) (g := 30) (ats := #[3, 3, 3, 3]) (args := [.tmp 14, .tmp 15, .tmp 16, .tmp 17]) (vals := [.int .i64 a0, .int .i64 a1, .int .i64 a2, .int .i64 a3]) (owed := []) (by kernel_rfl) F30 (by kernel_rfl) (weirlaw3_made_ok a0 a1 a2 a3) (by kernel_rfl) (by kernel_rfl) (by kernel_rfl) (fun r2 => ?_)
  refine OW.nil ?_
  refine OJ.run [5, 6, 7] [8, 9, 10] [9, 19, 20] (m2 := [(9, .bool r1), (19, c_weirlaw3_Side.val r2.1), (20, .bool r2.2)]) (by kernel_rfl) (by kernel_rfl) ?_
  refine OJ.slotOf (d := 10) (op := (.alloc 62)) (cd := c_weirlaw3_Side) (u := z_weirlaw3_Side) (owed := []) (by kernel_rfl) (alloc_run Ty62) (by kernel_rfl) (by kernel_rfl) (by kernel_rfl) (fun b3 => ?_)
  refine OW.nil ?_
  refine OJ.kst (T := 62) (y := .tmp 10) (z := .tmp 19) (cd := c_weirlaw3_Side) (u := r2.1) (j := 0) (b := b3) (o := 0) (c_weirlaw3_Side.enc r2.1) (h2 := [(b3, c_weirlaw3_Side.enc r2.1)]) (owed := []) (by kernel_rfl) (by kernel_rfl) (by kernel_rfl) Ty62 rfl (Upd.whole ((Cod.len _ _).trans (Cod.len _ _).symm)) (by kernel_rfl) (by kernel_rfl) rfl ?_
  refine OW.nil ?_
  refine OJ.run [10] [] [9, 10, 11] (m2 := [(9, .bool r1), (10, .pointer (some (pt b3 0))), (11, .bool r2.2)]) (by kernel_rfl) (by kernel_rfl) ?_
  refine OJ.nil ?_
  refine SJ.seq (by kernel_rfl) ?_
  refine SJ.region (id := 3) (by kernel_rfl) [0, 1, 2, 3, 4, 5, 6, 7, 8] (by kernel_rfl) ?_
  refine OJ.run [0, 1] [2, 3, 4, 5, 6, 7, 8] [10, 11, 22] (m2 := [(10, .pointer (some (pt b3 0))), (11, .bool r2.2), (22, .bool r1)]) (by kernel_rfl) (by kernel_rfl) ?_
  refine OJ.join (b := r1) [2, 3] [4, 5, 6, 7, 8] [10, 24] (fun y4 => [(10, .pointer (some (pt b3 0))), (24, .bool y4)]) [] [] (by kernel_rfl) (t := 22) (by kernel_rfl) Iff.rfl (fun hp_ => ?_) (fun hp_ => ?_) (by kernel_rfl) (fun _ _ _ _ _ _ h_ => h_) (fun y4 => ?_)
  · refine OJ.run [2, 3] [] [10, 24] (m2 := [(10, .pointer (some (pt b3 0))), (24, .bool r2.2)]) (by kernel_rfl) (by kernel_rfl) ?_
    exact OJ.nil ⟨(Cov.mem Cov.nil), rfl, _, rfl, by kernel_rfl⟩
  · refine OJ.run [2, 3] [] [10, 24] (m2 := [(10, .pointer (some (pt b3 0))), (24, .bool false)]) (by kernel_rfl) (by kernel_rfl) ?_
    exact OJ.nil ⟨(Cov.mem Cov.nil), rfl, _, rfl, by kernel_rfl⟩
  · refine OJ.run [4] [5, 6, 7, 8] [10, 25] (m2 := [(10, .pointer (some (pt b3 0))), (25, .bool y4)]) (by kernel_rfl) (by kernel_rfl) ?_
    refine OJ.join (b := y4) [5, 6, 7] [8] [28] (fun y6 => [(28, .bool y6)]) [] [] (by kernel_rfl) (t := 25) (by kernel_rfl) Iff.rfl (fun hp_ => ?_) (fun hp_ => ?_) (by kernel_rfl) (fun _ _ _ _ _ _ h_ => h_) (fun y6 => ?_)
    · refine OJ.kld (d := 26) (T := 62) (y := .tmp 10) (cd := c_weirlaw3_Side) (j := 0) (b := b3) (o := 0) r2.1 (pend2 := []) (by kernel_rfl) (by kernel_rfl) Ty62 (by kernel_rfl) rfl (At.whole _) (by kernel_rfl) rfl ?_
      refine OJ.call (d := 27) (g := 31) (ats := #[62]) (args := [.tmp 26]) (vals := [c_weirlaw3_Side.val r2.1]) (owed := []) (by kernel_rfl) F31 (by kernel_rfl) (weirlaw3_told_ok r2.1) (by kernel_rfl) (by kernel_rfl) (by kernel_rfl) (fun r5 => ?_)
      refine OW.nil ?_
      refine OJ.run [7] [] [28] (m2 := [(28, .bool r5)]) (by kernel_rfl) (by kernel_rfl) ?_
      exact OJ.nil ⟨(Cov.mem Cov.nil), rfl, _, rfl, by kernel_rfl⟩
    · refine OJ.run [5, 6, 7] [] [28] (m2 := [(28, .bool false)]) (by kernel_rfl) (by kernel_rfl) ?_
      exact OJ.nil ⟨(Cov.mem Cov.nil), rfl, _, rfl, by kernel_rfl⟩
    · refine OJ.run [8] [] [8] (m2 := [(8, .bool y6)]) (by kernel_rfl) (by kernel_rfl) ?_
      refine OJ.nil ?_
      exact SJ.ret (by kernel_rfl) rfl (Res.run (ys := [.bool y6]) (.tmp (by kernel_rfl) .nil) rfl)
end Go.Proofs.Ytoddkagehbcfjaa.Lx
