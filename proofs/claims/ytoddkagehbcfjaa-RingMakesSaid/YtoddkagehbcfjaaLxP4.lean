/- Programs of the M-world for Go functions, each with the proof that the Go text does what it says. Printed by lxgen.py. -/
import Derived.Test.YtoddkagehbcfjaaLxT
import Derived.Test.YtoddkagehbcfjaaLxP0
import Derived.Test.YtoddkagehbcfjaaLxP1
import Derived.Test.YtoddkagehbcfjaaLxP2
import Derived.Test.YtoddkagehbcfjaaLxP3
set_option linter.unusedVariables false
set_option linter.unusedSimpArgs false
namespace Go.Proofs.Ytoddkagehbcfjaa.Lx
open Go Go.Proofs
/-! ### weir/weirref3.Send: function 72 -/
noncomputable def weirref3_Send.B : Code := (Try.f72.body).getD .skip
noncomputable def weirref3_Send.cx : Fx := ⟨Try.prog, 72, Try.f72⟩
noncomputable def weirref3_Send.out (r_ : (weirref3_Port × Int)) : Value := .tuple #[c_weirref3_Port.val r_.1, .int .i64 r_.2]
noncomputable def weirref3_Send.F0 (r_ : (weirref3_Port × Int)) : Reach := .ret (weirref3_Send.out r_)
noncomputable def weirref3_Send (a0 : weirref3_Port) (a1 : Int) (a2 : Int) : M (weirref3_Port × Int) :=
  slot 59 >>= fun b1 =>
  slot 59 >>= fun b2 =>
  weirref3_out a1 0 (IntKind.wrap .i64 ((a0.L.len : Int) - 1)) >>= fun r3 =>
  (if r3 = true then
      pure true
    else
      weirref3_out a2 0 a0.Size >>= fun r4 =>
      pure r4) >>= fun y5 =>
  if y5 = true then
    pure (a0, 1)
  else
    idx a0.L.a a0.L.len a1 4 >>= fun p6 =>
    ld (cI .i64) p6 >>= fun x7 =>
    if x7 ≠ 4 then
      pure (a0, 34)
    else
      draw >>= fun _ =>
      weirref3_count a0 5 >>= fun r8 =>
      if r8 ≥ a0.Tx then
        pure (a0, 32)
      else
        idx a0.L.a a0.L.len a1 4 >>= fun p9 =>
        ld c_weirref3_Buf p9 >>= fun x10 =>
        slot 110 >>= fun b11 =>
        weirref3_put a0 a1 (⟨x10.Place, x10.Since, a2, x10.Data⟩ : weirref3_Buf) >>= fun r12 =>
        weirref3_moved r12 a1 5 >>= fun r13 =>
        pure (r13, 0)
theorem weirref3_Send_ok (a0 : weirref3_Port) (a1 : Int) (a2 : Int) : Ref Try.prog 72 [c_weirref3_Port.val a0, .int .i64 a1, .int .i64 a2] (weirref3_Send a0 a1 a2) weirref3_Send.out := by
  refine Ref.of (cd := weirref3_Send.B) Try.func72 (by kernel_rfl) (by kernel_rfl) ?_
  show SJ weirref3_Send.cx [.code weirref3_Send.B] [(0, c_weirref3_Port.val a0), (1, .int .i64 a1), (2, .int .i64 a2)] [] (weirref3_Send a0 a1 a2) weirref3_Send.F0
  unfold weirref3_Send
  refine SJ.seq (by kernel_rfl) ?_
  refine SJ.region (id := 0) (by kernel_rfl) [0, 1, 2] (by kernel_rfl) ?_
  refine OJ.slotOf (d := 3) (op := (.box 59 (.tmp 0))) (cd := c_weirref3_Port) (u := a0) (owed := []) (by kernel_rfl) (box_run (by kernel_rfl)) (by kernel_rfl) (by kernel_rfl) (by kernel_rfl) (fun b1 => ?_)
  refine OW.nil ?_
  refine OJ.slotOf (d := 6) (op := (.alloc 59)) (cd := c_weirref3_Port) (u := z_weirref3_Port) (owed := []) (by kernel_rfl) (alloc_run Ty59) (by kernel_rfl) (by kernel_rfl) (by kernel_rfl) (fun b2 => ?_)
  refine OW.nil ?_
  refine OJ.run [2] [] [1, 2, 3, 6] (m2 := [(1, .int .i64 a1), (2, .int .i64 a2), (3, .pointer (some (pt b1 0))), (6, .pointer (some (pt b2 0)))]) (by kernel_rfl) (by kernel_rfl) ?_
  refine OJ.nil ?_
  refine SJ.seq (by kernel_rfl) ?_
  refine SJ.seq (by kernel_rfl) ?_
  refine SJ.region (id := 1) (by kernel_rfl) [0, 1, 2, 3, 4, 5, 6, 7, 8, 9, 10, 11] (by kernel_rfl) ?_
  refine OJ.run [0, 1] [2, 3, 4, 5, 6, 7, 8, 9, 10, 11] [1, 2, 3, 6, 9, 10] (m2 := [(1, .int .i64 a1), (2, .int .i64 a2), (3, .pointer (some (pt b1 0))), (6, .pointer (some (pt b2 0))), (9, .int .i64 a1), (10, .pointer (some (pt b1 3)))]) (by kernel_rfl) (by kernel_rfl) ?_
  refine OJ.kld (d := 11) (T := 57) (y := .tmp 10) (cd := cL) (j := 1) (b := b1) (o := 3) a0.L (pend2 := []) (by kernel_rfl) (by kernel_rfl) Ty57 (by kernel_rfl) rfl (At_weirref3_Port_L a0) (by kernel_rfl) rfl ?_
  refine OJ.run [3, 4] [5, 6, 7, 8, 9, 10, 11] [1, 2, 3, 6, 9, 13] (m2 := [(1, .int .i64 a1), (2, .int .i64 a2), (3, .pointer (some (pt b1 0))), (6, .pointer (some (pt b2 0))), (9, .int .i64 a1), (13, .int .i64 (IntKind.wrap .i64 ((a0.L.len : Int) - 1)))]) (by kernel_rfl) (by kernel_rfl) ?_
  refine OJ.call (d := 14) (g := 62) (ats := #[3, 3, 3]) (args := [.tmp 9, .const (.int .i64 0), .tmp 13]) (vals := [.int .i64 a1, .int .i64 0, .int .i64 (IntKind.wrap .i64 ((a0.L.len : Int) - 1))]) (owed := []) (by kernel_rfl) F62 (by kernel_rfl) (weirref3_out_ok a1 0 (IntKind.wrap .i64 ((a0.L.len : Int) - 1))) (by kernel_rfl) (by kernel_rfl) (by kernel_rfl) (fun r3 => ?_)
  refine OW.nil ?_
  refine OJ.run [6] [7, 8, 9, 10, 11] [1, 2, 3, 6, 15] (m2 := [(1, .int .i64 a1), (2, .int .i64 a2), (3, .pointer (some (pt b1 0))), (6, .pointer (some (pt b2 0))), (15, .bool r3)]) (by kernel_rfl) (by kernel_rfl) ?_
  refine OJ.join (b := r3) [7, 8, 9, 10, 11] [] [1, 2, 3, 6, 20] (fun y5 => [(1, .int .i64 a1), (2, .int .i64 a2), (3, .pointer (some (pt b1 0))), (6, .pointer (some (pt b2 0))), (20, .bool y5)]) [] [] (by kernel_rfl) (t := 15) (by kernel_rfl) Iff.rfl (fun hp_ => ?_) (fun hp_ => ?_) (by kernel_rfl) (fun _ _ _ _ _ _ h_ => h_) (fun y5 => ?_)
  · refine OJ.run [7, 8, 9, 10, 11] [] [1, 2, 3, 6, 20] (m2 := [(1, .int .i64 a1), (2, .int .i64 a2), (3, .pointer (some (pt b1 0))), (6, .pointer (some (pt b2 0))), (20, .bool true)]) (by kernel_rfl) (by kernel_rfl) ?_
    exact OJ.nil ⟨(Cov.mem Cov.nil), rfl, _, rfl, by kernel_rfl⟩
  · refine OJ.run [7, 8] [9, 10, 11] [1, 2, 3, 6, 15, 16, 17] (m2 := [(1, .int .i64 a1), (2, .int .i64 a2), (3, .pointer (some (pt b1 0))), (6, .pointer (some (pt b2 0))), (15, .bool false), (16, .int .i64 a2), (17, .pointer (some (pt b1 2)))]) (by kernel_rfl) (by kernel_rfl) ?_
    refine OJ.kld (d := 18) (T := 3) (y := .tmp 17) (cd := (cI .i64)) (j := 1) (b := b1) (o := 2) a0.Size (pend2 := []) (by kernel_rfl) (by kernel_rfl) Ty3 (by kernel_rfl) rfl (At_weirref3_Port_Size a0) (by kernel_rfl) rfl ?_
    refine OJ.call (d := 19) (g := 62) (ats := #[3, 3, 3]) (args := [.tmp 16, .const (.int .i64 0), .tmp 18]) (vals := [.int .i64 a2, .int .i64 0, .int .i64 a0.Size]) (owed := []) (by kernel_rfl) F62 (by kernel_rfl) (weirref3_out_ok a2 0 a0.Size) (by kernel_rfl) (by kernel_rfl) (by kernel_rfl) (fun r4 => ?_)
    refine OW.nil ?_
    refine OJ.run [11] [] [1, 2, 3, 6, 20] (m2 := [(1, .int .i64 a1), (2, .int .i64 a2), (3, .pointer (some (pt b1 0))), (6, .pointer (some (pt b2 0))), (20, .bool r4)]) (by kernel_rfl) (by kernel_rfl) ?_
    exact OJ.nil ⟨(Cov.mem Cov.nil), rfl, _, rfl, by kernel_rfl⟩
  · refine OJ.nil ?_
    refine SJ.cond (t := (.tmp 20)) (b := y5) (by kernel_rfl) (by kernel_rfl) Iff.rfl (fun hc16 => ?_) (fun hc16 => ?_)
    · refine SJ.seq (by kernel_rfl) ?_
      refine SJ.region (id := 2) (by kernel_rfl) [0, 1, 2] (by kernel_rfl) ?_
      refine OJ.kld (d := 21) (T := 59) (y := .tmp 3) (cd := c_weirref3_Port) (j := 1) (b := b1) (o := 0) a0 (pend2 := []) (by kernel_rfl) (by kernel_rfl) Ty59 (by kernel_rfl) rfl (At.whole _) (by kernel_rfl) rfl ?_
      refine OJ.kst (T := 59) (y := .tmp 6) (z := .tmp 21) (cd := c_weirref3_Port) (u := a0) (j := 0) (b := b2) (o := 0) (c_weirref3_Port.enc a0) (h2 := [(b2, c_weirref3_Port.enc a0), (b1, c_weirref3_Port.enc a0)]) (owed := []) (by kernel_rfl) (by kernel_rfl) (by kernel_rfl) Ty59 rfl (Upd.whole ((Cod.len _ _).trans (Cod.len _ _).symm)) (by kernel_rfl) (by kernel_rfl) rfl ?_
      refine OW.nil ?_
      refine OJ.run [2] [] [6, 7] (m2 := [(6, .pointer (some (pt b2 0))), (7, .int .i64 1)]) (by kernel_rfl) (by kernel_rfl) ?_
      refine OJ.nil ?_
      exact SJ.ret (by kernel_rfl) rfl (Res.run (ys := [c_weirref3_Port.val a0, .int .i64 1]) (.cell (j := 0) (b := b2) (cd := c_weirref3_Port) (q := a0) (by kernel_rfl) rfl Ty59 (At.whole _) (.tmp (by kernel_rfl) .nil)) rfl)
    · refine SJ.skip (by kernel_rfl) ?_
      refine SJ.seq (by kernel_rfl) ?_
      refine SJ.seq (by kernel_rfl) ?_
      refine SJ.region (id := 3) (by kernel_rfl) [0, 1, 2, 3, 4, 5, 6] (by kernel_rfl) ?_
      refine OJ.run [0] [1, 2, 3, 4, 5, 6] [1, 2, 3, 6, 22] (m2 := [(1, .int .i64 a1), (2, .int .i64 a2), (3, .pointer (some (pt b1 0))), (6, .pointer (some (pt b2 0))), (22, .pointer (some (pt b1 3)))]) (by kernel_rfl) (by kernel_rfl) ?_
      refine OJ.kld (d := 23) (T := 57) (y := .tmp 22) (cd := cL) (j := 1) (b := b1) (o := 3) a0.L (pend2 := []) (by kernel_rfl) (by kernel_rfl) Ty57 (by kernel_rfl) rfl (At_weirref3_Port_L a0) (by kernel_rfl) rfl ?_
      refine OJ.run [2] [3, 4, 5, 6] [1, 2, 3, 6, 23, 24] (m2 := [(1, .int .i64 a1), (2, .int .i64 a2), (3, .pointer (some (pt b1 0))), (6, .pointer (some (pt b2 0))), (23, Sl.v a0.L), (24, .int .i64 a1)]) (by kernel_rfl) (by kernel_rfl) ?_
      refine OJ.idxS (d := 25) (T := 57) (y := .tmp 23) (j := .tmp 24) (E := 110) (cap := a0.L.cap) (k := .i64) (by kernel_rfl) (by kernel_rfl) (by kernel_rfl) (by kernel_rfl) (by kernel_rfl) (by kernel_rfl) (by kernel_rfl) (by kernel_rfl) (fun p6 => ?_)
      refine OJ.run [4] [5, 6] [1, 2, 3, 6, 26] (m2 := [(1, .int .i64 a1), (2, .int .i64 a2), (3, .pointer (some (pt b1 0))), (6, .pointer (some (pt b2 0))), (26, .pointer (some p6))]) (by kernel_rfl) (by kernel_rfl) ?_
      refine OJ.ld (d := 27) (T := 3) (y := .tmp 26) (pend2 := fun x7 => []) (by kernel_rfl) (by kernel_rfl) Ty3 (by kernel_rfl) (by kernel_rfl) (fun _ => rfl) (fun x7 => ?_)
      refine OJ.run [6] [] [1, 2, 3, 6, 28] (m2 := [(1, .int .i64 a1), (2, .int .i64 a2), (3, .pointer (some (pt b1 0))), (6, .pointer (some (pt b2 0))), (28, .bool (x7 != 4))]) (by kernel_rfl) (by kernel_rfl) ?_
      refine OJ.nil ?_
      refine SJ.cond (t := (.tmp 28)) (b := (x7 != 4)) (by kernel_rfl) (by kernel_rfl) bne_iff_ne (fun hc15 => ?_) (fun hc15 => ?_)
      · refine SJ.seq (by kernel_rfl) ?_
        refine SJ.region (id := 4) (by kernel_rfl) [0, 1, 2] (by kernel_rfl) ?_
        refine OJ.kld (d := 29) (T := 59) (y := .tmp 3) (cd := c_weirref3_Port) (j := 1) (b := b1) (o := 0) a0 (pend2 := []) (by kernel_rfl) (by kernel_rfl) Ty59 (by kernel_rfl) rfl (At.whole _) (by kernel_rfl) rfl ?_
        refine OJ.kst (T := 59) (y := .tmp 6) (z := .tmp 29) (cd := c_weirref3_Port) (u := a0) (j := 0) (b := b2) (o := 0) (c_weirref3_Port.enc a0) (h2 := [(b2, c_weirref3_Port.enc a0), (b1, c_weirref3_Port.enc a0)]) (owed := []) (by kernel_rfl) (by kernel_rfl) (by kernel_rfl) Ty59 rfl (Upd.whole ((Cod.len _ _).trans (Cod.len _ _).symm)) (by kernel_rfl) (by kernel_rfl) rfl ?_
        refine OW.nil ?_
        refine OJ.run [2] [] [6, 7] (m2 := [(6, .pointer (some (pt b2 0))), (7, .int .i64 34)]) (by kernel_rfl) (by kernel_rfl) ?_
        refine OJ.nil ?_
        exact SJ.ret (by kernel_rfl) rfl (Res.run (ys := [c_weirref3_Port.val a0, .int .i64 34]) (.cell (j := 0) (b := b2) (cd := c_weirref3_Port) (q := a0) (by kernel_rfl) rfl Ty59 (At.whole _) (.tmp (by kernel_rfl) .nil)) rfl)
      · refine SJ.skip (by kernel_rfl) ?_
        refine SJ.seq (by kernel_rfl) ?_
        refine SJ.seq (by kernel_rfl) ?_
        refine SJ.draw (id := 5) (kd := [1, 2, 0, 1, 0]) (bef := [0, 1, 0, 4, 15]) (ord := [0, 2, 3, 1, 4]) (by kernel_rfl) mixed (by kernel_rfl) ?_
        refine OJ.kld (d := 30) (T := 59) (y := .tmp 3) (cd := c_weirref3_Port) (j := 1) (b := b1) (o := 0) a0 (pend2 := [⟨0, 59, (pt b1 0), c_weirref3_Port.val a0⟩]) (by kernel_rfl) (by kernel_rfl) Ty59 (by kernel_rfl) rfl (At.whole _) (by kernel_rfl) rfl ?_
        refine OJ.run [2] [3, 1, 4] [1, 2, 3, 6, 30, 32] (m2 := [(1, .int .i64 a1), (2, .int .i64 a2), (3, .pointer (some (pt b1 0))), (6, .pointer (some (pt b2 0))), (30, c_weirref3_Port.val a0), (32, .pointer (some (pt b1 1)))]) (by kernel_rfl) (by kernel_rfl) ?_
        refine OJ.kld (d := 33) (T := 3) (y := .tmp 32) (cd := (cI .i64)) (j := 1) (b := b1) (o := 1) a0.Tx (pend2 := [⟨3, 3, (pt b1 1), (cI .i64).val a0.Tx⟩, ⟨0, 59, (pt b1 0), c_weirref3_Port.val a0⟩]) (by kernel_rfl) (by kernel_rfl) Ty3 (by kernel_rfl) rfl (At_weirref3_Port_Tx a0) (by kernel_rfl) rfl ?_
        refine OJ.call (d := 31) (g := 63) (ats := #[59, 3]) (args := [.tmp 30, .const (.int .i64 5)]) (vals := [c_weirref3_Port.val a0, .int .i64 5]) (owed := [⟨3, 3, (pt b1 1), (cI .i64).val a0.Tx⟩]) (by kernel_rfl) F63 (by kernel_rfl) (weirref3_count_ok a0 5) (by kernel_rfl) (by kernel_rfl) (by kernel_rfl) (fun r8 => ?_)
        refine OW.known (j := 1) (q := a0.Tx) Ty3 rfl (At_weirref3_Port_Tx a0) ?_
        refine OW.nil ?_
        refine OJ.run [4] [] [1, 2, 3, 6, 34] (m2 := [(1, .int .i64 a1), (2, .int .i64 a2), (3, .pointer (some (pt b1 0))), (6, .pointer (some (pt b2 0))), (34, .bool (decide (r8 ≥ a0.Tx)))]) (by kernel_rfl) (by kernel_rfl) ?_
        refine OJ.nil ?_
        refine SJ.cond (t := (.tmp 34)) (b := decide (r8 ≥ a0.Tx)) (by kernel_rfl) (by kernel_rfl) decide_eq_true_iff (fun hc14 => ?_) (fun hc14 => ?_)
        · refine SJ.seq (by kernel_rfl) ?_
          refine SJ.region (id := 6) (by kernel_rfl) [0, 1, 2] (by kernel_rfl) ?_
          refine OJ.kld (d := 35) (T := 59) (y := .tmp 3) (cd := c_weirref3_Port) (j := 1) (b := b1) (o := 0) a0 (pend2 := []) (by kernel_rfl) (by kernel_rfl) Ty59 (by kernel_rfl) rfl (At.whole _) (by kernel_rfl) rfl ?_
          refine OJ.kst (T := 59) (y := .tmp 6) (z := .tmp 35) (cd := c_weirref3_Port) (u := a0) (j := 0) (b := b2) (o := 0) (c_weirref3_Port.enc a0) (h2 := [(b2, c_weirref3_Port.enc a0), (b1, c_weirref3_Port.enc a0)]) (owed := []) (by kernel_rfl) (by kernel_rfl) (by kernel_rfl) Ty59 rfl (Upd.whole ((Cod.len _ _).trans (Cod.len _ _).symm)) (by kernel_rfl) (by kernel_rfl) rfl ?_
          refine OW.nil ?_
          refine OJ.run [2] [] [6, 7] (m2 := [(6, .pointer (some (pt b2 0))), (7, .int .i64 32)]) (by kernel_rfl) (by kernel_rfl) ?_
          refine OJ.nil ?_
          exact SJ.ret (by kernel_rfl) rfl (Res.run (ys := [c_weirref3_Port.val a0, .int .i64 32]) (.cell (j := 0) (b := b2) (cd := c_weirref3_Port) (q := a0) (by kernel_rfl) rfl Ty59 (At.whole _) (.tmp (by kernel_rfl) .nil)) rfl)
        · refine SJ.skip (by kernel_rfl) ?_
          refine SJ.seq (by kernel_rfl) ?_
          refine SJ.region (id := 7) (by kernel_rfl) [0, 1, 2, 3, 4, 5, 6] (by kernel_rfl) ?_
          refine OJ.run [0] [1, 2, 3, 4, 5, 6] [1, 2, 3, 6, 36] (m2 := [(1, .int .i64 a1), (2, .int .i64 a2), (3, .pointer (some (pt b1 0))), (6, .pointer (some (pt b2 0))), (36, .pointer (some (pt b1 3)))]) (by kernel_rfl) (by kernel_rfl) ?_
          refine OJ.kld (d := 37) (T := 57) (y := .tmp 36) (cd := cL) (j := 1) (b := b1) (o := 3) a0.L (pend2 := []) (by kernel_rfl) (by kernel_rfl) Ty57 (by kernel_rfl) rfl (At_weirref3_Port_L a0) (by kernel_rfl) rfl ?_
          refine OJ.run [2] [3, 4, 5, 6] [1, 2, 3, 6, 37, 38] (m2 := [(1, .int .i64 a1), (2, .int .i64 a2), (3, .pointer (some (pt b1 0))), (6, .pointer (some (pt b2 0))), (37, Sl.v a0.L), (38, .int .i64 a1)]) (by kernel_rfl) (by kernel_rfl) ?_
          refine OJ.idxS (d := 39) (T := 57) (y := .tmp 37) (j := .tmp 38) (E := 110) (cap := a0.L.cap) (k := .i64) (by kernel_rfl) (by kernel_rfl) (by kernel_rfl) (by kernel_rfl) (by kernel_rfl) (by kernel_rfl) (by kernel_rfl) (by kernel_rfl) (fun p9 => ?_)
          refine OJ.ld (d := 40) (T := 110) (y := .tmp 39) (pend2 := fun x10 => []) (by kernel_rfl) (by kernel_rfl) Ty110 (by kernel_rfl) (by kernel_rfl) (fun _ => rfl) (fun x10 => ?_)
          refine OJ.slotOf (d := 8) (op := (.alloc 110)) (cd := c_weirref3_Buf) (u := z_weirref3_Buf) (owed := []) (by kernel_rfl) (alloc_run Ty110) (by kernel_rfl) (by kernel_rfl) (by kernel_rfl) (fun b11 => ?_)
          refine OW.nil ?_
          refine OJ.kst (T := 110) (y := .tmp 8) (z := .tmp 40) (cd := c_weirref3_Buf) (u := x10) (j := 0) (b := b11) (o := 0) (c_weirref3_Buf.enc x10) (h2 := [(b11, c_weirref3_Buf.enc x10), (b2, c_weirref3_Port.enc z_weirref3_Port), (b1, c_weirref3_Port.enc a0)]) (owed := []) (by kernel_rfl) (by kernel_rfl) (by kernel_rfl) Ty110 rfl (Upd.whole ((Cod.len _ _).trans (Cod.len _ _).symm)) (by kernel_rfl) (by kernel_rfl) rfl ?_
          refine OW.nil ?_
          refine OJ.nil ?_
          refine SJ.seq (by kernel_rfl) ?_
          refine SJ.region (id := 8) (by kernel_rfl) [0, 1, 2] (by kernel_rfl) ?_
          refine OJ.run [0, 1] [2] [1, 3, 6, 8, 41, 42] (m2 := [(1, .int .i64 a1), (3, .pointer (some (pt b1 0))), (6, .pointer (some (pt b2 0))), (8, .pointer (some (pt b11 0))), (41, .int .i64 a2), (42, .pointer (some (pt b11 2)))]) (by kernel_rfl) (by kernel_rfl) ?_
          refine OJ.kst (T := 3) (y := .tmp 42) (z := .tmp 41) (cd := (cI .i64)) (u := a2) (j := 0) (b := b11) (o := 2) (c_weirref3_Buf.enc (⟨x10.Place, x10.Since, a2, x10.Data⟩ : weirref3_Buf)) (h2 := [(b11, c_weirref3_Buf.enc (⟨x10.Place, x10.Since, a2, x10.Data⟩ : weirref3_Buf)), (b2, c_weirref3_Port.enc z_weirref3_Port), (b1, c_weirref3_Port.enc a0)]) (owed := []) (by kernel_rfl) (by kernel_rfl) (by kernel_rfl) Ty3 rfl (Up_weirref3_Buf_N x10 a2) (by kernel_rfl) (by kernel_rfl) rfl ?_
          refine OW.nil ?_
          refine OJ.nil ?_
          refine SJ.seq (by kernel_rfl) ?_
          refine SJ.region (id := 9) (by kernel_rfl) [0, 1, 2, 3, 4] (by kernel_rfl) ?_
          refine OJ.kld (d := 43) (T := 59) (y := .tmp 3) (cd := c_weirref3_Port) (j := 2) (b := b1) (o := 0) a0 (pend2 := []) (by kernel_rfl) (by kernel_rfl) Ty59 (by kernel_rfl) rfl (At.whole _) (by kernel_rfl) rfl ?_
          refine OJ.run [1] [2, 3, 4] [1, 3, 6, 8, 43, 44] (m2 := [(1, .int .i64 a1), (3, .pointer (some (pt b1 0))), (6, .pointer (some (pt b2 0))), (8, .pointer (some (pt b11 0))), (43, c_weirref3_Port.val a0), (44, .int .i64 a1)]) (by kernel_rfl) (by kernel_rfl) ?_
          refine OJ.kld (d := 45) (T := 110) (y := .tmp 8) (cd := c_weirref3_Buf) (j := 0) (b := b11) (o := 0) (⟨x10.Place, x10.Since, a2, x10.Data⟩ : weirref3_Buf) (pend2 := []) (by kernel_rfl) (by kernel_rfl) Ty110 (by kernel_rfl) rfl (At.whole _) (by kernel_rfl) rfl ?_
          refine OJ.call (d := 46) (g := 79) (ats := #[59, 3, 110]) (args := [.tmp 43, .tmp 44, .tmp 45]) (vals := [c_weirref3_Port.val a0, .int .i64 a1, c_weirref3_Buf.val (⟨x10.Place, x10.Since, a2, x10.Data⟩ : weirref3_Buf)]) (owed := []) (by kernel_rfl) F79 (by kernel_rfl) (weirref3_put_ok a0 a1 (⟨x10.Place, x10.Since, a2, x10.Data⟩ : weirref3_Buf)) (by kernel_rfl) (by kernel_rfl) (by kernel_rfl) (fun r12 => ?_)
          refine OW.nil ?_
          refine OJ.kst (T := 59) (y := .tmp 3) (z := .tmp 46) (cd := c_weirref3_Port) (u := r12) (j := 2) (b := b1) (o := 0) (c_weirref3_Port.enc r12) (h2 := [(b11, c_weirref3_Buf.enc (⟨x10.Place, x10.Since, a2, x10.Data⟩ : weirref3_Buf)), (b2, c_weirref3_Port.enc z_weirref3_Port), (b1, c_weirref3_Port.enc r12)]) (owed := []) (by kernel_rfl) (by kernel_rfl) (by kernel_rfl) Ty59 rfl (Upd.whole ((Cod.len _ _).trans (Cod.len _ _).symm)) (by kernel_rfl) (by kernel_rfl) rfl ?_
          refine OW.nil ?_
          refine OJ.nil ?_
          refine SJ.seq (by kernel_rfl) ?_
          refine SJ.region (id := 10) (by kernel_rfl) [0, 1, 2, 3, 4] (by kernel_rfl) ?_
          refine OJ.kld (d := 47) (T := 59) (y := .tmp 3) (cd := c_weirref3_Port) (j := 2) (b := b1) (o := 0) r12 (pend2 := []) (by kernel_rfl) (by kernel_rfl) Ty59 (by kernel_rfl) rfl (At.whole _) (by kernel_rfl) rfl ?_
          refine OJ.run [1] [2, 3, 4] [6, 47, 48] (m2 := [(6, .pointer (some (pt b2 0))), (47, c_weirref3_Port.val r12), (48, .int .i64 a1)]) (by kernel_rfl) (by kernel_rfl) ?_
          refine OJ.call (d := 49) (g := 80) (ats := #[59, 3, 3]) (args := [.tmp 47, .tmp 48, .const (.int .i64 5)]) (vals := [c_weirref3_Port.val r12, .int .i64 a1, .int .i64 5]) (owed := []) (by kernel_rfl) F80 (by kernel_rfl) (weirref3_moved_ok r12 a1 5) (by kernel_rfl) (by kernel_rfl) (by kernel_rfl) (fun r13 => ?_)
          refine OW.nil ?_
          refine OJ.kst (T := 59) (y := .tmp 6) (z := .tmp 49) (cd := c_weirref3_Port) (u := r13) (j := 1) (b := b2) (o := 0) (c_weirref3_Port.enc r13) (h2 := [(b11, c_weirref3_Buf.enc (⟨x10.Place, x10.Since, a2, x10.Data⟩ : weirref3_Buf)), (b2, c_weirref3_Port.enc r13), (b1, c_weirref3_Port.enc r12)]) (owed := []) (by kernel_rfl) (by kernel_rfl) (by kernel_rfl) Ty59 rfl (Upd.whole ((Cod.len _ _).trans (Cod.len _ _).symm)) (by kernel_rfl) (by kernel_rfl) rfl ?_
          refine OW.nil ?_
          refine OJ.run [4] [] [6, 7] (m2 := [(6, .pointer (some (pt b2 0))), (7, .int .i64 0)]) (by kernel_rfl) (by kernel_rfl) ?_
          refine OJ.nil ?_
          exact SJ.ret (by kernel_rfl) rfl (Res.run (ys := [c_weirref3_Port.val r13, .int .i64 0]) (.cell (j := 1) (b := b2) (cd := c_weirref3_Port) (q := r13) (by kernel_rfl) rfl Ty59 (At.whole _) (.tmp (by kernel_rfl) .nil)) rfl)

/-! ### weir/weirref3.Drain: function 73 -/
noncomputable def weirref3_Drain.B : Code := (Try.f73.body).getD .skip
noncomputable def weirref3_Drain.cx : Fx := ⟨Try.prog, 73, Try.f73⟩
noncomputable def weirref3_Drain.out (r_ : (weirref3_Port × Sl × Bool)) : Value := .tuple #[c_weirref3_Port.val r_.1, Sl.v r_.2.1, .bool r_.2.2]
noncomputable def weirref3_Drain.F0 (r_ : (weirref3_Port × Sl × Bool)) : Reach := .ret (weirref3_Drain.out r_)
noncomputable def weirref3_Drain (a0 : weirref3_Port) : M (weirref3_Port × Sl × Bool) :=
  slot 59 >>= fun b1 =>
  slot 59 >>= fun b2 =>
  weirref3_first a0 5 >>= fun r3 =>
  if r3 < 0 then
    pure (a0, Sl.nil, false)
  else
    draw >>= fun _ =>
    idx a0.L.a a0.L.len r3 4 >>= fun p4 =>
    ld (cI .i64) (Addr.add p4 2) >>= fun x5 =>
    weirref3_Bytes a0 r3 x5 >>= fun r6 =>
    weirref3_moved a0 r3 1 >>= fun r7 =>
    pure (r7, r6, true)
theorem weirref3_Drain_ok (a0 : weirref3_Port) : Ref Try.prog 73 [c_weirref3_Port.val a0] (weirref3_Drain a0) weirref3_Drain.out := by
  refine Ref.of (cd := weirref3_Drain.B) Try.func73 (by kernel_rfl) (by kernel_rfl) ?_
  show SJ weirref3_Drain.cx [.code weirref3_Drain.B] [(0, c_weirref3_Port.val a0)] [] (weirref3_Drain a0) weirref3_Drain.F0
  unfold weirref3_Drain
  refine SJ.seq (by kernel_rfl) ?_
  refine SJ.region (id := 0) (by kernel_rfl) [0, 1, 2, 3] (by kernel_rfl) ?_
  refine OJ.slotOf (d := 1) (op := (.box 59 (.tmp 0))) (cd := c_weirref3_Port) (u := a0) (owed := []) (by kernel_rfl) (box_run (by kernel_rfl)) (by kernel_rfl) (by kernel_rfl) (by kernel_rfl) (fun b1 => ?_)
  refine OW.nil ?_
  refine OJ.slotOf (d := 2) (op := (.alloc 59)) (cd := c_weirref3_Port) (u := z_weirref3_Port) (owed := []) (by kernel_rfl) (alloc_run Ty59) (by kernel_rfl) (by kernel_rfl) (by kernel_rfl) (fun b2 => ?_)
  refine OW.nil ?_
  refine OJ.run [2, 3] [] [1, 2] (m2 := [(1, .pointer (some (pt b1 0))), (2, .pointer (some (pt b2 0)))]) (by kernel_rfl) (by kernel_rfl) ?_
  refine OJ.nil ?_
  refine SJ.seq (by kernel_rfl) ?_
  refine SJ.region (id := 1) (by kernel_rfl) [0, 1, 2] (by kernel_rfl) ?_
  refine OJ.kld (d := 7) (T := 59) (y := .tmp 1) (cd := c_weirref3_Port) (j := 1) (b := b1) (o := 0) a0 (pend2 := []) (by kernel_rfl) (by kernel_rfl) Ty59 (by kernel_rfl) rfl (At.whole _) (by kernel_rfl) rfl ?_
  refine OJ.call (d := 8) (g := 77) (ats := #[59, 3]) (args := [.tmp 7, .const (.int .i64 5)]) (vals := [c_weirref3_Port.val a0, .int .i64 5]) (owed := []) (by kernel_rfl) F77 (by kernel_rfl) (weirref3_first_ok a0 5) (by kernel_rfl) (by kernel_rfl) (by kernel_rfl) (fun r3 => ?_)
  refine OW.nil ?_
  refine OJ.run [2] [] [1, 2, 5] (m2 := [(1, .pointer (some (pt b1 0))), (2, .pointer (some (pt b2 0))), (5, .int .i64 r3)]) (by kernel_rfl) (by kernel_rfl) ?_
  refine OJ.nil ?_
  refine SJ.seq (by kernel_rfl) ?_
  refine SJ.seq (by kernel_rfl) ?_
  refine SJ.region (id := 2) (by kernel_rfl) [0, 1] (by kernel_rfl) ?_
  refine OJ.run [0, 1] [] [1, 2, 5, 10] (m2 := [(1, .pointer (some (pt b1 0))), (2, .pointer (some (pt b2 0))), (5, .int .i64 r3), (10, .bool (decide (r3 < 0)))]) (by kernel_rfl) (by kernel_rfl) ?_
  refine OJ.nil ?_
  refine SJ.cond (t := (.tmp 10)) (b := decide (r3 < 0)) (by kernel_rfl) (by kernel_rfl) decide_eq_true_iff (fun hc8 => ?_) (fun hc8 => ?_)
  · refine SJ.seq (by kernel_rfl) ?_
    refine SJ.region (id := 3) (by kernel_rfl) [0, 1, 2, 3] (by kernel_rfl) ?_
    refine OJ.kld (d := 11) (T := 59) (y := .tmp 1) (cd := c_weirref3_Port) (j := 1) (b := b1) (o := 0) a0 (pend2 := []) (by kernel_rfl) (by kernel_rfl) Ty59 (by kernel_rfl) rfl (At.whole _) (by kernel_rfl) rfl ?_
    refine OJ.kst (T := 59) (y := .tmp 2) (z := .tmp 11) (cd := c_weirref3_Port) (u := a0) (j := 0) (b := b2) (o := 0) (c_weirref3_Port.enc a0) (h2 := [(b2, c_weirref3_Port.enc a0), (b1, c_weirref3_Port.enc a0)]) (owed := []) (by kernel_rfl) (by kernel_rfl) (by kernel_rfl) Ty59 rfl (Upd.whole ((Cod.len _ _).trans (Cod.len _ _).symm)) (by kernel_rfl) (by kernel_rfl) rfl ?_
    refine OW.nil ?_
    refine OJ.run [2, 3] [] [2, 3, 4] (m2 := [(2, .pointer (some (pt b2 0))), (3, Sl.v Sl.nil), (4, .bool false)]) (by kernel_rfl) (by kernel_rfl) ?_
    refine OJ.nil ?_
    exact SJ.ret (by kernel_rfl) rfl (Res.run (ys := [c_weirref3_Port.val a0, Sl.v Sl.nil, .bool false]) (.cell (j := 0) (b := b2) (cd := c_weirref3_Port) (q := a0) (by kernel_rfl) rfl Ty59 (At.whole _) (.tmp (by kernel_rfl) (.tmp (by kernel_rfl) .nil))) rfl)
  · refine SJ.skip (by kernel_rfl) ?_
    refine SJ.seq (by kernel_rfl) ?_
    refine SJ.draw (id := 4) (kd := [1, 0, 0, 1, 0, 0, 0, 1, 2, 0]) (bef := [0, 0, 0, 4, 0, 28, 60, 124, 255, 511]) (ord := [0, 1, 2, 3, 4, 5, 6, 7, 8, 9]) (by kernel_rfl) mixed (by kernel_rfl) ?_
    refine OJ.kld (d := 12) (T := 59) (y := .tmp 1) (cd := c_weirref3_Port) (j := 1) (b := b1) (o := 0) a0 (pend2 := [⟨0, 59, (pt b1 0), c_weirref3_Port.val a0⟩]) (by kernel_rfl) (by kernel_rfl) Ty59 (by kernel_rfl) rfl (At.whole _) (by kernel_rfl) rfl ?_
    refine OJ.run [1, 2] [3, 4, 5, 6, 7, 8, 9] [1, 2, 5, 12, 13, 14] (m2 := [(1, .pointer (some (pt b1 0))), (2, .pointer (some (pt b2 0))), (5, .int .i64 r3), (12, c_weirref3_Port.val a0), (13, .int .i64 r3), (14, .pointer (some (pt b1 3)))]) (by kernel_rfl) (by kernel_rfl) ?_
    refine OJ.kld (d := 15) (T := 57) (y := .tmp 14) (cd := cL) (j := 1) (b := b1) (o := 3) a0.L (pend2 := [⟨3, 57, (pt b1 3), cL.val a0.L⟩, ⟨0, 59, (pt b1 0), c_weirref3_Port.val a0⟩]) (by kernel_rfl) (by kernel_rfl) Ty57 (by kernel_rfl) rfl (At_weirref3_Port_L a0) (by kernel_rfl) rfl ?_
    refine OJ.run [4] [5, 6, 7, 8, 9] [1, 2, 5, 12, 13, 15, 16] (m2 := [(1, .pointer (some (pt b1 0))), (2, .pointer (some (pt b2 0))), (5, .int .i64 r3), (12, c_weirref3_Port.val a0), (13, .int .i64 r3), (15, Sl.v a0.L), (16, .int .i64 r3)]) (by kernel_rfl) (by kernel_rfl) ?_
    refine OJ.idxS (d := 17) (T := 57) (y := .tmp 15) (j := .tmp 16) (E := 110) (cap := a0.L.cap) (k := .i64) (by kernel_rfl) (by kernel_rfl) (by kernel_rfl) (by kernel_rfl) (by kernel_rfl) (by kernel_rfl) (by kernel_rfl) (by kernel_rfl) (fun p4 => ?_)
    refine OJ.run [6] [7, 8, 9] [1, 2, 5, 12, 13, 18] (m2 := [(1, .pointer (some (pt b1 0))), (2, .pointer (some (pt b2 0))), (5, .int .i64 r3), (12, c_weirref3_Port.val a0), (13, .int .i64 r3), (18, .pointer (some (Addr.add p4 2)))]) (by kernel_rfl) (by kernel_rfl) ?_
    refine OJ.ld (d := 19) (T := 3) (y := .tmp 18) (pend2 := fun x5 => [⟨7, 3, (Addr.add p4 2), (cI .i64).val x5⟩, ⟨3, 57, (pt b1 3), cL.val a0.L⟩, ⟨0, 59, (pt b1 0), c_weirref3_Port.val a0⟩]) (by kernel_rfl) (by kernel_rfl) Ty3 (by kernel_rfl) (by kernel_rfl) (fun _ => rfl) (fun x5 => ?_)
    refine OJ.call (d := 20) (g := 76) (ats := #[59, 3, 3]) (args := [.tmp 12, .tmp 13, .tmp 19]) (vals := [c_weirref3_Port.val a0, .int .i64 r3, .int .i64 x5]) (owed := []) (by kernel_rfl) F76 (by kernel_rfl) (weirref3_Bytes_ok a0 r3 x5) (by kernel_rfl) (by kernel_rfl) (by kernel_rfl) (fun r6 => ?_)
    refine OW.nil ?_
    refine OJ.run [9] [] [1, 2, 5, 6] (m2 := [(1, .pointer (some (pt b1 0))), (2, .pointer (some (pt b2 0))), (5, .int .i64 r3), (6, Sl.v r6)]) (by kernel_rfl) (by kernel_rfl) ?_
    refine OJ.nil ?_
    refine SJ.seq (by kernel_rfl) ?_
    refine SJ.region (id := 5) (by kernel_rfl) [0, 1, 2, 3, 4, 5, 6] (by kernel_rfl) ?_
    refine OJ.kld (d := 21) (T := 59) (y := .tmp 1) (cd := c_weirref3_Port) (j := 1) (b := b1) (o := 0) a0 (pend2 := []) (by kernel_rfl) (by kernel_rfl) Ty59 (by kernel_rfl) rfl (At.whole _) (by kernel_rfl) rfl ?_
    refine OJ.run [1] [2, 3, 4, 5, 6] [2, 6, 21, 22] (m2 := [(2, .pointer (some (pt b2 0))), (6, Sl.v r6), (21, c_weirref3_Port.val a0), (22, .int .i64 r3)]) (by kernel_rfl) (by kernel_rfl) ?_
    refine OJ.call (d := 23) (g := 80) (ats := #[59, 3, 3]) (args := [.tmp 21, .tmp 22, .const (.int .i64 1)]) (vals := [c_weirref3_Port.val a0, .int .i64 r3, .int .i64 1]) (owed := []) (by kernel_rfl) F80 (by kernel_rfl) (weirref3_moved_ok a0 r3 1) (by kernel_rfl) (by kernel_rfl) (by kernel_rfl) (fun r7 => ?_)
    refine OW.nil ?_
    refine OJ.run [3] [4, 5, 6] [2, 23, 24] (m2 := [(2, .pointer (some (pt b2 0))), (23, c_weirref3_Port.val r7), (24, Sl.v r6)]) (by kernel_rfl) (by kernel_rfl) ?_
    refine OJ.kst (T := 59) (y := .tmp 2) (z := .tmp 23) (cd := c_weirref3_Port) (u := r7) (j := 0) (b := b2) (o := 0) (c_weirref3_Port.enc r7) (h2 := [(b2, c_weirref3_Port.enc r7), (b1, c_weirref3_Port.enc a0)]) (owed := []) (by kernel_rfl) (by kernel_rfl) (by kernel_rfl) Ty59 rfl (Upd.whole ((Cod.len _ _).trans (Cod.len _ _).symm)) (by kernel_rfl) (by kernel_rfl) rfl ?_
    refine OW.nil ?_
    refine OJ.run [5, 6] [] [2, 3, 4] (m2 := [(2, .pointer (some (pt b2 0))), (3, Sl.v r6), (4, .bool true)]) (by kernel_rfl) (by kernel_rfl) ?_
    refine OJ.nil ?_
    exact SJ.ret (by kernel_rfl) rfl (Res.run (ys := [c_weirref3_Port.val r7, Sl.v r6, .bool true]) (.cell (j := 0) (b := b2) (cd := c_weirref3_Port) (q := r7) (by kernel_rfl) rfl Ty59 (At.whole _) (.tmp (by kernel_rfl) (.tmp (by kernel_rfl) .nil))) rfl)

/-! ### weir/weirlaw3.moved: function 59 -/
noncomputable def weirlaw3_moved.B : Code := (Try.f59.body).getD .skip
noncomputable def weirlaw3_moved.cx : Fx := ⟨Try.prog, 59, Try.f59⟩
noncomputable def weirlaw3_moved.out (r_ : (weirlaw3_Side × Bool)) : Value := .tuple #[c_weirlaw3_Side.val r_.1, .bool r_.2]
noncomputable def weirlaw3_moved.F0 (r_ : (weirlaw3_Side × Bool)) : Reach := .ret (weirlaw3_moved.out r_)
noncomputable def weirlaw3_moved.F1 (a0 : weirlaw3_Side) (b1 : Nat) (b3 : Nat) (r62 : (Sl × Bool)) (r63 : (weirref3_Port × Sl × Bool)) (y66 : Bool) : (LS Int (weirlaw3_Side × Bool)) → Reach := loopF [.inLoop (c1 (c1 (c2 (c1 (c2 (c2 (c2 (c2 (c2 (c2 weirlaw3_moved.B)))))))))), .inBlock 1, .code (c2 (c2 (c2 (c2 (c2 (c2 (c2 weirlaw3_moved.B)))))))] (fun s_ : Int => [(2, .pointer (some (pt b1 0))), (4, .pointer (some (pt b3 0))), (15, Sl.v r62.1), (20, .bool y66), (21, .int .i64 s_)]) (fun s_ : Int => [(b3, c_weirlaw3_Side.enc z_weirlaw3_Side), (b1, c_weirlaw3_Side.enc (⟨a0.P, r63.1, a0.W⟩ : weirlaw3_Side))]) weirlaw3_moved.F0
noncomputable def weirlaw3_moved.L1 (a0 : weirlaw3_Side) (r62 : (Sl × Bool)) (r63 : (weirref3_Port × Sl × Bool)) (y66 : Bool) (s67 : Int) : M (LS Int (weirlaw3_Side × Bool)) :=
  if s67 < (r62.1.len : Int) then
    idx r62.1.a r62.1.len s67 1 >>= fun p72 =>
    ld (cI .u8) p72 >>= fun x73 =>
    idx r62.1.a r62.1.len s67 1 >>= fun p74 =>
    st (cI .u8) p74 (bxor .u8 x73 255) >>= fun _ =>
    pure (LS.next (IntKind.wrap .i64 (s67 + 1)))
  else
    pure (LS.done ((⟨a0.P, r63.1, a0.W⟩ : weirlaw3_Side), y66))
theorem weirlaw3_moved.L1_ok (a0 : weirlaw3_Side) (b1 : Nat) (b3 : Nat) (r62 : (Sl × Bool)) (r63 : (weirref3_Port × Sl × Bool)) (y66 : Bool) (s67 : Int) :
    SJ weirlaw3_moved.cx [.code (c1 (c1 (c2 (c1 (c2 (c2 (c2 (c2 (c2 (c2 weirlaw3_moved.B)))))))))), .inLoop (c1 (c1 (c2 (c1 (c2 (c2 (c2 (c2 (c2 (c2 weirlaw3_moved.B)))))))))), .inBlock 1, .code (c2 (c2 (c2 (c2 (c2 (c2 (c2 weirlaw3_moved.B)))))))] [(2, .pointer (some (pt b1 0))), (4, .pointer (some (pt b3 0))), (15, Sl.v r62.1), (20, .bool y66), (21, .int .i64 s67)] [(b3, c_weirlaw3_Side.enc z_weirlaw3_Side), (b1, c_weirlaw3_Side.enc (⟨a0.P, r63.1, a0.W⟩ : weirlaw3_Side))] (weirlaw3_moved.L1 a0 r62 r63 y66 s67) (weirlaw3_moved.F1 a0 b1 b3 r62 r63 y66) := by
  unfold weirlaw3_moved.L1
  refine SJ.seq (by kernel_rfl) ?_
  refine SJ.seq (by kernel_rfl) ?_
  refine SJ.region (id := 22) (by kernel_rfl) [0, 1, 2, 3] (by kernel_rfl) ?_
  refine OJ.run [0, 1, 2, 3] [] [2, 4, 15, 20, 21, 119] (m2 := [(2, .pointer (some (pt b1 0))), (4, .pointer (some (pt b3 0))), (15, Sl.v r62.1), (20, .bool y66), (21, .int .i64 s67), (119, .bool (decide (s67 < (r62.1.len : Int))))]) (by kernel_rfl) (by kernel_rfl) ?_
  refine OJ.nil ?_
  refine SJ.cond (t := (.tmp 119)) (b := decide (s67 < (r62.1.len : Int))) (by kernel_rfl) (by kernel_rfl) decide_eq_true_iff (fun hc75 => ?_) (fun hc75 => ?_)
  · refine SJ.skip (by kernel_rfl) ?_
    refine SJ.seq (by kernel_rfl) ?_
    refine SJ.block (id := 2) (by kernel_rfl) ?_
    refine SJ.region (id := 24) (by kernel_rfl) [0, 1, 2, 3, 4, 5, 6, 7, 8] (by kernel_rfl) ?_
    refine OJ.run [0, 1, 2, 3] [4, 5, 6, 7, 8] [2, 4, 15, 20, 21, 122, 123, 124, 125] (m2 := [(2, .pointer (some (pt b1 0))), (4, .pointer (some (pt b3 0))), (15, Sl.v r62.1), (20, .bool y66), (21, .int .i64 s67), (122, Sl.v r62.1), (123, .int .i64 s67), (124, Sl.v r62.1), (125, .int .i64 s67)]) (by kernel_rfl) (by kernel_rfl) ?_
    refine OJ.idxS (d := 126) (T := 22) (y := .tmp 124) (j := .tmp 125) (E := 5) (cap := r62.1.cap) (k := .i64) (by kernel_rfl) (by kernel_rfl) (by kernel_rfl) (by kernel_rfl) (by kernel_rfl) (by kernel_rfl) (by kernel_rfl) (by kernel_rfl) (fun p72 => ?_)
    refine OJ.ld (d := 127) (T := 5) (y := .tmp 126) (pend2 := fun x73 => []) (by kernel_rfl) (by kernel_rfl) Ty5 (by kernel_rfl) (by kernel_rfl) (fun _ => rfl) (fun x73 => ?_)
    refine OJ.run [6] [7, 8] [2, 4, 15, 20, 21, 122, 123, 128] (m2 := [(2, .pointer (some (pt b1 0))), (4, .pointer (some (pt b3 0))), (15, Sl.v r62.1), (20, .bool y66), (21, .int .i64 s67), (122, Sl.v r62.1), (123, .int .i64 s67), (128, .int .u8 (bxor .u8 x73 255))]) (by kernel_rfl) (by kernel_rfl) ?_
    refine OJ.idxS (d := 129) (T := 22) (y := .tmp 122) (j := .tmp 123) (E := 5) (cap := r62.1.cap) (k := .i64) (by kernel_rfl) (by kernel_rfl) (by kernel_rfl) (by kernel_rfl) (by kernel_rfl) (by kernel_rfl) (by kernel_rfl) (by kernel_rfl) (fun p74 => ?_)
    refine OJ.st (T := 5) (y := .tmp 129) (z := .tmp 128) (owed := []) (by kernel_rfl) (by kernel_rfl) (by kernel_rfl) Ty5 (by kernel_rfl) (by kernel_rfl) ?_
    refine OW.nil ?_
    refine OJ.nil ?_
    refine SJ.inBlock ?_
    refine SJ.region (id := 23) (by kernel_rfl) [0, 1, 2] (by kernel_rfl) ?_
    refine OJ.run [0, 1, 2] [] [2, 4, 15, 20, 21] (m2 := [(2, .pointer (some (pt b1 0))), (4, .pointer (some (pt b3 0))), (15, Sl.v r62.1), (20, .bool y66), (21, .int .i64 (IntKind.wrap .i64 (s67 + 1)))]) (by kernel_rfl) (by kernel_rfl) ?_
    refine OJ.nil ?_
    exact SJ.at_ [2, 4, 15, 20, 21] rfl (by kernel_rfl)
  · refine SJ.exit (id := 1) (by kernel_rfl) (by rfl) ?_
    refine SJ.seq (by kernel_rfl) ?_
    refine SJ.region (id := 25) (by kernel_rfl) [0, 1, 2, 3] (by kernel_rfl) ?_
    refine OJ.kld (d := 130) (T := 62) (y := .tmp 2) (cd := c_weirlaw3_Side) (j := 1) (b := b1) (o := 0) (⟨a0.P, r63.1, a0.W⟩ : weirlaw3_Side) (pend2 := []) (by kernel_rfl) (by kernel_rfl) Ty62 (by kernel_rfl) rfl (At.whole _) (by kernel_rfl) rfl ?_
    refine OJ.run [1] [2, 3] [4, 130, 131] (m2 := [(4, .pointer (some (pt b3 0))), (130, c_weirlaw3_Side.val (⟨a0.P, r63.1, a0.W⟩ : weirlaw3_Side)), (131, .bool y66)]) (by kernel_rfl) (by kernel_rfl) ?_
    refine OJ.kst (T := 62) (y := .tmp 4) (z := .tmp 130) (cd := c_weirlaw3_Side) (u := (⟨a0.P, r63.1, a0.W⟩ : weirlaw3_Side)) (j := 0) (b := b3) (o := 0) (c_weirlaw3_Side.enc (⟨a0.P, r63.1, a0.W⟩ : weirlaw3_Side)) (h2 := [(b3, c_weirlaw3_Side.enc (⟨a0.P, r63.1, a0.W⟩ : weirlaw3_Side)), (b1, c_weirlaw3_Side.enc (⟨a0.P, r63.1, a0.W⟩ : weirlaw3_Side))]) (owed := []) (by kernel_rfl) (by kernel_rfl) (by kernel_rfl) Ty62 rfl (Upd.whole ((Cod.len _ _).trans (Cod.len _ _).symm)) (by kernel_rfl) (by kernel_rfl) rfl ?_
    refine OW.nil ?_
    refine OJ.run [3] [] [4, 5] (m2 := [(4, .pointer (some (pt b3 0))), (5, .bool y66)]) (by kernel_rfl) (by kernel_rfl) ?_
    refine OJ.nil ?_
    exact SJ.ret (by kernel_rfl) rfl (Res.run (ys := [c_weirlaw3_Side.val (⟨a0.P, r63.1, a0.W⟩ : weirlaw3_Side), .bool y66]) (.cell (j := 0) (b := b3) (cd := c_weirlaw3_Side) (q := (⟨a0.P, r63.1, a0.W⟩ : weirlaw3_Side)) (by kernel_rfl) rfl Ty62 (At.whole _) (.tmp (by kernel_rfl) .nil)) rfl)
noncomputable def weirlaw3_moved (a0 : weirlaw3_Side) (a1 : weirlaw3_Op) : M (weirlaw3_Side × Bool) :=
  slot 62 >>= fun b1 =>
  slot 45 >>= fun b2 =>
  slot 62 >>= fun b3 =>
  if a1.Kind = 1 then
    ring_Port_Refill a0.P a1.N >>= fun r34 =>
    weirref3_Refill a0.R a1.N >>= fun r35 =>
    slot 59 >>= fun b36 =>
    pure ((⟨a0.P, r35.1, a0.W⟩ : weirlaw3_Side), (r34 == r35.2))
  else
    if a1.Kind = 6 then
      ring_Port_Release a0.P a1.I >>= fun r50 =>
      weirref3_Release a0.R a1.I >>= fun r51 =>
      slot 59 >>= fun b52 =>
      draw >>= fun _ =>
      weirlaw3_num r50 >>= fun r53 =>
      pure ((⟨a0.P, r51.1, a0.W⟩ : weirlaw3_Side), (r53 == r51.2))
    else
      if a1.Kind = 7 then
        ring_Port_Send a0.P a1.I a1.N >>= fun r58 =>
        weirref3_Send a0.R a1.I a1.N >>= fun r59 =>
        slot 59 >>= fun b60 =>
        draw >>= fun _ =>
        weirlaw3_num r58 >>= fun r61 =>
        pure ((⟨a0.P, r59.1, a0.W⟩ : weirlaw3_Side), (r61 == r59.2))
      else
        ring_Port_Drain a0.P >>= fun r62 =>
        weirref3_Drain a0.R >>= fun r63 =>
        slot 59 >>= fun b64 =>
        (if r62.2 = r63.2.2 then
            weirlaw3_alike r62.1 r63.2.1 >>= fun r65 =>
            pure r65
          else
            pure false) >>= fun y66 =>
        loopM (fun s_ : Int => weirlaw3_moved.L1 a0 r62 r63 y66 s_) 0
theorem weirlaw3_moved_ok (a0 : weirlaw3_Side) (a1 : weirlaw3_Op) : Ref Try.prog 59 [c_weirlaw3_Side.val a0, c_weirlaw3_Op.val a1] (weirlaw3_moved a0 a1) weirlaw3_moved.out := by
  refine Ref.of (cd := weirlaw3_moved.B) Try.func59 (by kernel_rfl) (by kernel_rfl) ?_
  show SJ weirlaw3_moved.cx [.code weirlaw3_moved.B] [(0, c_weirlaw3_Side.val a0), (1, c_weirlaw3_Op.val a1)] [] (weirlaw3_moved a0 a1) weirlaw3_moved.F0
  unfold weirlaw3_moved
  refine SJ.seq (by kernel_rfl) ?_
  refine SJ.region (id := 0) (by kernel_rfl) [0, 1, 2, 3] (by kernel_rfl) ?_
  refine OJ.slotOf (d := 2) (op := (.box 62 (.tmp 0))) (cd := c_weirlaw3_Side) (u := a0) (owed := []) (by kernel_rfl) (box_run (by kernel_rfl)) (by kernel_rfl) (by kernel_rfl) (by kernel_rfl) (fun b1 => ?_)
  refine OW.nil ?_
  refine OJ.slotOf (d := 3) (op := (.box 45 (.tmp 1))) (cd := c_weirlaw3_Op) (u := a1) (owed := []) (by kernel_rfl) (box_run (by kernel_rfl)) (by kernel_rfl) (by kernel_rfl) (by kernel_rfl) (fun b2 => ?_)
  refine OW.nil ?_
  refine OJ.slotOf (d := 4) (op := (.alloc 62)) (cd := c_weirlaw3_Side) (u := z_weirlaw3_Side) (owed := []) (by kernel_rfl) (alloc_run Ty62) (by kernel_rfl) (by kernel_rfl) (by kernel_rfl) (fun b3 => ?_)
  refine OW.nil ?_
  refine OJ.run [3] [] [2, 3, 4] (m2 := [(2, .pointer (some (pt b1 0))), (3, .pointer (some (pt b2 0))), (4, .pointer (some (pt b3 0)))]) (by kernel_rfl) (by kernel_rfl) ?_
  refine OJ.nil ?_
  refine SJ.seq (by kernel_rfl) ?_
  refine SJ.seq (by kernel_rfl) ?_
  refine SJ.region (id := 1) (by kernel_rfl) [0, 1] (by kernel_rfl) ?_
  refine OJ.run [0] [1] [2, 3, 4, 22] (m2 := [(2, .pointer (some (pt b1 0))), (3, .pointer (some (pt b2 0))), (4, .pointer (some (pt b3 0))), (22, .pointer (some (pt b2 0)))]) (by kernel_rfl) (by kernel_rfl) ?_
  refine OJ.kld (d := 23) (T := 3) (y := .tmp 22) (cd := (cI .i64)) (j := 1) (b := b2) (o := 0) a1.Kind (pend2 := []) (by kernel_rfl) (by kernel_rfl) Ty3 (by kernel_rfl) rfl (At_weirlaw3_Op_Kind a1) (by kernel_rfl) rfl ?_
  refine OJ.nil ?_
  refine SJ.block (id := 0) (by kernel_rfl) ?_
  refine SJ.seq (by kernel_rfl) ?_
  refine SJ.region (id := 2) (by kernel_rfl) [0, 1] (by kernel_rfl) ?_
  refine OJ.run [0, 1] [] [2, 3, 4, 23, 24] (m2 := [(2, .pointer (some (pt b1 0))), (3, .pointer (some (pt b2 0))), (4, .pointer (some (pt b3 0))), (23, .int .i64 a1.Kind), (24, .bool (a1.Kind == 1))]) (by kernel_rfl) (by kernel_rfl) ?_
  refine OJ.nil ?_
  refine SJ.cond (t := (.tmp 24)) (b := (a1.Kind == 1)) (by kernel_rfl) (by kernel_rfl) beq_iff_eq (fun hc78 => ?_) (fun hc78 => ?_)
  · refine SJ.seq (by kernel_rfl) ?_
    refine SJ.region (id := 3) (by kernel_rfl) [0, 1, 2, 3, 4, 5] (by kernel_rfl) ?_
    refine OJ.run [0] [1, 2, 3, 4, 5] [2, 3, 4, 26] (m2 := [(2, .pointer (some (pt b1 0))), (3, .pointer (some (pt b2 0))), (4, .pointer (some (pt b3 0))), (26, .pointer (some (pt b1 0)))]) (by kernel_rfl) (by kernel_rfl) ?_
    refine OJ.kld (d := 27) (T := 23) (y := .tmp 26) (cd := cP) (j := 2) (b := b1) (o := 0) a0.P (pend2 := []) (by kernel_rfl) (by kernel_rfl) Ty23 (by kernel_rfl) rfl (At_weirlaw3_Side_P a0) (by kernel_rfl) rfl ?_
    refine OJ.run [2] [3, 4, 5] [2, 3, 4, 27, 28] (m2 := [(2, .pointer (some (pt b1 0))), (3, .pointer (some (pt b2 0))), (4, .pointer (some (pt b3 0))), (27, .pointer a0.P), (28, .pointer (some (pt b2 3)))]) (by kernel_rfl) (by kernel_rfl) ?_
    refine OJ.kld (d := 29) (T := 3) (y := .tmp 28) (cd := (cI .i64)) (j := 1) (b := b2) (o := 3) a1.N (pend2 := []) (by kernel_rfl) (by kernel_rfl) Ty3 (by kernel_rfl) rfl (At_weirlaw3_Op_N a1) (by kernel_rfl) rfl ?_
    refine OJ.call (d := 30) (g := 15) (ats := #[23, 3]) (args := [.tmp 27, .tmp 29]) (vals := [.pointer a0.P, .int .i64 a1.N]) (owed := []) (by kernel_rfl) F15 (by kernel_rfl) (ring_Port_Refill_ok a0.P a1.N) (by kernel_rfl) (by kernel_rfl) (by kernel_rfl) (fun r34 => ?_)
    refine OW.nil ?_
    refine OJ.run [5] [] [2, 3, 4, 6] (m2 := [(2, .pointer (some (pt b1 0))), (3, .pointer (some (pt b2 0))), (4, .pointer (some (pt b3 0))), (6, .int .i64 r34)]) (by kernel_rfl) (by kernel_rfl) ?_
    refine OJ.nil ?_
    refine SJ.seq (by kernel_rfl) ?_
    refine SJ.region (id := 4) (by kernel_rfl) [0, 1, 2, 3, 4, 5, 6, 7, 8, 9, 10] (by kernel_rfl) ?_
    refine OJ.run [0] [1, 2, 3, 4, 5, 6, 7, 8, 9, 10] [2, 3, 4, 6, 32] (m2 := [(2, .pointer (some (pt b1 0))), (3, .pointer (some (pt b2 0))), (4, .pointer (some (pt b3 0))), (6, .int .i64 r34), (32, .pointer (some (pt b1 1)))]) (by kernel_rfl) (by kernel_rfl) ?_
    refine OJ.kld (d := 33) (T := 59) (y := .tmp 32) (cd := c_weirref3_Port) (j := 2) (b := b1) (o := 1) a0.R (pend2 := []) (by kernel_rfl) (by kernel_rfl) Ty59 (by kernel_rfl) rfl (At_weirlaw3_Side_R a0) (by kernel_rfl) rfl ?_
    refine OJ.run [2] [3, 4, 5, 6, 7, 8, 9, 10] [2, 4, 6, 33, 34] (m2 := [(2, .pointer (some (pt b1 0))), (4, .pointer (some (pt b3 0))), (6, .int .i64 r34), (33, c_weirref3_Port.val a0.R), (34, .pointer (some (pt b2 3)))]) (by kernel_rfl) (by kernel_rfl) ?_
    refine OJ.kld (d := 35) (T := 3) (y := .tmp 34) (cd := (cI .i64)) (j := 1) (b := b2) (o := 3) a1.N (pend2 := []) (by kernel_rfl) (by kernel_rfl) Ty3 (by kernel_rfl) rfl (At_weirlaw3_Op_N a1) (by kernel_rfl) rfl ?_
    refine OJ.call (d := 36) (g := 70) (ats := #[59, 3]) (args := [.tmp 33, .tmp 35]) (vals := [c_weirref3_Port.val a0.R, .int .i64 a1.N]) (owed := []) (by kernel_rfl) F70 (by kernel_rfl) (weirref3_Refill_ok a0.R a1.N) (by kernel_rfl) (by kernel_rfl) (by kernel_rfl) (fun r35 => ?_)
    refine OW.nil ?_
    refine OJ.run [5, 6, 7] [8, 9, 10] [2, 4, 6, 37, 38] (m2 := [(2, .pointer (some (pt b1 0))), (4, .pointer (some (pt b3 0))), (6, .int .i64 r34), (37, c_weirref3_Port.val r35.1), (38, .int .i64 r35.2)]) (by kernel_rfl) (by kernel_rfl) ?_
    refine OJ.slotOf (d := 7) (op := (.alloc 59)) (cd := c_weirref3_Port) (u := z_weirref3_Port) (owed := []) (by kernel_rfl) (alloc_run Ty59) (by kernel_rfl) (by kernel_rfl) (by kernel_rfl) (fun b36 => ?_)
    refine OW.nil ?_
    refine OJ.kst (T := 59) (y := .tmp 7) (z := .tmp 37) (cd := c_weirref3_Port) (u := r35.1) (j := 0) (b := b36) (o := 0) (c_weirref3_Port.enc r35.1) (h2 := [(b36, c_weirref3_Port.enc r35.1), (b3, c_weirlaw3_Side.enc z_weirlaw3_Side), (b2, c_weirlaw3_Op.enc a1), (b1, c_weirlaw3_Side.enc a0)]) (owed := []) (by kernel_rfl) (by kernel_rfl) (by kernel_rfl) Ty59 rfl (Upd.whole ((Cod.len _ _).trans (Cod.len _ _).symm)) (by kernel_rfl) (by kernel_rfl) rfl ?_
    refine OW.nil ?_
    refine OJ.run [10] [] [2, 4, 6, 7, 8] (m2 := [(2, .pointer (some (pt b1 0))), (4, .pointer (some (pt b3 0))), (6, .int .i64 r34), (7, .pointer (some (pt b36 0))), (8, .int .i64 r35.2)]) (by kernel_rfl) (by kernel_rfl) ?_
    refine OJ.nil ?_
    refine SJ.seq (by kernel_rfl) ?_
    refine SJ.region (id := 5) (by kernel_rfl) [0, 1, 2] (by kernel_rfl) ?_
    refine OJ.kld (d := 39) (T := 59) (y := .tmp 7) (cd := c_weirref3_Port) (j := 0) (b := b36) (o := 0) r35.1 (pend2 := []) (by kernel_rfl) (by kernel_rfl) Ty59 (by kernel_rfl) rfl (At.whole _) (by kernel_rfl) rfl ?_
    refine OJ.run [1] [2] [2, 4, 6, 8, 39, 40] (m2 := [(2, .pointer (some (pt b1 0))), (4, .pointer (some (pt b3 0))), (6, .int .i64 r34), (8, .int .i64 r35.2), (39, c_weirref3_Port.val r35.1), (40, .pointer (some (pt b1 1)))]) (by kernel_rfl) (by kernel_rfl) ?_
    refine OJ.kst (T := 59) (y := .tmp 40) (z := .tmp 39) (cd := c_weirref3_Port) (u := r35.1) (j := 3) (b := b1) (o := 1) (c_weirlaw3_Side.enc (⟨a0.P, r35.1, a0.W⟩ : weirlaw3_Side)) (h2 := [(b36, c_weirref3_Port.enc r35.1), (b3, c_weirlaw3_Side.enc z_weirlaw3_Side), (b2, c_weirlaw3_Op.enc a1), (b1, c_weirlaw3_Side.enc (⟨a0.P, r35.1, a0.W⟩ : weirlaw3_Side))]) (owed := []) (by kernel_rfl) (by kernel_rfl) (by kernel_rfl) Ty59 rfl (Up_weirlaw3_Side_R a0 r35.1) (by kernel_rfl) (by kernel_rfl) rfl ?_
    refine OW.nil ?_
    refine OJ.nil ?_
    refine SJ.seq (by kernel_rfl) ?_
    refine SJ.region (id := 6) (by kernel_rfl) [0, 1, 2, 3, 4, 5] (by kernel_rfl) ?_
    refine OJ.kld (d := 41) (T := 62) (y := .tmp 2) (cd := c_weirlaw3_Side) (j := 3) (b := b1) (o := 0) (⟨a0.P, r35.1, a0.W⟩ : weirlaw3_Side) (pend2 := []) (by kernel_rfl) (by kernel_rfl) Ty62 (by kernel_rfl) rfl (At.whole _) (by kernel_rfl) rfl ?_
    refine OJ.run [1, 2, 3] [4, 5] [4, 41, 44] (m2 := [(4, .pointer (some (pt b3 0))), (41, c_weirlaw3_Side.val (⟨a0.P, r35.1, a0.W⟩ : weirlaw3_Side)), (44, .bool (r34 == r35.2))]) (by kernel_rfl) (by kernel_rfl) ?_
    refine OJ.kst (T := 62) (y := .tmp 4) (z := .tmp 41) (cd := c_weirlaw3_Side) (u := (⟨a0.P, r35.1, a0.W⟩ : weirlaw3_Side)) (j := 1) (b := b3) (o := 0) (c_weirlaw3_Side.enc (⟨a0.P, r35.1, a0.W⟩ : weirlaw3_Side)) (h2 := [(b36, c_weirref3_Port.enc r35.1), (b3, c_weirlaw3_Side.enc (⟨a0.P, r35.1, a0.W⟩ : weirlaw3_Side)), (b2, c_weirlaw3_Op.enc a1), (b1, c_weirlaw3_Side.enc (⟨a0.P, r35.1, a0.W⟩ : weirlaw3_Side))]) (owed := []) (by kernel_rfl) (by kernel_rfl) (by kernel_rfl) Ty62 rfl (Upd.whole ((Cod.len _ _).trans (Cod.len _ _).symm)) (by kernel_rfl) (by kernel_rfl) rfl ?_
    refine OW.nil ?_
    refine OJ.run [5] [] [4, 5] (m2 := [(4, .pointer (some (pt b3 0))), (5, .bool (r34 == r35.2))]) (by kernel_rfl) (by kernel_rfl) ?_
    refine OJ.nil ?_
    exact SJ.ret (by kernel_rfl) rfl (Res.run (ys := [c_weirlaw3_Side.val (⟨a0.P, r35.1, a0.W⟩ : weirlaw3_Side), .bool (r34 == r35.2)]) (.cell (j := 1) (b := b3) (cd := c_weirlaw3_Side) (q := (⟨a0.P, r35.1, a0.W⟩ : weirlaw3_Side)) (by kernel_rfl) rfl Ty62 (At.whole _) (.tmp (by kernel_rfl) .nil)) rfl)
  · refine SJ.seq (by kernel_rfl) ?_
    refine SJ.region (id := 7) (by kernel_rfl) [0, 1] (by kernel_rfl) ?_
    refine OJ.run [0, 1] [] [2, 3, 4, 23, 45] (m2 := [(2, .pointer (some (pt b1 0))), (3, .pointer (some (pt b2 0))), (4, .pointer (some (pt b3 0))), (23, .int .i64 a1.Kind), (45, .bool (a1.Kind == 6))]) (by kernel_rfl) (by kernel_rfl) ?_
    refine OJ.nil ?_
    refine SJ.cond (t := (.tmp 45)) (b := (a1.Kind == 6)) (by kernel_rfl) (by kernel_rfl) beq_iff_eq (fun hc77 => ?_) (fun hc77 => ?_)
    · refine SJ.seq (by kernel_rfl) ?_
      refine SJ.region (id := 8) (by kernel_rfl) [0, 1, 2, 3, 4, 5] (by kernel_rfl) ?_
      refine OJ.run [0] [1, 2, 3, 4, 5] [2, 3, 4, 47] (m2 := [(2, .pointer (some (pt b1 0))), (3, .pointer (some (pt b2 0))), (4, .pointer (some (pt b3 0))), (47, .pointer (some (pt b1 0)))]) (by kernel_rfl) (by kernel_rfl) ?_
      refine OJ.kld (d := 48) (T := 23) (y := .tmp 47) (cd := cP) (j := 2) (b := b1) (o := 0) a0.P (pend2 := []) (by kernel_rfl) (by kernel_rfl) Ty23 (by kernel_rfl) rfl (At_weirlaw3_Side_P a0) (by kernel_rfl) rfl ?_
      refine OJ.run [2] [3, 4, 5] [2, 3, 4, 48, 49] (m2 := [(2, .pointer (some (pt b1 0))), (3, .pointer (some (pt b2 0))), (4, .pointer (some (pt b3 0))), (48, .pointer a0.P), (49, .pointer (some (pt b2 2)))]) (by kernel_rfl) (by kernel_rfl) ?_
      refine OJ.kld (d := 50) (T := 3) (y := .tmp 49) (cd := (cI .i64)) (j := 1) (b := b2) (o := 2) a1.I (pend2 := []) (by kernel_rfl) (by kernel_rfl) Ty3 (by kernel_rfl) rfl (At_weirlaw3_Op_I a1) (by kernel_rfl) rfl ?_
      refine OJ.call (d := 51) (g := 24) (ats := #[23, 3]) (args := [.tmp 48, .tmp 50]) (vals := [.pointer a0.P, .int .i64 a1.I]) (owed := []) (by kernel_rfl) F24 (by kernel_rfl) (ring_Port_Release_ok a0.P a1.I) (by kernel_rfl) (by kernel_rfl) (by kernel_rfl) (fun r50 => ?_)
      refine OW.nil ?_
      refine OJ.run [5] [] [2, 3, 4, 9] (m2 := [(2, .pointer (some (pt b1 0))), (3, .pointer (some (pt b2 0))), (4, .pointer (some (pt b3 0))), (9, .int .i64 r50)]) (by kernel_rfl) (by kernel_rfl) ?_
      refine OJ.nil ?_
      refine SJ.seq (by kernel_rfl) ?_
      refine SJ.region (id := 9) (by kernel_rfl) [0, 1, 2, 3, 4, 5, 6, 7, 8, 9, 10] (by kernel_rfl) ?_
      refine OJ.run [0] [1, 2, 3, 4, 5, 6, 7, 8, 9, 10] [2, 3, 4, 9, 53] (m2 := [(2, .pointer (some (pt b1 0))), (3, .pointer (some (pt b2 0))), (4, .pointer (some (pt b3 0))), (9, .int .i64 r50), (53, .pointer (some (pt b1 1)))]) (by kernel_rfl) (by kernel_rfl) ?_
      refine OJ.kld (d := 54) (T := 59) (y := .tmp 53) (cd := c_weirref3_Port) (j := 2) (b := b1) (o := 1) a0.R (pend2 := []) (by kernel_rfl) (by kernel_rfl) Ty59 (by kernel_rfl) rfl (At_weirlaw3_Side_R a0) (by kernel_rfl) rfl ?_
      refine OJ.run [2] [3, 4, 5, 6, 7, 8, 9, 10] [2, 4, 9, 54, 55] (m2 := [(2, .pointer (some (pt b1 0))), (4, .pointer (some (pt b3 0))), (9, .int .i64 r50), (54, c_weirref3_Port.val a0.R), (55, .pointer (some (pt b2 2)))]) (by kernel_rfl) (by kernel_rfl) ?_
      refine OJ.kld (d := 56) (T := 3) (y := .tmp 55) (cd := (cI .i64)) (j := 1) (b := b2) (o := 2) a1.I (pend2 := []) (by kernel_rfl) (by kernel_rfl) Ty3 (by kernel_rfl) rfl (At_weirlaw3_Op_I a1) (by kernel_rfl) rfl ?_
      refine OJ.call (d := 57) (g := 71) (ats := #[59, 3]) (args := [.tmp 54, .tmp 56]) (vals := [c_weirref3_Port.val a0.R, .int .i64 a1.I]) (owed := []) (by kernel_rfl) F71 (by kernel_rfl) (weirref3_Release_ok a0.R a1.I) (by kernel_rfl) (by kernel_rfl) (by kernel_rfl) (fun r51 => ?_)
      refine OW.nil ?_
      refine OJ.run [5, 6, 7] [8, 9, 10] [2, 4, 9, 58, 59] (m2 := [(2, .pointer (some (pt b1 0))), (4, .pointer (some (pt b3 0))), (9, .int .i64 r50), (58, c_weirref3_Port.val r51.1), (59, .int .i64 r51.2)]) (by kernel_rfl) (by kernel_rfl) ?_
      refine OJ.slotOf (d := 10) (op := (.alloc 59)) (cd := c_weirref3_Port) (u := z_weirref3_Port) (owed := []) (by kernel_rfl) (alloc_run Ty59) (by kernel_rfl) (by kernel_rfl) (by kernel_rfl) (fun b52 => ?_)
      refine OW.nil ?_
      refine OJ.kst (T := 59) (y := .tmp 10) (z := .tmp 58) (cd := c_weirref3_Port) (u := r51.1) (j := 0) (b := b52) (o := 0) (c_weirref3_Port.enc r51.1) (h2 := [(b52, c_weirref3_Port.enc r51.1), (b3, c_weirlaw3_Side.enc z_weirlaw3_Side), (b2, c_weirlaw3_Op.enc a1), (b1, c_weirlaw3_Side.enc a0)]) (owed := []) (by kernel_rfl) (by kernel_rfl) (by kernel_rfl) Ty59 rfl (Upd.whole ((Cod.len _ _).trans (Cod.len _ _).symm)) (by kernel_rfl) (by kernel_rfl) rfl ?_
      refine OW.nil ?_
      refine OJ.run [10] [] [2, 4, 9, 10, 11] (m2 := [(2, .pointer (some (pt b1 0))), (4, .pointer (some (pt b3 0))), (9, .int .i64 r50), (10, .pointer (some (pt b52 0))), (11, .int .i64 r51.2)]) (by kernel_rfl) (by kernel_rfl) ?_
      refine OJ.nil ?_
      refine SJ.seq (by kernel_rfl) ?_
      refine SJ.region (id := 10) (by kernel_rfl) [0, 1, 2] (by kernel_rfl) ?_
      refine OJ.kld (d := 60) (T := 59) (y := .tmp 10) (cd := c_weirref3_Port) (j := 0) (b := b52) (o := 0) r51.1 (pend2 := []) (by kernel_rfl) (by kernel_rfl) Ty59 (by kernel_rfl) rfl (At.whole _) (by kernel_rfl) rfl ?_
      refine OJ.run [1] [2] [2, 4, 9, 11, 60, 61] (m2 := [(2, .pointer (some (pt b1 0))), (4, .pointer (some (pt b3 0))), (9, .int .i64 r50), (11, .int .i64 r51.2), (60, c_weirref3_Port.val r51.1), (61, .pointer (some (pt b1 1)))]) (by kernel_rfl) (by kernel_rfl) ?_
      refine OJ.kst (T := 59) (y := .tmp 61) (z := .tmp 60) (cd := c_weirref3_Port) (u := r51.1) (j := 3) (b := b1) (o := 1) (c_weirlaw3_Side.enc (⟨a0.P, r51.1, a0.W⟩ : weirlaw3_Side)) (h2 := [(b52, c_weirref3_Port.enc r51.1), (b3, c_weirlaw3_Side.enc z_weirlaw3_Side), (b2, c_weirlaw3_Op.enc a1), (b1, c_weirlaw3_Side.enc (⟨a0.P, r51.1, a0.W⟩ : weirlaw3_Side))]) (owed := []) (by kernel_rfl) (by kernel_rfl) (by kernel_rfl) Ty59 rfl (Up_weirlaw3_Side_R a0 r51.1) (by kernel_rfl) (by kernel_rfl) rfl ?_
      refine OW.nil ?_
      refine OJ.nil ?_
      refine SJ.seq (by kernel_rfl) ?_
      refine SJ.draw (id := 11) (kd := [1, 0, 2, 0, 0, 2, 0]) (bef := [0, 0, 2, 0, 14, 7, 63]) (ord := [0, 1, 2, 3, 4, 5, 6]) (by kernel_rfl) mixed (by kernel_rfl) ?_
      refine OJ.kld (d := 62) (T := 62) (y := .tmp 2) (cd := c_weirlaw3_Side) (j := 3) (b := b1) (o := 0) (⟨a0.P, r51.1, a0.W⟩ : weirlaw3_Side) (pend2 := [⟨0, 62, (pt b1 0), c_weirlaw3_Side.val (⟨a0.P, r51.1, a0.W⟩ : weirlaw3_Side)⟩]) (by kernel_rfl) (by kernel_rfl) Ty62 (by kernel_rfl) rfl (At.whole _) (by kernel_rfl) rfl ?_
      refine OJ.run [1] [2, 3, 4, 5, 6] [4, 11, 62, 63] (m2 := [(4, .pointer (some (pt b3 0))), (11, .int .i64 r51.2), (62, c_weirlaw3_Side.val (⟨a0.P, r51.1, a0.W⟩ : weirlaw3_Side)), (63, .int .i64 r50)]) (by kernel_rfl) (by kernel_rfl) ?_
      refine OJ.call (d := 64) (g := 14) (ats := #[24]) (args := [.tmp 63]) (vals := [.int .i64 r50]) (owed := [⟨0, 62, (pt b1 0), c_weirlaw3_Side.val (⟨a0.P, r51.1, a0.W⟩ : weirlaw3_Side)⟩]) (by kernel_rfl) F14 (by kernel_rfl) (weirlaw3_num_ok r50) (by kernel_rfl) (by kernel_rfl) (by kernel_rfl) (fun r53 => ?_)
      refine OW.known (j := 3) (q := (⟨a0.P, r51.1, a0.W⟩ : weirlaw3_Side)) Ty62 rfl (At.whole _) ?_
      refine OW.nil ?_
      refine OJ.run [3, 4] [5, 6] [4, 62, 66] (m2 := [(4, .pointer (some (pt b3 0))), (62, c_weirlaw3_Side.val (⟨a0.P, r51.1, a0.W⟩ : weirlaw3_Side)), (66, .bool (r53 == r51.2))]) (by kernel_rfl) (by kernel_rfl) ?_
      refine OJ.kst (T := 62) (y := .tmp 4) (z := .tmp 62) (cd := c_weirlaw3_Side) (u := (⟨a0.P, r51.1, a0.W⟩ : weirlaw3_Side)) (j := 1) (b := b3) (o := 0) (c_weirlaw3_Side.enc (⟨a0.P, r51.1, a0.W⟩ : weirlaw3_Side)) (h2 := [(b52, c_weirref3_Port.enc r51.1), (b3, c_weirlaw3_Side.enc (⟨a0.P, r51.1, a0.W⟩ : weirlaw3_Side)), (b2, c_weirlaw3_Op.enc a1), (b1, c_weirlaw3_Side.enc (⟨a0.P, r51.1, a0.W⟩ : weirlaw3_Side))]) (owed := []) (by kernel_rfl) (by kernel_rfl) (by kernel_rfl) Ty62 rfl (Upd.whole ((Cod.len _ _).trans (Cod.len _ _).symm)) (by kernel_rfl) (by kernel_rfl) rfl ?_
      refine OW.nil ?_
      refine OJ.run [6] [] [4, 5] (m2 := [(4, .pointer (some (pt b3 0))), (5, .bool (r53 == r51.2))]) (by kernel_rfl) (by kernel_rfl) ?_
      refine OJ.nil ?_
      exact SJ.ret (by kernel_rfl) rfl (Res.run (ys := [c_weirlaw3_Side.val (⟨a0.P, r51.1, a0.W⟩ : weirlaw3_Side), .bool (r53 == r51.2)]) (.cell (j := 1) (b := b3) (cd := c_weirlaw3_Side) (q := (⟨a0.P, r51.1, a0.W⟩ : weirlaw3_Side)) (by kernel_rfl) rfl Ty62 (At.whole _) (.tmp (by kernel_rfl) .nil)) rfl)
    · refine SJ.seq (by kernel_rfl) ?_
      refine SJ.region (id := 12) (by kernel_rfl) [0, 1] (by kernel_rfl) ?_
      refine OJ.run [0, 1] [] [2, 3, 4, 67] (m2 := [(2, .pointer (some (pt b1 0))), (3, .pointer (some (pt b2 0))), (4, .pointer (some (pt b3 0))), (67, .bool (a1.Kind == 7))]) (by kernel_rfl) (by kernel_rfl) ?_
      refine OJ.nil ?_
      refine SJ.cond (t := (.tmp 67)) (b := (a1.Kind == 7)) (by kernel_rfl) (by kernel_rfl) beq_iff_eq (fun hc76 => ?_) (fun hc76 => ?_)
      · refine SJ.seq (by kernel_rfl) ?_
        refine SJ.region (id := 13) (by kernel_rfl) [0, 1, 2, 3, 4, 5, 6, 7] (by kernel_rfl) ?_
        refine OJ.run [0] [1, 2, 3, 4, 5, 6, 7] [2, 3, 4, 69] (m2 := [(2, .pointer (some (pt b1 0))), (3, .pointer (some (pt b2 0))), (4, .pointer (some (pt b3 0))), (69, .pointer (some (pt b1 0)))]) (by kernel_rfl) (by kernel_rfl) ?_
        refine OJ.kld (d := 70) (T := 23) (y := .tmp 69) (cd := cP) (j := 2) (b := b1) (o := 0) a0.P (pend2 := []) (by kernel_rfl) (by kernel_rfl) Ty23 (by kernel_rfl) rfl (At_weirlaw3_Side_P a0) (by kernel_rfl) rfl ?_
        refine OJ.run [2] [3, 4, 5, 6, 7] [2, 3, 4, 70, 71] (m2 := [(2, .pointer (some (pt b1 0))), (3, .pointer (some (pt b2 0))), (4, .pointer (some (pt b3 0))), (70, .pointer a0.P), (71, .pointer (some (pt b2 2)))]) (by kernel_rfl) (by kernel_rfl) ?_
        refine OJ.kld (d := 72) (T := 3) (y := .tmp 71) (cd := (cI .i64)) (j := 1) (b := b2) (o := 2) a1.I (pend2 := []) (by kernel_rfl) (by kernel_rfl) Ty3 (by kernel_rfl) rfl (At_weirlaw3_Op_I a1) (by kernel_rfl) rfl ?_
        refine OJ.run [4] [5, 6, 7] [2, 3, 4, 70, 72, 73] (m2 := [(2, .pointer (some (pt b1 0))), (3, .pointer (some (pt b2 0))), (4, .pointer (some (pt b3 0))), (70, .pointer a0.P), (72, .int .i64 a1.I), (73, .pointer (some (pt b2 3)))]) (by kernel_rfl) (by kernel_rfl) ?_
        refine OJ.kld (d := 74) (T := 3) (y := .tmp 73) (cd := (cI .i64)) (j := 1) (b := b2) (o := 3) a1.N (pend2 := []) (by kernel_rfl) (by kernel_rfl) Ty3 (by kernel_rfl) rfl (At_weirlaw3_Op_N a1) (by kernel_rfl) rfl ?_
        refine OJ.call (d := 75) (g := 21) (ats := #[23, 3, 3]) (args := [.tmp 70, .tmp 72, .tmp 74]) (vals := [.pointer a0.P, .int .i64 a1.I, .int .i64 a1.N]) (owed := []) (by kernel_rfl) F21 (by kernel_rfl) (ring_Port_Send_ok a0.P a1.I a1.N) (by kernel_rfl) (by kernel_rfl) (by kernel_rfl) (fun r58 => ?_)
        refine OW.nil ?_
        refine OJ.run [7] [] [2, 3, 4, 12] (m2 := [(2, .pointer (some (pt b1 0))), (3, .pointer (some (pt b2 0))), (4, .pointer (some (pt b3 0))), (12, .int .i64 r58)]) (by kernel_rfl) (by kernel_rfl) ?_
        refine OJ.nil ?_
        refine SJ.seq (by kernel_rfl) ?_
        refine SJ.region (id := 14) (by kernel_rfl) [0, 1, 2, 3, 4, 5, 6, 7, 8, 9, 10, 11, 12] (by kernel_rfl) ?_
        refine OJ.run [0] [1, 2, 3, 4, 5, 6, 7, 8, 9, 10, 11, 12] [2, 3, 4, 12, 77] (m2 := [(2, .pointer (some (pt b1 0))), (3, .pointer (some (pt b2 0))), (4, .pointer (some (pt b3 0))), (12, .int .i64 r58), (77, .pointer (some (pt b1 1)))]) (by kernel_rfl) (by kernel_rfl) ?_
        refine OJ.kld (d := 78) (T := 59) (y := .tmp 77) (cd := c_weirref3_Port) (j := 2) (b := b1) (o := 1) a0.R (pend2 := []) (by kernel_rfl) (by kernel_rfl) Ty59 (by kernel_rfl) rfl (At_weirlaw3_Side_R a0) (by kernel_rfl) rfl ?_
        refine OJ.run [2] [3, 4, 5, 6, 7, 8, 9, 10, 11, 12] [2, 3, 4, 12, 78, 79] (m2 := [(2, .pointer (some (pt b1 0))), (3, .pointer (some (pt b2 0))), (4, .pointer (some (pt b3 0))), (12, .int .i64 r58), (78, c_weirref3_Port.val a0.R), (79, .pointer (some (pt b2 2)))]) (by kernel_rfl) (by kernel_rfl) ?_
        refine OJ.kld (d := 80) (T := 3) (y := .tmp 79) (cd := (cI .i64)) (j := 1) (b := b2) (o := 2) a1.I (pend2 := []) (by kernel_rfl) (by kernel_rfl) Ty3 (by kernel_rfl) rfl (At_weirlaw3_Op_I a1) (by kernel_rfl) rfl ?_
        refine OJ.run [4] [5, 6, 7, 8, 9, 10, 11, 12] [2, 4, 12, 78, 80, 81] (m2 := [(2, .pointer (some (pt b1 0))), (4, .pointer (some (pt b3 0))), (12, .int .i64 r58), (78, c_weirref3_Port.val a0.R), (80, .int .i64 a1.I), (81, .pointer (some (pt b2 3)))]) (by kernel_rfl) (by kernel_rfl) ?_
        refine OJ.kld (d := 82) (T := 3) (y := .tmp 81) (cd := (cI .i64)) (j := 1) (b := b2) (o := 3) a1.N (pend2 := []) (by kernel_rfl) (by kernel_rfl) Ty3 (by kernel_rfl) rfl (At_weirlaw3_Op_N a1) (by kernel_rfl) rfl ?_
        refine OJ.call (d := 83) (g := 72) (ats := #[59, 3, 3]) (args := [.tmp 78, .tmp 80, .tmp 82]) (vals := [c_weirref3_Port.val a0.R, .int .i64 a1.I, .int .i64 a1.N]) (owed := []) (by kernel_rfl) F72 (by kernel_rfl) (weirref3_Send_ok a0.R a1.I a1.N) (by kernel_rfl) (by kernel_rfl) (by kernel_rfl) (fun r59 => ?_)
        refine OW.nil ?_
        refine OJ.run [7, 8, 9] [10, 11, 12] [2, 4, 12, 84, 85] (m2 := [(2, .pointer (some (pt b1 0))), (4, .pointer (some (pt b3 0))), (12, .int .i64 r58), (84, c_weirref3_Port.val r59.1), (85, .int .i64 r59.2)]) (by kernel_rfl) (by kernel_rfl) ?_
        refine OJ.slotOf (d := 13) (op := (.alloc 59)) (cd := c_weirref3_Port) (u := z_weirref3_Port) (owed := []) (by kernel_rfl) (alloc_run Ty59) (by kernel_rfl) (by kernel_rfl) (by kernel_rfl) (fun b60 => ?_)
        refine OW.nil ?_
        refine OJ.kst (T := 59) (y := .tmp 13) (z := .tmp 84) (cd := c_weirref3_Port) (u := r59.1) (j := 0) (b := b60) (o := 0) (c_weirref3_Port.enc r59.1) (h2 := [(b60, c_weirref3_Port.enc r59.1), (b3, c_weirlaw3_Side.enc z_weirlaw3_Side), (b2, c_weirlaw3_Op.enc a1), (b1, c_weirlaw3_Side.enc a0)]) (owed := []) (by kernel_rfl) (by kernel_rfl) (by kernel_rfl) Ty59 rfl (Upd.whole ((Cod.len _ _).trans (Cod.len _ _).symm)) (by kernel_rfl) (by kernel_rfl) rfl ?_
        refine OW.nil ?_
        refine OJ.run [12] [] [2, 4, 12, 13, 14] (m2 := [(2, .pointer (some (pt b1 0))), (4, .pointer (some (pt b3 0))), (12, .int .i64 r58), (13, .pointer (some (pt b60 0))), (14, .int .i64 r59.2)]) (by kernel_rfl) (by kernel_rfl) ?_
        refine OJ.nil ?_
        refine SJ.seq (by kernel_rfl) ?_
        refine SJ.region (id := 15) (by kernel_rfl) [0, 1, 2] (by kernel_rfl) ?_
        refine OJ.kld (d := 86) (T := 59) (y := .tmp 13) (cd := c_weirref3_Port) (j := 0) (b := b60) (o := 0) r59.1 (pend2 := []) (by kernel_rfl) (by kernel_rfl) Ty59 (by kernel_rfl) rfl (At.whole _) (by kernel_rfl) rfl ?_
        refine OJ.run [1] [2] [2, 4, 12, 14, 86, 87] (m2 := [(2, .pointer (some (pt b1 0))), (4, .pointer (some (pt b3 0))), (12, .int .i64 r58), (14, .int .i64 r59.2), (86, c_weirref3_Port.val r59.1), (87, .pointer (some (pt b1 1)))]) (by kernel_rfl) (by kernel_rfl) ?_
        refine OJ.kst (T := 59) (y := .tmp 87) (z := .tmp 86) (cd := c_weirref3_Port) (u := r59.1) (j := 3) (b := b1) (o := 1) (c_weirlaw3_Side.enc (⟨a0.P, r59.1, a0.W⟩ : weirlaw3_Side)) (h2 := [(b60, c_weirref3_Port.enc r59.1), (b3, c_weirlaw3_Side.enc z_weirlaw3_Side), (b2, c_weirlaw3_Op.enc a1), (b1, c_weirlaw3_Side.enc (⟨a0.P, r59.1, a0.W⟩ : weirlaw3_Side))]) (owed := []) (by kernel_rfl) (by kernel_rfl) (by kernel_rfl) Ty59 rfl (Up_weirlaw3_Side_R a0 r59.1) (by kernel_rfl) (by kernel_rfl) rfl ?_
        refine OW.nil ?_
        refine OJ.nil ?_
        refine SJ.seq (by kernel_rfl) ?_
        refine SJ.draw (id := 16) (kd := [1, 0, 2, 0, 0, 2, 0]) (bef := [0, 0, 2, 0, 14, 7, 63]) (ord := [0, 1, 2, 3, 4, 5, 6]) (by kernel_rfl) mixed (by kernel_rfl) ?_
        refine OJ.kld (d := 88) (T := 62) (y := .tmp 2) (cd := c_weirlaw3_Side) (j := 3) (b := b1) (o := 0) (⟨a0.P, r59.1, a0.W⟩ : weirlaw3_Side) (pend2 := [⟨0, 62, (pt b1 0), c_weirlaw3_Side.val (⟨a0.P, r59.1, a0.W⟩ : weirlaw3_Side)⟩]) (by kernel_rfl) (by kernel_rfl) Ty62 (by kernel_rfl) rfl (At.whole _) (by kernel_rfl) rfl ?_
        refine OJ.run [1] [2, 3, 4, 5, 6] [4, 14, 88, 89] (m2 := [(4, .pointer (some (pt b3 0))), (14, .int .i64 r59.2), (88, c_weirlaw3_Side.val (⟨a0.P, r59.1, a0.W⟩ : weirlaw3_Side)), (89, .int .i64 r58)]) (by kernel_rfl) (by kernel_rfl) ?_
        refine OJ.call (d := 90) (g := 14) (ats := #[24]) (args := [.tmp 89]) (vals := [.int .i64 r58]) (owed := [⟨0, 62, (pt b1 0), c_weirlaw3_Side.val (⟨a0.P, r59.1, a0.W⟩ : weirlaw3_Side)⟩]) (by kernel_rfl) F14 (by kernel_rfl) (weirlaw3_num_ok r58) (by kernel_rfl) (by kernel_rfl) (by kernel_rfl) (fun r61 => ?_)
        refine OW.known (j := 3) (q := (⟨a0.P, r59.1, a0.W⟩ : weirlaw3_Side)) Ty62 rfl (At.whole _) ?_
        refine OW.nil ?_
        refine OJ.run [3, 4] [5, 6] [4, 88, 92] (m2 := [(4, .pointer (some (pt b3 0))), (88, c_weirlaw3_Side.val (⟨a0.P, r59.1, a0.W⟩ : weirlaw3_Side)), (92, .bool (r61 == r59.2))]) (by kernel_rfl) (by kernel_rfl) ?_
        refine OJ.kst (T := 62) (y := .tmp 4) (z := .tmp 88) (cd := c_weirlaw3_Side) (u := (⟨a0.P, r59.1, a0.W⟩ : weirlaw3_Side)) (j := 1) (b := b3) (o := 0) (c_weirlaw3_Side.enc (⟨a0.P, r59.1, a0.W⟩ : weirlaw3_Side)) (h2 := [(b60, c_weirref3_Port.enc r59.1), (b3, c_weirlaw3_Side.enc (⟨a0.P, r59.1, a0.W⟩ : weirlaw3_Side)), (b2, c_weirlaw3_Op.enc a1), (b1, c_weirlaw3_Side.enc (⟨a0.P, r59.1, a0.W⟩ : weirlaw3_Side))]) (owed := []) (by kernel_rfl) (by kernel_rfl) (by kernel_rfl) Ty62 rfl (Upd.whole ((Cod.len _ _).trans (Cod.len _ _).symm)) (by kernel_rfl) (by kernel_rfl) rfl ?_
        refine OW.nil ?_
        refine OJ.run [6] [] [4, 5] (m2 := [(4, .pointer (some (pt b3 0))), (5, .bool (r61 == r59.2))]) (by kernel_rfl) (by kernel_rfl) ?_
        refine OJ.nil ?_
        exact SJ.ret (by kernel_rfl) rfl (Res.run (ys := [c_weirlaw3_Side.val (⟨a0.P, r59.1, a0.W⟩ : weirlaw3_Side), .bool (r61 == r59.2)]) (.cell (j := 1) (b := b3) (cd := c_weirlaw3_Side) (q := (⟨a0.P, r59.1, a0.W⟩ : weirlaw3_Side)) (by kernel_rfl) rfl Ty62 (At.whole _) (.tmp (by kernel_rfl) .nil)) rfl)
      · refine SJ.skip (by kernel_rfl) ?_
        refine SJ.inBlock ?_
        refine SJ.seq (by kernel_rfl) ?_
        refine SJ.region (id := 17) (by kernel_rfl) [0, 1, 2, 3, 4, 5, 6, 7] (by kernel_rfl) ?_
        refine OJ.run [0] [1, 2, 3, 4, 5, 6, 7] [2, 4, 94] (m2 := [(2, .pointer (some (pt b1 0))), (4, .pointer (some (pt b3 0))), (94, .pointer (some (pt b1 0)))]) (by kernel_rfl) (by kernel_rfl) ?_
        refine OJ.kld (d := 95) (T := 23) (y := .tmp 94) (cd := cP) (j := 2) (b := b1) (o := 0) a0.P (pend2 := []) (by kernel_rfl) (by kernel_rfl) Ty23 (by kernel_rfl) rfl (At_weirlaw3_Side_P a0) (by kernel_rfl) rfl ?_
        refine OJ.call (d := 96) (g := 22) (ats := #[23]) (args := [.tmp 95]) (vals := [.pointer a0.P]) (owed := []) (by kernel_rfl) F22 (by kernel_rfl) (ring_Port_Drain_ok a0.P) (by kernel_rfl) (by kernel_rfl) (by kernel_rfl) (fun r62 => ?_)
        refine OW.nil ?_
        refine OJ.run [3, 4, 5, 6, 7] [] [2, 4, 15, 16] (m2 := [(2, .pointer (some (pt b1 0))), (4, .pointer (some (pt b3 0))), (15, Sl.v r62.1), (16, .bool r62.2)]) (by kernel_rfl) (by kernel_rfl) ?_
        refine OJ.nil ?_
        refine SJ.seq (by kernel_rfl) ?_
        refine SJ.region (id := 18) (by kernel_rfl) [0, 1, 2, 3, 4, 5, 6, 7, 8, 9, 10] (by kernel_rfl) ?_
        refine OJ.run [0] [1, 2, 3, 4, 5, 6, 7, 8, 9, 10] [2, 4, 15, 16, 100] (m2 := [(2, .pointer (some (pt b1 0))), (4, .pointer (some (pt b3 0))), (15, Sl.v r62.1), (16, .bool r62.2), (100, .pointer (some (pt b1 1)))]) (by kernel_rfl) (by kernel_rfl) ?_
        refine OJ.kld (d := 101) (T := 59) (y := .tmp 100) (cd := c_weirref3_Port) (j := 2) (b := b1) (o := 1) a0.R (pend2 := []) (by kernel_rfl) (by kernel_rfl) Ty59 (by kernel_rfl) rfl (At_weirlaw3_Side_R a0) (by kernel_rfl) rfl ?_
        refine OJ.call (d := 102) (g := 73) (ats := #[59]) (args := [.tmp 101]) (vals := [c_weirref3_Port.val a0.R]) (owed := []) (by kernel_rfl) F73 (by kernel_rfl) (weirref3_Drain_ok a0.R) (by kernel_rfl) (by kernel_rfl) (by kernel_rfl) (fun r63 => ?_)
        refine OW.nil ?_
        refine OJ.run [3, 4, 5, 6] [7, 8, 9, 10] [2, 4, 15, 16, 103, 104, 105] (m2 := [(2, .pointer (some (pt b1 0))), (4, .pointer (some (pt b3 0))), (15, Sl.v r62.1), (16, .bool r62.2), (103, c_weirref3_Port.val r63.1), (104, Sl.v r63.2.1), (105, .bool r63.2.2)]) (by kernel_rfl) (by kernel_rfl) ?_
        refine OJ.slotOf (d := 17) (op := (.alloc 59)) (cd := c_weirref3_Port) (u := z_weirref3_Port) (owed := []) (by kernel_rfl) (alloc_run Ty59) (by kernel_rfl) (by kernel_rfl) (by kernel_rfl) (fun b64 => ?_)
        refine OW.nil ?_
        refine OJ.kst (T := 59) (y := .tmp 17) (z := .tmp 103) (cd := c_weirref3_Port) (u := r63.1) (j := 0) (b := b64) (o := 0) (c_weirref3_Port.enc r63.1) (h2 := [(b64, c_weirref3_Port.enc r63.1), (b3, c_weirlaw3_Side.enc z_weirlaw3_Side), (b2, c_weirlaw3_Op.enc a1), (b1, c_weirlaw3_Side.enc a0)]) (owed := []) (by kernel_rfl) (by kernel_rfl) (by kernel_rfl) Ty59 rfl (Upd.whole ((Cod.len _ _).trans (Cod.len _ _).symm)) (by kernel_rfl) (by kernel_rfl) rfl ?_
        refine OW.nil ?_
        refine OJ.run [9, 10] [] [2, 4, 15, 16, 17, 18, 19] (m2 := [(2, .pointer (some (pt b1 0))), (4, .pointer (some (pt b3 0))), (15, Sl.v r62.1), (16, .bool r62.2), (17, .pointer (some (pt b64 0))), (18, Sl.v r63.2.1), (19, .bool r63.2.2)]) (by kernel_rfl) (by kernel_rfl) ?_
        refine OJ.nil ?_
        refine SJ.seq (by kernel_rfl) ?_
        refine SJ.region (id := 19) (by kernel_rfl) [0, 1, 2] (by kernel_rfl) ?_
        refine OJ.kld (d := 106) (T := 59) (y := .tmp 17) (cd := c_weirref3_Port) (j := 0) (b := b64) (o := 0) r63.1 (pend2 := []) (by kernel_rfl) (by kernel_rfl) Ty59 (by kernel_rfl) rfl (At.whole _) (by kernel_rfl) rfl ?_
        refine OJ.run [1] [2] [2, 4, 15, 16, 18, 19, 106, 107] (m2 := [(2, .pointer (some (pt b1 0))), (4, .pointer (some (pt b3 0))), (15, Sl.v r62.1), (16, .bool r62.2), (18, Sl.v r63.2.1), (19, .bool r63.2.2), (106, c_weirref3_Port.val r63.1), (107, .pointer (some (pt b1 1)))]) (by kernel_rfl) (by kernel_rfl) ?_
        refine OJ.kst (T := 59) (y := .tmp 107) (z := .tmp 106) (cd := c_weirref3_Port) (u := r63.1) (j := 3) (b := b1) (o := 1) (c_weirlaw3_Side.enc (⟨a0.P, r63.1, a0.W⟩ : weirlaw3_Side)) (h2 := [(b64, c_weirref3_Port.enc r63.1), (b3, c_weirlaw3_Side.enc z_weirlaw3_Side), (b2, c_weirlaw3_Op.enc a1), (b1, c_weirlaw3_Side.enc (⟨a0.P, r63.1, a0.W⟩ : weirlaw3_Side))]) (owed := []) (by kernel_rfl) (by kernel_rfl) (by kernel_rfl) Ty59 rfl (Up_weirlaw3_Side_R a0 r63.1) (by kernel_rfl) (by kernel_rfl) rfl ?_
        refine OW.nil ?_
        refine OJ.nil ?_
        refine SJ.seq (by kernel_rfl) ?_
        refine SJ.region (id := 20) (by kernel_rfl) [0, 1, 2, 3, 4, 5, 6, 7, 8] (by kernel_rfl) ?_
        refine OJ.run [0, 1, 2, 3] [4, 5, 6, 7, 8] [2, 4, 15, 18, 111] (m2 := [(2, .pointer (some (pt b1 0))), (4, .pointer (some (pt b3 0))), (15, Sl.v r62.1), (18, Sl.v r63.2.1), (111, .bool (r62.2 == r63.2.2))]) (by kernel_rfl) (by kernel_rfl) ?_
        refine OJ.join (b := (r62.2 == r63.2.2)) [4, 5, 6, 7] [8] [2, 4, 15, 115] (fun y66 => [(2, .pointer (some (pt b1 0))), (4, .pointer (some (pt b3 0))), (15, Sl.v r62.1), (115, .bool y66)]) [] [] (by kernel_rfl) (t := 111) (by kernel_rfl) beq_iff_eq (fun hp_ => ?_) (fun hp_ => ?_) (by kernel_rfl) (fun _ _ _ _ _ _ h_ => h_) (fun y66 => ?_)
        · refine OJ.run [4, 5] [6, 7] [2, 4, 15, 111, 112, 113] (m2 := [(2, .pointer (some (pt b1 0))), (4, .pointer (some (pt b3 0))), (15, Sl.v r62.1), (111, .bool true), (112, Sl.v r62.1), (113, Sl.v r63.2.1)]) (by kernel_rfl) (by kernel_rfl) ?_
          refine OJ.call (d := 114) (g := 19) (ats := #[22, 22]) (args := [.tmp 112, .tmp 113]) (vals := [Sl.v r62.1, Sl.v r63.2.1]) (owed := []) (by kernel_rfl) F19 (by kernel_rfl) (weirlaw3_alike_ok r62.1 r63.2.1) (by kernel_rfl) (by kernel_rfl) (by kernel_rfl) (fun r65 => ?_)
          refine OW.nil ?_
          refine OJ.run [7] [] [2, 4, 15, 115] (m2 := [(2, .pointer (some (pt b1 0))), (4, .pointer (some (pt b3 0))), (15, Sl.v r62.1), (115, .bool r65)]) (by kernel_rfl) (by kernel_rfl) ?_
          exact OJ.nil ⟨(Cov.mem Cov.nil), rfl, _, rfl, by kernel_rfl⟩
        · refine OJ.run [4, 5, 6, 7] [] [2, 4, 15, 115] (m2 := [(2, .pointer (some (pt b1 0))), (4, .pointer (some (pt b3 0))), (15, Sl.v r62.1), (115, .bool false)]) (by kernel_rfl) (by kernel_rfl) ?_
          exact OJ.nil ⟨(Cov.mem Cov.nil), rfl, _, rfl, by kernel_rfl⟩
        · refine OJ.run [8] [] [2, 4, 15, 20] (m2 := [(2, .pointer (some (pt b1 0))), (4, .pointer (some (pt b3 0))), (15, Sl.v r62.1), (20, .bool y66)]) (by kernel_rfl) (by kernel_rfl) ?_
          refine OJ.nil ?_
          refine SJ.seq (by kernel_rfl) ?_
          refine SJ.seq (by kernel_rfl) ?_
          refine SJ.region (id := 21) (by kernel_rfl) [0] (by kernel_rfl) ?_
          refine OJ.run [0] [] [2, 4, 15, 20, 21] (m2 := [(2, .pointer (some (pt b1 0))), (4, .pointer (some (pt b3 0))), (15, Sl.v r62.1), (20, .bool y66), (21, .int .i64 0)]) (by kernel_rfl) (by kernel_rfl) ?_
          refine OJ.nil ?_
          refine SJ.block (id := 1) (by kernel_rfl) ?_
          refine SJ.forget (List.Sublist.cons _ (List.Sublist.cons_cons _ (List.Sublist.cons _ (List.Sublist.cons_cons _ List.Sublist.slnil)))) ?_
          exact SJ.loop (fun s_ : Int => [(2, .pointer (some (pt b1 0))), (4, .pointer (some (pt b3 0))), (15, Sl.v r62.1), (20, .bool y66), (21, .int .i64 s_)]) (fun s_ : Int => [(b3, c_weirlaw3_Side.enc z_weirlaw3_Side), (b1, c_weirlaw3_Side.enc (⟨a0.P, r63.1, a0.W⟩ : weirlaw3_Side))]) [2, 4, 15, 20, 21] (by kernel_rfl) (by kernel_rfl) rfl (fun _ _ => rfl) (fun s_ => weirlaw3_moved.L1_ok a0 b1 b3 r62 r63 y66 s_)

/-! ### weir/weirref3.Places: function 52 -/
noncomputable def weirref3_Places.B : Code := (Try.f52.body).getD .skip
noncomputable def weirref3_Places.cx : Fx := ⟨Try.prog, 52, Try.f52⟩
noncomputable def weirref3_Places.out (r_ : Sl) : Value := Sl.v r_
noncomputable def weirref3_Places.F0 (r_ : Sl) : Reach := .ret (weirref3_Places.out r_)
noncomputable def weirref3_Places.F1 (a0 : weirref3_Port) (b1 : Nat) : (LS (Sl × Int) Sl) → Reach := loopF [.inLoop (c1 (c1 (c2 (c1 (c2 (c2 weirref3_Places.B)))))), .inBlock 0, .code (c2 (c2 (c2 weirref3_Places.B)))] (fun s_ : (Sl × Int) => [(1, .pointer (some (pt b1 0))), (3, Sl.v s_.1), (4, .int .i64 s_.2)]) (fun s_ : (Sl × Int) => [(b1, c_weirref3_Port.enc a0)]) weirref3_Places.F0
noncomputable def weirref3_Places.L1 (a0 : weirref3_Port) (s2 : Sl) (s3 : Int) : M (LS (Sl × Int) Sl) :=
  if s3 < (a0.L.len : Int) then
    idx a0.L.a a0.L.len s3 4 >>= fun p9 =>
    ld (cI .i64) p9 >>= fun x10 =>
    slot 3 >>= fun b11 =>
    appl (cI .i64) 3 8 0 s2 [x10] >>= fun r12 =>
    pure (LS.next (r12, IntKind.wrap .i64 (s3 + 1)))
  else
    pure (LS.done s2)
theorem weirref3_Places.L1_ok (a0 : weirref3_Port) (b1 : Nat) (s2 : Sl) (s3 : Int) :
    SJ weirref3_Places.cx [.code (c1 (c1 (c2 (c1 (c2 (c2 weirref3_Places.B)))))), .inLoop (c1 (c1 (c2 (c1 (c2 (c2 weirref3_Places.B)))))), .inBlock 0, .code (c2 (c2 (c2 weirref3_Places.B)))] [(1, .pointer (some (pt b1 0))), (3, Sl.v s2), (4, .int .i64 s3)] [(b1, c_weirref3_Port.enc a0)] (weirref3_Places.L1 a0 s2 s3) (weirref3_Places.F1 a0 b1) := by
  unfold weirref3_Places.L1
  refine SJ.seq (by kernel_rfl) ?_
  refine SJ.seq (by kernel_rfl) ?_
  refine SJ.region (id := 3) (by kernel_rfl) [0, 1, 2, 3, 4] (by kernel_rfl) ?_
  refine OJ.run [0, 1] [2, 3, 4] [1, 3, 4, 5, 6] (m2 := [(1, .pointer (some (pt b1 0))), (3, Sl.v s2), (4, .int .i64 s3), (5, .int .i64 s3), (6, .pointer (some (pt b1 3)))]) (by kernel_rfl) (by kernel_rfl) ?_
  refine OJ.kld (d := 7) (T := 57) (y := .tmp 6) (cd := cL) (j := 0) (b := b1) (o := 3) a0.L (pend2 := []) (by kernel_rfl) (by kernel_rfl) Ty57 (by kernel_rfl) rfl (At_weirref3_Port_L a0) (by kernel_rfl) rfl ?_
  refine OJ.run [3, 4] [] [1, 3, 4, 9] (m2 := [(1, .pointer (some (pt b1 0))), (3, Sl.v s2), (4, .int .i64 s3), (9, .bool (decide (s3 < (a0.L.len : Int))))]) (by kernel_rfl) (by kernel_rfl) ?_
  refine OJ.nil ?_
  refine SJ.cond (t := (.tmp 9)) (b := decide (s3 < (a0.L.len : Int))) (by kernel_rfl) (by kernel_rfl) decide_eq_true_iff (fun hc13 => ?_) (fun hc13 => ?_)
  · refine SJ.skip (by kernel_rfl) ?_
    refine SJ.seq (by kernel_rfl) ?_
    refine SJ.block (id := 1) (by kernel_rfl) ?_
    refine SJ.region (id := 5) (by kernel_rfl) [0, 1, 2, 3, 4, 5, 6, 7, 8, 9] (by kernel_rfl) ?_
    refine OJ.run [0, 1] [2, 3, 4, 5, 6, 7, 8, 9] [1, 3, 4, 12, 13] (m2 := [(1, .pointer (some (pt b1 0))), (3, Sl.v s2), (4, .int .i64 s3), (12, Sl.v s2), (13, .pointer (some (pt b1 3)))]) (by kernel_rfl) (by kernel_rfl) ?_
    refine OJ.kld (d := 14) (T := 57) (y := .tmp 13) (cd := cL) (j := 0) (b := b1) (o := 3) a0.L (pend2 := []) (by kernel_rfl) (by kernel_rfl) Ty57 (by kernel_rfl) rfl (At_weirref3_Port_L a0) (by kernel_rfl) rfl ?_
    refine OJ.run [3] [4, 5, 6, 7, 8, 9] [1, 3, 4, 12, 14, 15] (m2 := [(1, .pointer (some (pt b1 0))), (3, Sl.v s2), (4, .int .i64 s3), (12, Sl.v s2), (14, Sl.v a0.L), (15, .int .i64 s3)]) (by kernel_rfl) (by kernel_rfl) ?_
    refine OJ.idxS (d := 16) (T := 57) (y := .tmp 14) (j := .tmp 15) (E := 110) (cap := a0.L.cap) (k := .i64) (by kernel_rfl) (by kernel_rfl) (by kernel_rfl) (by kernel_rfl) (by kernel_rfl) (by kernel_rfl) (by kernel_rfl) (by kernel_rfl) (fun p9 => ?_)
    refine OJ.run [5] [6, 7, 8, 9] [1, 3, 4, 12, 17] (m2 := [(1, .pointer (some (pt b1 0))), (3, Sl.v s2), (4, .int .i64 s3), (12, Sl.v s2), (17, .pointer (some p9))]) (by kernel_rfl) (by kernel_rfl) ?_
    refine OJ.ld (d := 18) (T := 3) (y := .tmp 17) (pend2 := fun x10 => []) (by kernel_rfl) (by kernel_rfl) Ty3 (by kernel_rfl) (by kernel_rfl) (fun _ => rfl) (fun x10 => ?_)
    refine OJ.rowSlot (d := 19) (t := 67) (parts := [(0, .tmp 18)]) (ps := [(0, (cI .i64).val x10)]) (cd := (cI .i64)) (⟨[x10], rfl⟩ : Vec Int 1) (owed := []) (by kernel_rfl) (by kernel_rfl) (by kernel_rfl) Ty3 (by kernel_rfl) (Filled.cons (cd := (cI .i64)) (q := x10) (o := 0) rfl (Upd.arr (i := 0) (by decide) (by decide)) Filled.nil) (by kernel_rfl) (by kernel_rfl) (by kernel_rfl) (fun b11 => ?_)
    refine OW.nil ?_
    refine OJ.appl (d := 20) (t := 67) (u := 67) (so := .tmp 12) (xo := .tmp 19) (j := 0) (b := b11) (l := ((cI .i64).arr 1).enc (⟨[x10], rfl⟩ : Vec Int 1)) (n := 1) (k := 1) [x10] (owed := []) (by kernel_rfl) (by kernel_rfl) (by kernel_rfl) Ty3 (by kernel_rfl) (by kernel_rfl) (by kernel_rfl) (by rfl) (Cod.arr_enc _ _ _) (by rfl) (by kernel_rfl) (by kernel_rfl) (by kernel_rfl) (fun r12 => ?_)
    refine OW.nil ?_
    refine OJ.run [9] [] [1, 3, 4] (m2 := [(1, .pointer (some (pt b1 0))), (3, Sl.v r12), (4, .int .i64 s3)]) (by kernel_rfl) (by kernel_rfl) ?_
    refine OJ.nil ?_
    refine SJ.inBlock ?_
    refine SJ.region (id := 4) (by kernel_rfl) [0, 1, 2] (by kernel_rfl) ?_
    refine OJ.run [0, 1, 2] [] [1, 3, 4] (m2 := [(1, .pointer (some (pt b1 0))), (3, Sl.v r12), (4, .int .i64 (IntKind.wrap .i64 (s3 + 1)))]) (by kernel_rfl) (by kernel_rfl) ?_
    refine OJ.nil ?_
    refine SJ.forget (List.Sublist.cons _ (List.Sublist.cons_cons _ List.Sublist.slnil)) ?_
    exact SJ.at_ [1, 3, 4] rfl (by kernel_rfl)
  · refine SJ.exit (id := 0) (by kernel_rfl) (by rfl) ?_
    refine SJ.seq (by kernel_rfl) ?_
    refine SJ.region (id := 6) (by kernel_rfl) [0, 1] (by kernel_rfl) ?_
    refine OJ.run [0, 1] [] [2] (m2 := [(2, Sl.v s2)]) (by kernel_rfl) (by kernel_rfl) ?_
    refine OJ.nil ?_
    exact SJ.ret (by kernel_rfl) rfl (Res.run (ys := [Sl.v s2]) (.tmp (by kernel_rfl) .nil) rfl)
noncomputable def weirref3_Places (a0 : weirref3_Port) : M Sl :=
  slot 59 >>= fun b1 =>
  loopM (fun s_ : (Sl × Int) => weirref3_Places.L1 a0 s_.1 s_.2) (Sl.nil, 0)
theorem weirref3_Places_ok (a0 : weirref3_Port) : Ref Try.prog 52 [c_weirref3_Port.val a0] (weirref3_Places a0) weirref3_Places.out := by
  refine Ref.of (cd := weirref3_Places.B) Try.func52 (by kernel_rfl) (by kernel_rfl) ?_
  show SJ weirref3_Places.cx [.code weirref3_Places.B] [(0, c_weirref3_Port.val a0)] [] (weirref3_Places a0) weirref3_Places.F0
  unfold weirref3_Places
  refine SJ.seq (by kernel_rfl) ?_
  refine SJ.region (id := 0) (by kernel_rfl) [0, 1] (by kernel_rfl) ?_
  refine OJ.slotOf (d := 1) (op := (.box 59 (.tmp 0))) (cd := c_weirref3_Port) (u := a0) (owed := []) (by kernel_rfl) (box_run (by kernel_rfl)) (by kernel_rfl) (by kernel_rfl) (by kernel_rfl) (fun b1 => ?_)
  refine OW.nil ?_
  refine OJ.run [1] [] [1] (m2 := [(1, .pointer (some (pt b1 0)))]) (by kernel_rfl) (by kernel_rfl) ?_
  refine OJ.nil ?_
  refine SJ.seq (by kernel_rfl) ?_
  refine SJ.region (id := 1) (by kernel_rfl) [0] (by kernel_rfl) ?_
  refine OJ.run [0] [] [1, 3] (m2 := [(1, .pointer (some (pt b1 0))), (3, Sl.v Sl.nil)]) (by kernel_rfl) (by kernel_rfl) ?_
  refine OJ.nil ?_
  refine SJ.seq (by kernel_rfl) ?_
  refine SJ.seq (by kernel_rfl) ?_
  refine SJ.region (id := 2) (by kernel_rfl) [0] (by kernel_rfl) ?_
  refine OJ.run [0] [] [1, 3, 4] (m2 := [(1, .pointer (some (pt b1 0))), (3, Sl.v Sl.nil), (4, .int .i64 0)]) (by kernel_rfl) (by kernel_rfl) ?_
  refine OJ.nil ?_
  refine SJ.block (id := 0) (by kernel_rfl) ?_
  exact SJ.loop (fun s_ : (Sl × Int) => [(1, .pointer (some (pt b1 0))), (3, Sl.v s_.1), (4, .int .i64 s_.2)]) (fun s_ : (Sl × Int) => [(b1, c_weirref3_Port.enc a0)]) [1, 3, 4] (by kernel_rfl) (by kernel_rfl) rfl (fun _ _ => rfl) (fun s_ => weirref3_Places.L1_ok a0 b1 s_.1 s_.2)

/-! ### weir/weirref3.Stat: function 53 -/
noncomputable def weirref3_Stat.B : Code := (Try.f53.body).getD .skip
noncomputable def weirref3_Stat.cx : Fx := ⟨Try.prog, 53, Try.f53⟩
noncomputable def weirref3_Stat.out (r_ : api_RingStat) : Value := c_api_RingStat.val r_
noncomputable def weirref3_Stat.F0 (r_ : api_RingStat) : Reach := .ret (weirref3_Stat.out r_)
noncomputable def weirref3_Stat (a0 : weirref3_Port) : M api_RingStat :=
  slot 59 >>= fun b1 =>
  slot 52 >>= fun b2 =>
  draw >>= fun _ =>
  weirref3_count a0 1 >>= fun r3 =>
  weirref3_count a0 2 >>= fun r4 =>
  weirref3_count a0 3 >>= fun r5 =>
  weirref3_count a0 4 >>= fun r6 =>
  weirref3_count a0 5 >>= fun r7 =>
  pure (⟨r3, r4, r5, r6, r7⟩ : api_RingStat)
theorem weirref3_Stat_ok (a0 : weirref3_Port) : Ref Try.prog 53 [c_weirref3_Port.val a0] (weirref3_Stat a0) weirref3_Stat.out := by
  refine Ref.of (cd := weirref3_Stat.B) Try.func53 (by kernel_rfl) (by kernel_rfl) ?_
  show SJ weirref3_Stat.cx [.code weirref3_Stat.B] [(0, c_weirref3_Port.val a0)] [] (weirref3_Stat a0) weirref3_Stat.F0
  unfold weirref3_Stat
  refine SJ.seq (by kernel_rfl) ?_
  refine SJ.region (id := 0) (by kernel_rfl) [0, 1] (by kernel_rfl) ?_
  refine OJ.slotOf (d := 1) (op := (.box 59 (.tmp 0))) (cd := c_weirref3_Port) (u := a0) (owed := []) (by kernel_rfl) (box_run (by kernel_rfl)) (by kernel_rfl) (by kernel_rfl) (by kernel_rfl) (fun b1 => ?_)
  refine OW.nil ?_
  refine OJ.slotOf (d := 2) (op := (.alloc 52)) (cd := c_api_RingStat) (u := z_api_RingStat) (owed := []) (by kernel_rfl) (alloc_run Ty52) (by kernel_rfl) (by kernel_rfl) (by kernel_rfl) (fun b2 => ?_)
  refine OW.nil ?_
  refine OJ.nil ?_
  refine SJ.seq (by kernel_rfl) ?_
  refine SJ.draw (id := 1) (kd := [1, 2, 1, 2, 1, 2, 1, 2, 1, 2, 0, 2]) (bef := [0, 1, 0, 7, 0, 31, 0, 127, 0, 511, 1023, 2047]) (ord := [0, 2, 4, 6, 8, 1, 3, 5, 7, 9, 10, 11]) (by kernel_rfl) mixed (by kernel_rfl) ?_
  refine OJ.kld (d := 3) (T := 59) (y := .tmp 1) (cd := c_weirref3_Port) (j := 1) (b := b1) (o := 0) a0 (pend2 := [⟨0, 59, (pt b1 0), c_weirref3_Port.val a0⟩]) (by kernel_rfl) (by kernel_rfl) Ty59 (by kernel_rfl) rfl (At.whole _) (by kernel_rfl) rfl ?_
  refine OJ.kld (d := 5) (T := 59) (y := .tmp 1) (cd := c_weirref3_Port) (j := 1) (b := b1) (o := 0) a0 (pend2 := [⟨2, 59, (pt b1 0), c_weirref3_Port.val a0⟩, ⟨0, 59, (pt b1 0), c_weirref3_Port.val a0⟩]) (by kernel_rfl) (by kernel_rfl) Ty59 (by kernel_rfl) rfl (At.whole _) (by kernel_rfl) rfl ?_
  refine OJ.kld (d := 7) (T := 59) (y := .tmp 1) (cd := c_weirref3_Port) (j := 1) (b := b1) (o := 0) a0 (pend2 := [⟨4, 59, (pt b1 0), c_weirref3_Port.val a0⟩, ⟨2, 59, (pt b1 0), c_weirref3_Port.val a0⟩, ⟨0, 59, (pt b1 0), c_weirref3_Port.val a0⟩]) (by kernel_rfl) (by kernel_rfl) Ty59 (by kernel_rfl) rfl (At.whole _) (by kernel_rfl) rfl ?_
  refine OJ.kld (d := 9) (T := 59) (y := .tmp 1) (cd := c_weirref3_Port) (j := 1) (b := b1) (o := 0) a0 (pend2 := [⟨6, 59, (pt b1 0), c_weirref3_Port.val a0⟩, ⟨4, 59, (pt b1 0), c_weirref3_Port.val a0⟩, ⟨2, 59, (pt b1 0), c_weirref3_Port.val a0⟩, ⟨0, 59, (pt b1 0), c_weirref3_Port.val a0⟩]) (by kernel_rfl) (by kernel_rfl) Ty59 (by kernel_rfl) rfl (At.whole _) (by kernel_rfl) rfl ?_
  refine OJ.kld (d := 11) (T := 59) (y := .tmp 1) (cd := c_weirref3_Port) (j := 1) (b := b1) (o := 0) a0 (pend2 := [⟨8, 59, (pt b1 0), c_weirref3_Port.val a0⟩, ⟨6, 59, (pt b1 0), c_weirref3_Port.val a0⟩, ⟨4, 59, (pt b1 0), c_weirref3_Port.val a0⟩, ⟨2, 59, (pt b1 0), c_weirref3_Port.val a0⟩, ⟨0, 59, (pt b1 0), c_weirref3_Port.val a0⟩]) (by kernel_rfl) (by kernel_rfl) Ty59 (by kernel_rfl) rfl (At.whole _) (by kernel_rfl) rfl ?_
  refine OJ.call (d := 4) (g := 63) (ats := #[59, 3]) (args := [.tmp 3, .const (.int .i64 1)]) (vals := [c_weirref3_Port.val a0, .int .i64 1]) (owed := [⟨8, 59, (pt b1 0), c_weirref3_Port.val a0⟩, ⟨6, 59, (pt b1 0), c_weirref3_Port.val a0⟩, ⟨4, 59, (pt b1 0), c_weirref3_Port.val a0⟩, ⟨2, 59, (pt b1 0), c_weirref3_Port.val a0⟩]) (by kernel_rfl) F63 (by kernel_rfl) (weirref3_count_ok a0 1) (by kernel_rfl) (by kernel_rfl) (by kernel_rfl) (fun r3 => ?_)
  refine OW.known (j := 1) (q := a0) Ty59 rfl (At.whole _) ?_
  refine OW.known (j := 1) (q := a0) Ty59 rfl (At.whole _) ?_
  refine OW.known (j := 1) (q := a0) Ty59 rfl (At.whole _) ?_
  refine OW.known (j := 1) (q := a0) Ty59 rfl (At.whole _) ?_
  refine OW.nil ?_
  refine OJ.call (d := 6) (g := 63) (ats := #[59, 3]) (args := [.tmp 5, .const (.int .i64 2)]) (vals := [c_weirref3_Port.val a0, .int .i64 2]) (owed := [⟨8, 59, (pt b1 0), c_weirref3_Port.val a0⟩, ⟨6, 59, (pt b1 0), c_weirref3_Port.val a0⟩, ⟨4, 59, (pt b1 0), c_weirref3_Port.val a0⟩]) (by kernel_rfl) F63 (by kernel_rfl) (weirref3_count_ok a0 2) (by kernel_rfl) (by kernel_rfl) (by kernel_rfl) (fun r4 => ?_)
  refine OW.known (j := 1) (q := a0) Ty59 rfl (At.whole _) ?_
  refine OW.known (j := 1) (q := a0) Ty59 rfl (At.whole _) ?_
  refine OW.known (j := 1) (q := a0) Ty59 rfl (At.whole _) ?_
  refine OW.nil ?_
  refine OJ.call (d := 8) (g := 63) (ats := #[59, 3]) (args := [.tmp 7, .const (.int .i64 3)]) (vals := [c_weirref3_Port.val a0, .int .i64 3]) (owed := [⟨8, 59, (pt b1 0), c_weirref3_Port.val a0⟩, ⟨6, 59, (pt b1 0), c_weirref3_Port.val a0⟩]) (by kernel_rfl) F63 (by kernel_rfl) (weirref3_count_ok a0 3) (by kernel_rfl) (by kernel_rfl) (by kernel_rfl) (fun r5 => ?_)
  refine OW.known (j := 1) (q := a0) Ty59 rfl (At.whole _) ?_
  refine OW.known (j := 1) (q := a0) Ty59 rfl (At.whole _) ?_
  refine OW.nil ?_
  refine OJ.call (d := 10) (g := 63) (ats := #[59, 3]) (args := [.tmp 9, .const (.int .i64 4)]) (vals := [c_weirref3_Port.val a0, .int .i64 4]) (owed := [⟨8, 59, (pt b1 0), c_weirref3_Port.val a0⟩]) (by kernel_rfl) F63 (by kernel_rfl) (weirref3_count_ok a0 4) (by kernel_rfl) (by kernel_rfl) (by kernel_rfl) (fun r6 => ?_)
  refine OW.known (j := 1) (q := a0) Ty59 rfl (At.whole _) ?_
  refine OW.nil ?_
  refine OJ.call (d := 12) (g := 63) (ats := #[59, 3]) (args := [.tmp 11, .const (.int .i64 5)]) (vals := [c_weirref3_Port.val a0, .int .i64 5]) (owed := []) (by kernel_rfl) F63 (by kernel_rfl) (weirref3_count_ok a0 5) (by kernel_rfl) (by kernel_rfl) (by kernel_rfl) (fun r7 => ?_)
  refine OW.nil ?_
  refine OJ.build (d := 13) (T := 52) (parts := [(0, .tmp 4), (1, .tmp 6), (2, .tmp 8), (3, .tmp 10), (4, .tmp 12)]) (ps := [(0, (cI .i64).val r3), (1, (cI .i64).val r4), (2, (cI .i64).val r5), (3, (cI .i64).val r6), (4, (cI .i64).val r7)]) (cd := c_api_RingStat) (z0 := z_api_RingStat) (⟨r3, r4, r5, r6, r7⟩ : api_RingStat) (by kernel_rfl) (by kernel_rfl) Ty52 rfl (by kernel_rfl) (Filled.cons (cd := (cI .i64)) (q := r3) (o := 0) (by kernel_rfl) (Up_api_RingStat_Free z_api_RingStat r3) (Filled.cons (cd := (cI .i64)) (q := r4) (o := 1) (by kernel_rfl) (Up_api_RingStat_Posted (⟨r3, z_api_RingStat.Posted, z_api_RingStat.Filled, z_api_RingStat.Held, z_api_RingStat.Queued⟩ : api_RingStat) r4) (Filled.cons (cd := (cI .i64)) (q := r5) (o := 2) (by kernel_rfl) (Up_api_RingStat_Filled (⟨r3, r4, z_api_RingStat.Filled, z_api_RingStat.Held, z_api_RingStat.Queued⟩ : api_RingStat) r5) (Filled.cons (cd := (cI .i64)) (q := r6) (o := 3) (by kernel_rfl) (Up_api_RingStat_Held (⟨r3, r4, r5, z_api_RingStat.Held, z_api_RingStat.Queued⟩ : api_RingStat) r6) (Filled.cons (cd := (cI .i64)) (q := r7) (o := 4) (by kernel_rfl) (Up_api_RingStat_Queued (⟨r3, r4, r5, r6, z_api_RingStat.Queued⟩ : api_RingStat) r7) Filled.nil))))) (by kernel_rfl) (by kernel_rfl) (by kernel_rfl) ?_
  refine OJ.kst (T := 52) (y := .tmp 2) (z := .tmp 13) (cd := c_api_RingStat) (u := (⟨r3, r4, r5, r6, r7⟩ : api_RingStat)) (j := 0) (b := b2) (o := 0) (c_api_RingStat.enc (⟨r3, r4, r5, r6, r7⟩ : api_RingStat)) (h2 := [(b2, c_api_RingStat.enc (⟨r3, r4, r5, r6, r7⟩ : api_RingStat)), (b1, c_weirref3_Port.enc a0)]) (owed := []) (by kernel_rfl) (by kernel_rfl) (by kernel_rfl) Ty52 rfl (Upd.whole ((Cod.len _ _).trans (Cod.len _ _).symm)) (by kernel_rfl) (by kernel_rfl) rfl ?_
  refine OW.nil ?_
  refine OJ.nil ?_
  exact SJ.ret (by kernel_rfl) rfl (Res.run (ys := [c_api_RingStat.val (⟨r3, r4, r5, r6, r7⟩ : api_RingStat)]) (.cell (j := 0) (b := b2) (cd := c_api_RingStat) (q := (⟨r3, r4, r5, r6, r7⟩ : api_RingStat)) (by kernel_rfl) rfl Ty52 (At.whole _) .nil) rfl)

/-! ### weir/weirlaw3.told: function 31 -/
noncomputable def weirlaw3_told.B : Code := (Try.f31.body).getD .skip
noncomputable def weirlaw3_told.cx : Fx := ⟨Try.prog, 31, Try.f31⟩
noncomputable def weirlaw3_told.out (r_ : Bool) : Value := .bool r_
noncomputable def weirlaw3_told.F0 (r_ : Bool) : Reach := .ret (weirlaw3_told.out r_)
noncomputable def weirlaw3_told.F1 (r2 : Sl) (r3 : Sl) : (LS Int Bool) → Reach := loopF [.inLoop (c1 (c1 (c2 (c1 (c2 (c2 (c2 (c2 weirlaw3_told.B)))))))), .inBlock 0, .code (c2 (c2 (c2 (c2 (c2 weirlaw3_told.B)))))] (fun s_ : Int => [(3, Sl.v r2), (4, Sl.v r3), (5, .int .i64 s_)]) (fun s_ : Int => []) weirlaw3_told.F0
noncomputable def weirlaw3_told.L1 (r2 : Sl) (r3 : Sl) (s7 : Int) : M (LS Int Bool) :=
  if s7 < (r2.len : Int) then
    draw >>= fun _ =>
    idx r2.a r2.len s7 1 >>= fun p15 =>
    ld (cI .i64) p15 >>= fun x16 =>
    idx r3.a r3.len s7 1 >>= fun p17 =>
    ld (cI .i64) p17 >>= fun x18 =>
    if x16 ≠ x18 then
      pure (LS.done false)
    else
      idx r2.a r2.len s7 1 >>= fun p19 =>
      st (cI .i64) p19 9 >>= fun _ =>
      pure (LS.next (IntKind.wrap .i64 (s7 + 1)))
  else
    pure (LS.done true)
theorem weirlaw3_told.L1_ok (r2 : Sl) (r3 : Sl) (s7 : Int) :
    SJ weirlaw3_told.cx [.code (c1 (c1 (c2 (c1 (c2 (c2 (c2 (c2 weirlaw3_told.B)))))))), .inLoop (c1 (c1 (c2 (c1 (c2 (c2 (c2 (c2 weirlaw3_told.B)))))))), .inBlock 0, .code (c2 (c2 (c2 (c2 (c2 weirlaw3_told.B)))))] [(3, Sl.v r2), (4, Sl.v r3), (5, .int .i64 s7)] [] (weirlaw3_told.L1 r2 r3 s7) (weirlaw3_told.F1 r2 r3) := by
  unfold weirlaw3_told.L1
  refine SJ.seq (by kernel_rfl) ?_
  refine SJ.seq (by kernel_rfl) ?_
  refine SJ.region (id := 6) (by kernel_rfl) [0, 1, 2, 3] (by kernel_rfl) ?_
  refine OJ.run [0, 1, 2, 3] [] [3, 4, 5, 29] (m2 := [(3, Sl.v r2), (4, Sl.v r3), (5, .int .i64 s7), (29, .bool (decide (s7 < (r2.len : Int))))]) (by kernel_rfl) (by kernel_rfl) ?_
  refine OJ.nil ?_
  refine SJ.cond (t := (.tmp 29)) (b := decide (s7 < (r2.len : Int))) (by kernel_rfl) (by kernel_rfl) decide_eq_true_iff (fun hc21 => ?_) (fun hc21 => ?_)
  · refine SJ.skip (by kernel_rfl) ?_
    refine SJ.seq (by kernel_rfl) ?_
    refine SJ.block (id := 1) (by kernel_rfl) ?_
    refine SJ.seq (by kernel_rfl) ?_
    refine SJ.seq (by kernel_rfl) ?_
    refine SJ.draw (id := 8) (kd := [0, 0, 0, 1, 0, 0, 0, 1, 0]) (bef := [0, 0, 3, 7, 0, 0, 48, 112, 255]) (ord := [0, 1, 2, 3, 4, 5, 6, 7, 8]) (by kernel_rfl) mixed (by kernel_rfl) ?_
    refine OJ.run [0, 1] [2, 3, 4, 5, 6, 7, 8] [3, 4, 5, 32, 33] (m2 := [(3, Sl.v r2), (4, Sl.v r3), (5, .int .i64 s7), (32, Sl.v r2), (33, .int .i64 s7)]) (by kernel_rfl) (by kernel_rfl) ?_
    refine OJ.idxS (d := 34) (T := 67) (y := .tmp 32) (j := .tmp 33) (E := 3) (cap := r2.cap) (k := .i64) (by kernel_rfl) (by kernel_rfl) (by kernel_rfl) (by kernel_rfl) (by kernel_rfl) (by kernel_rfl) (by kernel_rfl) (by kernel_rfl) (fun p15 => ?_)
    refine OJ.ld (d := 35) (T := 3) (y := .tmp 34) (pend2 := fun x16 => [⟨3, 3, p15, (cI .i64).val x16⟩]) (by kernel_rfl) (by kernel_rfl) Ty3 (by kernel_rfl) (by kernel_rfl) (fun _ => rfl) (fun x16 => ?_)
    refine OJ.run [4, 5] [6, 7, 8] [3, 4, 5, 35, 36, 37] (m2 := [(3, Sl.v r2), (4, Sl.v r3), (5, .int .i64 s7), (35, .int .i64 x16), (36, Sl.v r3), (37, .int .i64 s7)]) (by kernel_rfl) (by kernel_rfl) ?_
    refine OJ.idxS (d := 38) (T := 67) (y := .tmp 36) (j := .tmp 37) (E := 3) (cap := r3.cap) (k := .i64) (by kernel_rfl) (by kernel_rfl) (by kernel_rfl) (by kernel_rfl) (by kernel_rfl) (by kernel_rfl) (by kernel_rfl) (by kernel_rfl) (fun p17 => ?_)
    refine OJ.ld (d := 39) (T := 3) (y := .tmp 38) (pend2 := fun x18 => [⟨7, 3, p17, (cI .i64).val x18⟩, ⟨3, 3, p15, (cI .i64).val x16⟩]) (by kernel_rfl) (by kernel_rfl) Ty3 (by kernel_rfl) (by kernel_rfl) (fun _ => rfl) (fun x18 => ?_)
    refine OJ.run [8] [] [3, 4, 5, 40] (m2 := [(3, Sl.v r2), (4, Sl.v r3), (5, .int .i64 s7), (40, .bool (x16 != x18))]) (by kernel_rfl) (by kernel_rfl) ?_
    refine OJ.nil ?_
    refine SJ.cond (t := (.tmp 40)) (b := (x16 != x18)) (by kernel_rfl) (by kernel_rfl) bne_iff_ne (fun hc20 => ?_) (fun hc20 => ?_)
    · refine SJ.seq (by kernel_rfl) ?_
      refine SJ.region (id := 9) (by kernel_rfl) [0] (by kernel_rfl) ?_
      refine OJ.run [0] [] [2] (m2 := [(2, .bool false)]) (by kernel_rfl) (by kernel_rfl) ?_
      refine OJ.nil ?_
      exact SJ.ret (by kernel_rfl) rfl (Res.run (ys := [.bool false]) (.tmp (by kernel_rfl) .nil) rfl)
    · refine SJ.skip (by kernel_rfl) ?_
      refine SJ.region (id := 10) (by kernel_rfl) [0, 1, 2, 3] (by kernel_rfl) ?_
      refine OJ.run [0, 1] [2, 3] [3, 4, 5, 41, 42] (m2 := [(3, Sl.v r2), (4, Sl.v r3), (5, .int .i64 s7), (41, Sl.v r2), (42, .int .i64 s7)]) (by kernel_rfl) (by kernel_rfl) ?_
      refine OJ.idxS (d := 43) (T := 67) (y := .tmp 41) (j := .tmp 42) (E := 3) (cap := r2.cap) (k := .i64) (by kernel_rfl) (by kernel_rfl) (by kernel_rfl) (by kernel_rfl) (by kernel_rfl) (by kernel_rfl) (by kernel_rfl) (by kernel_rfl) (fun p19 => ?_)
      refine OJ.st (T := 3) (y := .tmp 43) (z := .const (.int .i64 9)) (owed := []) (by kernel_rfl) (by kernel_rfl) (by kernel_rfl) Ty3 (by kernel_rfl) (by kernel_rfl) ?_
      refine OW.nil ?_
      refine OJ.nil ?_
      refine SJ.inBlock ?_
      refine SJ.region (id := 7) (by kernel_rfl) [0, 1, 2] (by kernel_rfl) ?_
      refine OJ.run [0, 1, 2] [] [3, 4, 5] (m2 := [(3, Sl.v r2), (4, Sl.v r3), (5, .int .i64 (IntKind.wrap .i64 (s7 + 1)))]) (by kernel_rfl) (by kernel_rfl) ?_
      refine OJ.nil ?_
      exact SJ.at_ [3, 4, 5] rfl (by kernel_rfl)
  · refine SJ.exit (id := 0) (by kernel_rfl) (by rfl) ?_
    refine SJ.seq (by kernel_rfl) ?_
    refine SJ.region (id := 11) (by kernel_rfl) [0] (by kernel_rfl) ?_
    refine OJ.run [0] [] [2] (m2 := [(2, .bool true)]) (by kernel_rfl) (by kernel_rfl) ?_
    refine OJ.nil ?_
    exact SJ.ret (by kernel_rfl) rfl (Res.run (ys := [.bool true]) (.tmp (by kernel_rfl) .nil) rfl)
noncomputable def weirlaw3_told (a0 : weirlaw3_Side) : M Bool :=
  slot 62 >>= fun b1 =>
  ring_Port_Places a0.P >>= fun r2 =>
  weirref3_Places a0.R >>= fun r3 =>
  draw >>= fun _ =>
  (if (r2.len : Int) ≠ (r3.len : Int) then
      pure true
    else
      ring_Port_Stat a0.P >>= fun r4 =>
      weirref3_Stat a0.R >>= fun r5 =>
      pure (!eqv r4 r5)) >>= fun y6 =>
  if y6 = true then
    pure false
  else
    loopM (fun s_ : Int => weirlaw3_told.L1 r2 r3 s_) 0
theorem weirlaw3_told_ok (a0 : weirlaw3_Side) : Ref Try.prog 31 [c_weirlaw3_Side.val a0] (weirlaw3_told a0) weirlaw3_told.out := by
  refine Ref.of (cd := weirlaw3_told.B) Try.func31 (by kernel_rfl) (by kernel_rfl) ?_
  show SJ weirlaw3_told.cx [.code weirlaw3_told.B] [(0, c_weirlaw3_Side.val a0)] [] (weirlaw3_told a0) weirlaw3_told.F0
  unfold weirlaw3_told
  refine SJ.seq (by kernel_rfl) ?_
  refine SJ.region (id := 0) (by kernel_rfl) [0, 1] (by kernel_rfl) ?_
  refine OJ.slotOf (d := 1) (op := (.box 62 (.tmp 0))) (cd := c_weirlaw3_Side) (u := a0) (owed := []) (by kernel_rfl) (box_run (by kernel_rfl)) (by kernel_rfl) (by kernel_rfl) (by kernel_rfl) (fun b1 => ?_)
  refine OW.nil ?_
  refine OJ.run [1] [] [1] (m2 := [(1, .pointer (some (pt b1 0)))]) (by kernel_rfl) (by kernel_rfl) ?_
  refine OJ.nil ?_
  refine SJ.seq (by kernel_rfl) ?_
  refine SJ.region (id := 1) (by kernel_rfl) [0, 1, 2, 3] (by kernel_rfl) ?_
  refine OJ.run [0] [1, 2, 3] [1, 6] (m2 := [(1, .pointer (some (pt b1 0))), (6, .pointer (some (pt b1 0)))]) (by kernel_rfl) (by kernel_rfl) ?_
  refine OJ.kld (d := 7) (T := 23) (y := .tmp 6) (cd := cP) (j := 0) (b := b1) (o := 0) a0.P (pend2 := []) (by kernel_rfl) (by kernel_rfl) Ty23 (by kernel_rfl) rfl (At_weirlaw3_Side_P a0) (by kernel_rfl) rfl ?_
  refine OJ.call (d := 8) (g := 32) (ats := #[23]) (args := [.tmp 7]) (vals := [.pointer a0.P]) (owed := []) (by kernel_rfl) F32 (by kernel_rfl) (ring_Port_Places_ok a0.P) (by kernel_rfl) (by kernel_rfl) (by kernel_rfl) (fun r2 => ?_)
  refine OW.nil ?_
  refine OJ.run [3] [] [1, 3] (m2 := [(1, .pointer (some (pt b1 0))), (3, Sl.v r2)]) (by kernel_rfl) (by kernel_rfl) ?_
  refine OJ.nil ?_
  refine SJ.seq (by kernel_rfl) ?_
  refine SJ.region (id := 2) (by kernel_rfl) [0, 1, 2, 3] (by kernel_rfl) ?_
  refine OJ.run [0] [1, 2, 3] [1, 3, 9] (m2 := [(1, .pointer (some (pt b1 0))), (3, Sl.v r2), (9, .pointer (some (pt b1 1)))]) (by kernel_rfl) (by kernel_rfl) ?_
  refine OJ.kld (d := 10) (T := 59) (y := .tmp 9) (cd := c_weirref3_Port) (j := 0) (b := b1) (o := 1) a0.R (pend2 := []) (by kernel_rfl) (by kernel_rfl) Ty59 (by kernel_rfl) rfl (At_weirlaw3_Side_R a0) (by kernel_rfl) rfl ?_
  refine OJ.call (d := 11) (g := 52) (ats := #[59]) (args := [.tmp 10]) (vals := [c_weirref3_Port.val a0.R]) (owed := []) (by kernel_rfl) F52 (by kernel_rfl) (weirref3_Places_ok a0.R) (by kernel_rfl) (by kernel_rfl) (by kernel_rfl) (fun r3 => ?_)
  refine OW.nil ?_
  refine OJ.run [3] [] [1, 3, 4] (m2 := [(1, .pointer (some (pt b1 0))), (3, Sl.v r2), (4, Sl.v r3)]) (by kernel_rfl) (by kernel_rfl) ?_
  refine OJ.nil ?_
  refine SJ.seq (by kernel_rfl) ?_
  refine SJ.seq (by kernel_rfl) ?_
  refine SJ.draw (id := 3) (kd := [0, 0, 0, 0, 0, 0, 0, 1, 2, 0, 1, 2, 0, 0]) (bef := [0, 1, 0, 4, 15, 31, 63, 127, 255, 63, 575, 2047, 4095, 8191]) (ord := [0, 1, 2, 3, 4, 5, 6, 7, 9, 10, 8, 11, 12, 13]) (by kernel_rfl) mixed (by kernel_rfl) ?_
  refine OJ.run [0, 1, 2, 3, 4, 5] [6, 7, 9, 10, 8, 11, 12, 13] [1, 3, 4, 17] (m2 := [(1, .pointer (some (pt b1 0))), (3, Sl.v r2), (4, Sl.v r3), (17, .bool ((r2.len : Int) != (r3.len : Int)))]) (by kernel_rfl) (by kernel_rfl) ?_
  refine OJ.join (b := ((r2.len : Int) != (r3.len : Int))) [6, 7, 9, 10, 8, 11, 12, 13] [] [3, 4, 25] (fun y6 => [(3, Sl.v r2), (4, Sl.v r3), (25, .bool y6)]) [⟨10, 59, (pt b1 1), c_weirref3_Port.val a0.R⟩, ⟨7, 23, (pt b1 0), cP.val a0.P⟩] [] (by kernel_rfl) (t := 17) (by kernel_rfl) bne_iff_ne (fun hp_ => ?_) (fun hp_ => ?_) (by kernel_rfl) (fun _ _ _ _ _ _ h_ => h_) (fun y6 => ?_)
  · refine OJ.run [6, 7, 9, 10, 8, 11, 12, 13] [] [3, 4, 25] (m2 := [(3, Sl.v r2), (4, Sl.v r3), (25, .bool true)]) (by kernel_rfl) (by kernel_rfl) ?_
    exact OJ.nil ⟨(Cov.mem Cov.nil), rfl, _, rfl, by kernel_rfl⟩
  · refine OJ.run [6] [7, 9, 10, 8, 11, 12, 13] [1, 3, 4, 17, 18] (m2 := [(1, .pointer (some (pt b1 0))), (3, Sl.v r2), (4, Sl.v r3), (17, .bool false), (18, .pointer (some (pt b1 0)))]) (by kernel_rfl) (by kernel_rfl) ?_
    refine OJ.kld (d := 19) (T := 23) (y := .tmp 18) (cd := cP) (j := 0) (b := b1) (o := 0) a0.P (pend2 := [⟨7, 23, (pt b1 0), cP.val a0.P⟩]) (by kernel_rfl) (by kernel_rfl) Ty23 (by kernel_rfl) rfl (At_weirlaw3_Side_P a0) (by kernel_rfl) rfl ?_
    refine OJ.run [9] [10, 8, 11, 12, 13] [3, 4, 17, 19, 21] (m2 := [(3, Sl.v r2), (4, Sl.v r3), (17, .bool false), (19, .pointer a0.P), (21, .pointer (some (pt b1 1)))]) (by kernel_rfl) (by kernel_rfl) ?_
    refine OJ.kld (d := 22) (T := 59) (y := .tmp 21) (cd := c_weirref3_Port) (j := 0) (b := b1) (o := 1) a0.R (pend2 := [⟨10, 59, (pt b1 1), c_weirref3_Port.val a0.R⟩, ⟨7, 23, (pt b1 0), cP.val a0.P⟩]) (by kernel_rfl) (by kernel_rfl) Ty59 (by kernel_rfl) rfl (At_weirlaw3_Side_R a0) (by kernel_rfl) rfl ?_
    refine OJ.call (d := 20) (g := 27) (ats := #[23]) (args := [.tmp 19]) (vals := [.pointer a0.P]) (owed := [⟨10, 59, (pt b1 1), c_weirref3_Port.val a0.R⟩]) (by kernel_rfl) F27 (by kernel_rfl) (ring_Port_Stat_ok a0.P) (by kernel_rfl) (by kernel_rfl) (by kernel_rfl) (fun r4 => ?_)
    refine OW.known (j := 0) (q := a0.R) Ty59 rfl (At_weirlaw3_Side_R a0) ?_
    refine OW.nil ?_
    refine OJ.call (d := 23) (g := 53) (ats := #[59]) (args := [.tmp 22]) (vals := [c_weirref3_Port.val a0.R]) (owed := []) (by kernel_rfl) F53 (by kernel_rfl) (weirref3_Stat_ok a0.R) (by kernel_rfl) (by kernel_rfl) (by kernel_rfl) (fun r5 => ?_)
    refine OW.nil ?_
    refine OJ.neq (d := 24) (T := 52) (yT := 52) (y := .tmp 20) (z := .tmp 23) (cd := c_api_RingStat) (p := r4) (q := r5) (by kernel_rfl) (by kernel_rfl) (by kernel_rfl) rfl Eq52 (by kernel_rfl) (by kernel_rfl) (by kernel_rfl) (by kernel_rfl) (by kernel_rfl) ?_
    refine OJ.run [13] [] [3, 4, 25] (m2 := [(3, Sl.v r2), (4, Sl.v r3), (25, .bool (!eqv r4 r5))]) (by kernel_rfl) (by kernel_rfl) ?_
    exact OJ.nil ⟨(Cov.mem (Cov.keep (List.mem_of_getElem? (i := 0) rfl) (Cov.keep (List.mem_of_getElem? (i := 1) rfl) Cov.nil))), rfl, _, rfl, by kernel_rfl⟩
  · refine OJ.nil ?_
    refine SJ.cond (t := (.tmp 25)) (b := y6) (by kernel_rfl) (by kernel_rfl) Iff.rfl (fun hc22 => ?_) (fun hc22 => ?_)
    · refine SJ.seq (by kernel_rfl) ?_
      refine SJ.region (id := 4) (by kernel_rfl) [0] (by kernel_rfl) ?_
      refine OJ.run [0] [] [2] (m2 := [(2, .bool false)]) (by kernel_rfl) (by kernel_rfl) ?_
      refine OJ.nil ?_
      exact SJ.ret (by kernel_rfl) rfl (Res.run (ys := [.bool false]) (.tmp (by kernel_rfl) .nil) rfl)
    · refine SJ.skip (by kernel_rfl) ?_
      refine SJ.seq (by kernel_rfl) ?_
      refine SJ.seq (by kernel_rfl) ?_
      refine SJ.region (id := 5) (by kernel_rfl) [0] (by kernel_rfl) ?_
      refine OJ.run [0] [] [3, 4, 5] (m2 := [(3, Sl.v r2), (4, Sl.v r3), (5, .int .i64 0)]) (by kernel_rfl) (by kernel_rfl) ?_
      refine OJ.nil ?_
      refine SJ.block (id := 0) (by kernel_rfl) ?_
      refine SJ.forget (List.Sublist.cons _ List.Sublist.slnil) ?_
      exact SJ.loop (fun s_ : Int => [(3, Sl.v r2), (4, Sl.v r3), (5, .int .i64 s_)]) (fun s_ : Int => []) [3, 4, 5] (by kernel_rfl) (by kernel_rfl) rfl (fun _ _ => rfl) (fun s_ => weirlaw3_told.L1_ok r2 r3 s_)

/-! ### weir/weirlaw3.one: function 74 -/
noncomputable def weirlaw3_one.B : Code := (Try.f74.body).getD .skip
noncomputable def weirlaw3_one.cx : Fx := ⟨Try.prog, 74, Try.f74⟩
noncomputable def weirlaw3_one.out (r_ : Int) : Value := .int .i64 r_
noncomputable def weirlaw3_one.F0 (r_ : Int) : Reach := .ret (weirlaw3_one.out r_)
noncomputable def weirlaw3_one (a0 : weirlaw3_Side) (a1 : Int) : M Int :=
  slot 62 >>= fun b1 =>
  chk ((a0.W.len : Int) ≠ 0) >>= fun _ =>
  if (Int.tmod a1 (a0.W.len : Int)) < 0 then
    pure (IntKind.wrap .i64 ((Int.tmod a1 (a0.W.len : Int)) + (a0.W.len : Int)))
  else
    pure (Int.tmod a1 (a0.W.len : Int))
theorem weirlaw3_one_ok (a0 : weirlaw3_Side) (a1 : Int) : Ref Try.prog 74 [c_weirlaw3_Side.val a0, .int .i64 a1] (weirlaw3_one a0 a1) weirlaw3_one.out := by
  refine Ref.of (cd := weirlaw3_one.B) Try.func74 (by kernel_rfl) (by kernel_rfl) ?_
  show SJ weirlaw3_one.cx [.code weirlaw3_one.B] [(0, c_weirlaw3_Side.val a0), (1, .int .i64 a1)] [] (weirlaw3_one a0 a1) weirlaw3_one.F0
  unfold weirlaw3_one
  refine SJ.seq (by kernel_rfl) ?_
  refine SJ.region (id := 0) (by kernel_rfl) [0, 1] (by kernel_rfl) ?_
  refine OJ.slotOf (d := 2) (op := (.box 62 (.tmp 0))) (cd := c_weirlaw3_Side) (u := a0) (owed := []) (by kernel_rfl) (box_run (by kernel_rfl)) (by kernel_rfl) (by kernel_rfl) (by kernel_rfl) (fun b1 => ?_)
  refine OW.nil ?_
  refine OJ.run [1] [] [1, 2] (m2 := [(1, .int .i64 a1), (2, .pointer (some (pt b1 0)))]) (by kernel_rfl) (by kernel_rfl) ?_
  refine OJ.nil ?_
  refine SJ.seq (by kernel_rfl) ?_
  refine SJ.region (id := 1) (by kernel_rfl) [0, 1, 2, 3, 4, 5] (by kernel_rfl) ?_
  refine OJ.run [0, 1] [2, 3, 4, 5] [2, 6, 7] (m2 := [(2, .pointer (some (pt b1 0))), (6, .int .i64 a1), (7, .pointer (some (pt b1 6)))]) (by kernel_rfl) (by kernel_rfl) ?_
  refine OJ.kld (d := 8) (T := 60) (y := .tmp 7) (cd := cL) (j := 0) (b := b1) (o := 6) a0.W (pend2 := []) (by kernel_rfl) (by kernel_rfl) Ty60 (by kernel_rfl) rfl (At_weirlaw3_Side_W a0) (by kernel_rfl) rfl ?_
  refine OJ.run [3] [4, 5] [2, 6, 9] (m2 := [(2, .pointer (some (pt b1 0))), (6, .int .i64 a1), (9, .int .i64 (a0.W.len : Int))]) (by kernel_rfl) (by kernel_rfl) ?_
  refine OJ.rem (d := 10) (T := 3) (yT := 3) (y := .tmp 6) (z := .tmp 9) (p := a1) (q := (a0.W.len : Int)) (k := .i64) (by kernel_rfl) (by kernel_rfl) (by kernel_rfl) (by kernel_rfl) (by kernel_rfl) (by kernel_rfl) (fun hq3 => ?_)
  refine OJ.run [5] [] [2, 5] (m2 := [(2, .pointer (some (pt b1 0))), (5, .int .i64 (Int.tmod a1 (a0.W.len : Int)))]) (by kernel_rfl) (by kernel_rfl) ?_
  refine OJ.nil ?_
  refine SJ.seq (by kernel_rfl) ?_
  refine SJ.seq (by kernel_rfl) ?_
  refine SJ.region (id := 2) (by kernel_rfl) [0, 1] (by kernel_rfl) ?_
  refine OJ.run [0, 1] [] [2, 5, 12] (m2 := [(2, .pointer (some (pt b1 0))), (5, .int .i64 (Int.tmod a1 (a0.W.len : Int))), (12, .bool (decide ((Int.tmod a1 (a0.W.len : Int)) < 0)))]) (by kernel_rfl) (by kernel_rfl) ?_
  refine OJ.nil ?_
  refine SJ.cond (t := (.tmp 12)) (b := decide ((Int.tmod a1 (a0.W.len : Int)) < 0)) (by kernel_rfl) (by kernel_rfl) decide_eq_true_iff (fun hc2 => ?_) (fun hc2 => ?_)
  · refine SJ.region (id := 3) (by kernel_rfl) [0, 1, 2, 3, 4, 5] (by kernel_rfl) ?_
    refine OJ.run [0, 1] [2, 3, 4, 5] [5, 13, 14] (m2 := [(5, .int .i64 (Int.tmod a1 (a0.W.len : Int))), (13, .int .i64 (Int.tmod a1 (a0.W.len : Int))), (14, .pointer (some (pt b1 6)))]) (by kernel_rfl) (by kernel_rfl) ?_
    refine OJ.kld (d := 15) (T := 60) (y := .tmp 14) (cd := cL) (j := 0) (b := b1) (o := 6) a0.W (pend2 := []) (by kernel_rfl) (by kernel_rfl) Ty60 (by kernel_rfl) rfl (At_weirlaw3_Side_W a0) (by kernel_rfl) rfl ?_
    refine OJ.run [3, 4, 5] [] [5] (m2 := [(5, .int .i64 (IntKind.wrap .i64 ((Int.tmod a1 (a0.W.len : Int)) + (a0.W.len : Int))))]) (by kernel_rfl) (by kernel_rfl) ?_
    refine OJ.nil ?_
    refine SJ.seq (by kernel_rfl) ?_
    refine SJ.region (id := 4) (by kernel_rfl) [0, 1] (by kernel_rfl) ?_
    refine OJ.run [0, 1] [] [4] (m2 := [(4, .int .i64 (IntKind.wrap .i64 ((Int.tmod a1 (a0.W.len : Int)) + (a0.W.len : Int))))]) (by kernel_rfl) (by kernel_rfl) ?_
    refine OJ.nil ?_
    exact SJ.ret (by kernel_rfl) rfl (Res.run (ys := [.int .i64 (IntKind.wrap .i64 ((Int.tmod a1 (a0.W.len : Int)) + (a0.W.len : Int)))]) (.tmp (by kernel_rfl) .nil) rfl)
  · refine SJ.skip (by kernel_rfl) ?_
    refine SJ.seq (by kernel_rfl) ?_
    refine SJ.region (id := 4) (by kernel_rfl) [0, 1] (by kernel_rfl) ?_
    refine OJ.run [0, 1] [] [4] (m2 := [(4, .int .i64 (Int.tmod a1 (a0.W.len : Int)))]) (by kernel_rfl) (by kernel_rfl) ?_
    refine OJ.nil ?_
    exact SJ.ret (by kernel_rfl) rfl (Res.run (ys := [.int .i64 (Int.tmod a1 (a0.W.len : Int))]) (.tmp (by kernel_rfl) .nil) rfl)

/-! ### weir/weirref3.Write: function 75 -/
noncomputable def weirref3_Write.B : Code := (Try.f75.body).getD .skip
noncomputable def weirref3_Write.cx : Fx := ⟨Try.prog, 75, Try.f75⟩
noncomputable def weirref3_Write.out (r_ : weirref3_Port) : Value := c_weirref3_Port.val r_
noncomputable def weirref3_Write.F0 (r_ : weirref3_Port) : Reach := .ret (weirref3_Write.out r_)
noncomputable def weirref3_Write.K1 (a0 : weirref3_Port) (a1 : Int) (a2 : Int) (a3 : Int) (x4 : weirref3_Buf) (j6 : Int) : M weirref3_Port :=
  weirref3_Bytes a0 a1 j6 >>= fun r7 =>
  idx r7.a r7.len a2 1 >>= fun p8 =>
  st (cI .u8) p8 a3 >>= fun _ =>
  weirref3_put a0 a1 (⟨x4.Place, x4.Since, x4.N, r7⟩ : weirref3_Buf) >>= fun r9 =>
  pure r9
theorem weirref3_Write.K1_ok (a0 : weirref3_Port) (a1 : Int) (a2 : Int) (a3 : Int) (b1 : Nat) (b2 : Nat) (x4 : weirref3_Buf) (b5 : Nat) (j6 : Int) :
    SJ weirref3_Write.cx [.code (c2 (c2 (c2 (c2 weirref3_Write.B))))] [(1, .int .i64 a1), (2, .int .i64 a2), (3, .int .u8 a3), (4, .pointer (some (pt b1 0))), (8, .pointer (some (pt b2 0))), (9, .pointer (some (pt b5 0))), (10, .int .i64 j6)] [(b5, c_weirref3_Buf.enc x4), (b2, c_weirref3_Port.enc z_weirref3_Port), (b1, c_weirref3_Port.enc a0)] (weirref3_Write.K1 a0 a1 a2 a3 x4 j6) weirref3_Write.F0 := by
  unfold weirref3_Write.K1
  refine SJ.seq (by kernel_rfl) ?_
  refine SJ.region (id := 5) (by kernel_rfl) [0, 1, 2, 3, 4, 5] (by kernel_rfl) ?_
  refine OJ.kld (d := 25) (T := 59) (y := .tmp 4) (cd := c_weirref3_Port) (j := 2) (b := b1) (o := 0) a0 (pend2 := []) (by kernel_rfl) (by kernel_rfl) Ty59 (by kernel_rfl) rfl (At.whole _) (by kernel_rfl) rfl ?_
  refine OJ.run [1, 2] [3, 4, 5] [1, 2, 3, 4, 8, 9, 25, 26, 27] (m2 := [(1, .int .i64 a1), (2, .int .i64 a2), (3, .int .u8 a3), (4, .pointer (some (pt b1 0))), (8, .pointer (some (pt b2 0))), (9, .pointer (some (pt b5 0))), (25, c_weirref3_Port.val a0), (26, .int .i64 a1), (27, .int .i64 j6)]) (by kernel_rfl) (by kernel_rfl) ?_
  refine OJ.call (d := 28) (g := 76) (ats := #[59, 3, 3]) (args := [.tmp 25, .tmp 26, .tmp 27]) (vals := [c_weirref3_Port.val a0, .int .i64 a1, .int .i64 j6]) (owed := []) (by kernel_rfl) F76 (by kernel_rfl) (weirref3_Bytes_ok a0 a1 j6) (by kernel_rfl) (by kernel_rfl) (by kernel_rfl) (fun r7 => ?_)
  refine OW.nil ?_
  refine OJ.run [4] [5] [1, 2, 3, 4, 8, 9, 28, 29] (m2 := [(1, .int .i64 a1), (2, .int .i64 a2), (3, .int .u8 a3), (4, .pointer (some (pt b1 0))), (8, .pointer (some (pt b2 0))), (9, .pointer (some (pt b5 0))), (28, Sl.v r7), (29, .pointer (some (pt b5 3)))]) (by kernel_rfl) (by kernel_rfl) ?_
  refine OJ.kst (T := 22) (y := .tmp 29) (z := .tmp 28) (cd := cL) (u := r7) (j := 0) (b := b5) (o := 3) (c_weirref3_Buf.enc (⟨x4.Place, x4.Since, x4.N, r7⟩ : weirref3_Buf)) (h2 := [(b5, c_weirref3_Buf.enc (⟨x4.Place, x4.Since, x4.N, r7⟩ : weirref3_Buf)), (b2, c_weirref3_Port.enc z_weirref3_Port), (b1, c_weirref3_Port.enc a0)]) (owed := []) (by kernel_rfl) (by kernel_rfl) (by kernel_rfl) Ty22 rfl (Up_weirref3_Buf_Data x4 r7) (by kernel_rfl) (by kernel_rfl) rfl ?_
  refine OW.nil ?_
  refine OJ.nil ?_
  refine SJ.seq (by kernel_rfl) ?_
  refine SJ.region (id := 6) (by kernel_rfl) [0, 1, 2, 3, 4, 5] (by kernel_rfl) ?_
  refine OJ.run [0] [1, 2, 3, 4, 5] [1, 2, 3, 4, 8, 9, 30] (m2 := [(1, .int .i64 a1), (2, .int .i64 a2), (3, .int .u8 a3), (4, .pointer (some (pt b1 0))), (8, .pointer (some (pt b2 0))), (9, .pointer (some (pt b5 0))), (30, .pointer (some (pt b5 3)))]) (by kernel_rfl) (by kernel_rfl) ?_
  refine OJ.kld (d := 31) (T := 22) (y := .tmp 30) (cd := cL) (j := 0) (b := b5) (o := 3) r7 (pend2 := []) (by kernel_rfl) (by kernel_rfl) Ty22 (by kernel_rfl) rfl (At_weirref3_Buf_Data (⟨x4.Place, x4.Since, x4.N, r7⟩ : weirref3_Buf)) (by kernel_rfl) rfl ?_
  refine OJ.run [2, 3] [4, 5] [1, 4, 8, 9, 31, 32, 33] (m2 := [(1, .int .i64 a1), (4, .pointer (some (pt b1 0))), (8, .pointer (some (pt b2 0))), (9, .pointer (some (pt b5 0))), (31, Sl.v r7), (32, .int .i64 a2), (33, .int .u8 a3)]) (by kernel_rfl) (by kernel_rfl) ?_
  refine OJ.idxS (d := 34) (T := 22) (y := .tmp 31) (j := .tmp 32) (E := 5) (cap := r7.cap) (k := .i64) (by kernel_rfl) (by kernel_rfl) (by kernel_rfl) (by kernel_rfl) (by kernel_rfl) (by kernel_rfl) (by kernel_rfl) (by kernel_rfl) (fun p8 => ?_)
  refine OJ.st (T := 5) (y := .tmp 34) (z := .tmp 33) (owed := []) (by kernel_rfl) (by kernel_rfl) (by kernel_rfl) Ty5 (by kernel_rfl) (by kernel_rfl) ?_
  refine OW.nil ?_
  refine OJ.nil ?_
  refine SJ.seq (by kernel_rfl) ?_
  refine SJ.region (id := 7) (by kernel_rfl) [0, 1, 2, 3, 4] (by kernel_rfl) ?_
  refine OJ.kld (d := 35) (T := 59) (y := .tmp 4) (cd := c_weirref3_Port) (j := 2) (b := b1) (o := 0) a0 (pend2 := []) (by kernel_rfl) (by kernel_rfl) Ty59 (by kernel_rfl) rfl (At.whole _) (by kernel_rfl) rfl ?_
  refine OJ.run [1] [2, 3, 4] [8, 9, 35, 36] (m2 := [(8, .pointer (some (pt b2 0))), (9, .pointer (some (pt b5 0))), (35, c_weirref3_Port.val a0), (36, .int .i64 a1)]) (by kernel_rfl) (by kernel_rfl) ?_
  refine OJ.kld (d := 37) (T := 110) (y := .tmp 9) (cd := c_weirref3_Buf) (j := 0) (b := b5) (o := 0) (⟨x4.Place, x4.Since, x4.N, r7⟩ : weirref3_Buf) (pend2 := []) (by kernel_rfl) (by kernel_rfl) Ty110 (by kernel_rfl) rfl (At.whole _) (by kernel_rfl) rfl ?_
  refine OJ.call (d := 38) (g := 79) (ats := #[59, 3, 110]) (args := [.tmp 35, .tmp 36, .tmp 37]) (vals := [c_weirref3_Port.val a0, .int .i64 a1, c_weirref3_Buf.val (⟨x4.Place, x4.Since, x4.N, r7⟩ : weirref3_Buf)]) (owed := []) (by kernel_rfl) F79 (by kernel_rfl) (weirref3_put_ok a0 a1 (⟨x4.Place, x4.Since, x4.N, r7⟩ : weirref3_Buf)) (by kernel_rfl) (by kernel_rfl) (by kernel_rfl) (fun r9 => ?_)
  refine OW.nil ?_
  refine OJ.kst (T := 59) (y := .tmp 8) (z := .tmp 38) (cd := c_weirref3_Port) (u := r9) (j := 1) (b := b2) (o := 0) (c_weirref3_Port.enc r9) (h2 := [(b5, c_weirref3_Buf.enc (⟨x4.Place, x4.Since, x4.N, r7⟩ : weirref3_Buf)), (b2, c_weirref3_Port.enc r9), (b1, c_weirref3_Port.enc a0)]) (owed := []) (by kernel_rfl) (by kernel_rfl) (by kernel_rfl) Ty59 rfl (Upd.whole ((Cod.len _ _).trans (Cod.len _ _).symm)) (by kernel_rfl) (by kernel_rfl) rfl ?_
  refine OW.nil ?_
  refine OJ.nil ?_
  exact SJ.ret (by kernel_rfl) rfl (Res.run (ys := [c_weirref3_Port.val r9]) (.cell (j := 1) (b := b2) (cd := c_weirref3_Port) (q := r9) (by kernel_rfl) rfl Ty59 (At.whole _) .nil) rfl)
noncomputable def weirref3_Write (a0 : weirref3_Port) (a1 : Int) (a2 : Int) (a3 : Int) : M weirref3_Port :=
  slot 59 >>= fun b1 =>
  slot 59 >>= fun b2 =>
  idx a0.L.a a0.L.len a1 4 >>= fun p3 =>
  ld c_weirref3_Buf p3 >>= fun x4 =>
  slot 110 >>= fun b5 =>
  if (x4.Data.len : Int) < (IntKind.wrap .i64 (a2 + 1)) then
    weirref3_Write.K1 a0 a1 a2 a3 x4 (IntKind.wrap .i64 (a2 + 1))
  else
    weirref3_Write.K1 a0 a1 a2 a3 x4 (x4.Data.len : Int)
theorem weirref3_Write_ok (a0 : weirref3_Port) (a1 : Int) (a2 : Int) (a3 : Int) : Ref Try.prog 75 [c_weirref3_Port.val a0, .int .i64 a1, .int .i64 a2, .int .u8 a3] (weirref3_Write a0 a1 a2 a3) weirref3_Write.out := by
  refine Ref.of (cd := weirref3_Write.B) Try.func75 (by kernel_rfl) (by kernel_rfl) ?_
  show SJ weirref3_Write.cx [.code weirref3_Write.B] [(0, c_weirref3_Port.val a0), (1, .int .i64 a1), (2, .int .i64 a2), (3, .int .u8 a3)] [] (weirref3_Write a0 a1 a2 a3) weirref3_Write.F0
  unfold weirref3_Write
  refine SJ.seq (by kernel_rfl) ?_
  refine SJ.region (id := 0) (by kernel_rfl) [0, 1] (by kernel_rfl) ?_
  refine OJ.slotOf (d := 4) (op := (.box 59 (.tmp 0))) (cd := c_weirref3_Port) (u := a0) (owed := []) (by kernel_rfl) (box_run (by kernel_rfl)) (by kernel_rfl) (by kernel_rfl) (by kernel_rfl) (fun b1 => ?_)
  refine OW.nil ?_
  refine OJ.slotOf (d := 8) (op := (.alloc 59)) (cd := c_weirref3_Port) (u := z_weirref3_Port) (owed := []) (by kernel_rfl) (alloc_run Ty59) (by kernel_rfl) (by kernel_rfl) (by kernel_rfl) (fun b2 => ?_)
  refine OW.nil ?_
  refine OJ.nil ?_
  refine SJ.seq (by kernel_rfl) ?_
  refine SJ.region (id := 1) (by kernel_rfl) [0, 1, 2, 3, 4, 5, 6] (by kernel_rfl) ?_
  refine OJ.run [0] [1, 2, 3, 4, 5, 6] [1, 2, 3, 4, 8, 11] (m2 := [(1, .int .i64 a1), (2, .int .i64 a2), (3, .int .u8 a3), (4, .pointer (some (pt b1 0))), (8, .pointer (some (pt b2 0))), (11, .pointer (some (pt b1 3)))]) (by kernel_rfl) (by kernel_rfl) ?_
  refine OJ.kld (d := 12) (T := 57) (y := .tmp 11) (cd := cL) (j := 1) (b := b1) (o := 3) a0.L (pend2 := []) (by kernel_rfl) (by kernel_rfl) Ty57 (by kernel_rfl) rfl (At_weirref3_Port_L a0) (by kernel_rfl) rfl ?_
  refine OJ.run [2] [3, 4, 5, 6] [1, 2, 3, 4, 8, 12, 13] (m2 := [(1, .int .i64 a1), (2, .int .i64 a2), (3, .int .u8 a3), (4, .pointer (some (pt b1 0))), (8, .pointer (some (pt b2 0))), (12, Sl.v a0.L), (13, .int .i64 a1)]) (by kernel_rfl) (by kernel_rfl) ?_
  refine OJ.idxS (d := 14) (T := 57) (y := .tmp 12) (j := .tmp 13) (E := 110) (cap := a0.L.cap) (k := .i64) (by kernel_rfl) (by kernel_rfl) (by kernel_rfl) (by kernel_rfl) (by kernel_rfl) (by kernel_rfl) (by kernel_rfl) (by kernel_rfl) (fun p3 => ?_)
  refine OJ.ld (d := 15) (T := 110) (y := .tmp 14) (pend2 := fun x4 => []) (by kernel_rfl) (by kernel_rfl) Ty110 (by kernel_rfl) (by kernel_rfl) (fun _ => rfl) (fun x4 => ?_)
  refine OJ.slotOf (d := 9) (op := (.alloc 110)) (cd := c_weirref3_Buf) (u := z_weirref3_Buf) (owed := []) (by kernel_rfl) (alloc_run Ty110) (by kernel_rfl) (by kernel_rfl) (by kernel_rfl) (fun b5 => ?_)
  refine OW.nil ?_
  refine OJ.kst (T := 110) (y := .tmp 9) (z := .tmp 15) (cd := c_weirref3_Buf) (u := x4) (j := 0) (b := b5) (o := 0) (c_weirref3_Buf.enc x4) (h2 := [(b5, c_weirref3_Buf.enc x4), (b2, c_weirref3_Port.enc z_weirref3_Port), (b1, c_weirref3_Port.enc a0)]) (owed := []) (by kernel_rfl) (by kernel_rfl) (by kernel_rfl) Ty110 rfl (Upd.whole ((Cod.len _ _).trans (Cod.len _ _).symm)) (by kernel_rfl) (by kernel_rfl) rfl ?_
  refine OW.nil ?_
  refine OJ.nil ?_
  refine SJ.seq (by kernel_rfl) ?_
  refine SJ.region (id := 2) (by kernel_rfl) [0, 1, 2, 3] (by kernel_rfl) ?_
  refine OJ.run [0] [1, 2, 3] [1, 2, 3, 4, 8, 9, 16] (m2 := [(1, .int .i64 a1), (2, .int .i64 a2), (3, .int .u8 a3), (4, .pointer (some (pt b1 0))), (8, .pointer (some (pt b2 0))), (9, .pointer (some (pt b5 0))), (16, .pointer (some (pt b5 3)))]) (by kernel_rfl) (by kernel_rfl) ?_
  refine OJ.kld (d := 17) (T := 22) (y := .tmp 16) (cd := cL) (j := 0) (b := b5) (o := 3) x4.Data (pend2 := []) (by kernel_rfl) (by kernel_rfl) Ty22 (by kernel_rfl) rfl (At_weirref3_Buf_Data x4) (by kernel_rfl) rfl ?_
  refine OJ.run [2, 3] [] [1, 2, 3, 4, 8, 9, 10] (m2 := [(1, .int .i64 a1), (2, .int .i64 a2), (3, .int .u8 a3), (4, .pointer (some (pt b1 0))), (8, .pointer (some (pt b2 0))), (9, .pointer (some (pt b5 0))), (10, .int .i64 (x4.Data.len : Int))]) (by kernel_rfl) (by kernel_rfl) ?_
  refine OJ.nil ?_
  refine SJ.seq (by kernel_rfl) ?_
  refine SJ.seq (by kernel_rfl) ?_
  refine SJ.region (id := 3) (by kernel_rfl) [0, 1, 2, 3] (by kernel_rfl) ?_
  refine OJ.run [0, 1, 2, 3] [] [1, 2, 3, 4, 8, 9, 10, 22] (m2 := [(1, .int .i64 a1), (2, .int .i64 a2), (3, .int .u8 a3), (4, .pointer (some (pt b1 0))), (8, .pointer (some (pt b2 0))), (9, .pointer (some (pt b5 0))), (10, .int .i64 (x4.Data.len : Int)), (22, .bool (decide ((x4.Data.len : Int) < (IntKind.wrap .i64 (a2 + 1)))))]) (by kernel_rfl) (by kernel_rfl) ?_
  refine OJ.nil ?_
  refine SJ.cond (t := (.tmp 22)) (b := decide ((x4.Data.len : Int) < (IntKind.wrap .i64 (a2 + 1)))) (by kernel_rfl) (by kernel_rfl) decide_eq_true_iff (fun hc10 => ?_) (fun hc10 => ?_)
  · refine SJ.region (id := 4) (by kernel_rfl) [0, 1, 2] (by kernel_rfl) ?_
    refine OJ.run [0, 1, 2] [] [1, 2, 3, 4, 8, 9, 10] (m2 := [(1, .int .i64 a1), (2, .int .i64 a2), (3, .int .u8 a3), (4, .pointer (some (pt b1 0))), (8, .pointer (some (pt b2 0))), (9, .pointer (some (pt b5 0))), (10, .int .i64 (IntKind.wrap .i64 (a2 + 1)))]) (by kernel_rfl) (by kernel_rfl) ?_
    refine OJ.nil ?_
    refine SJ.less [1, 2, 3, 4, 8, 9, 10] (m' := [(1, .int .i64 a1), (2, .int .i64 a2), (3, .int .u8 a3), (4, .pointer (some (pt b1 0))), (8, .pointer (some (pt b2 0))), (9, .pointer (some (pt b5 0))), (10, .int .i64 (IntKind.wrap .i64 (a2 + 1)))]) (by kernel_rfl) ?_
    exact weirref3_Write.K1_ok a0 a1 a2 a3 b1 b2 x4 b5 (IntKind.wrap .i64 (a2 + 1))
  · refine SJ.skip (by kernel_rfl) ?_
    refine SJ.less [1, 2, 3, 4, 8, 9, 10] (m' := [(1, .int .i64 a1), (2, .int .i64 a2), (3, .int .u8 a3), (4, .pointer (some (pt b1 0))), (8, .pointer (some (pt b2 0))), (9, .pointer (some (pt b5 0))), (10, .int .i64 (x4.Data.len : Int))]) (by kernel_rfl) ?_
    exact weirref3_Write.K1_ok a0 a1 a2 a3 b1 b2 x4 b5 (x4.Data.len : Int)

/-! ### weir/weirlaw3.written: function 60 -/
noncomputable def weirlaw3_written.B : Code := (Try.f60.body).getD .skip
noncomputable def weirlaw3_written.cx : Fx := ⟨Try.prog, 60, Try.f60⟩
noncomputable def weirlaw3_written.out (r_ : weirlaw3_Side) : Value := c_weirlaw3_Side.val r_
noncomputable def weirlaw3_written.F0 (r_ : weirlaw3_Side) : Reach := .ret (weirlaw3_written.out r_)
noncomputable def weirlaw3_written.K1 (x6 : weirlaw3_Win) (s9 : weirlaw3_Side) : M weirlaw3_Side :=
  slot 5 >>= fun b25 =>
  appl (cI .u8) 5 1 0 x6.B [77, 78] >>= fun r26 =>
  if (r26.len : Int) > 0 then
    idx r26.a r26.len (IntKind.wrap .i64 ((r26.len : Int) - 1)) 1 >>= fun p28 =>
    st (cI .u8) p28 79 >>= fun _ =>
    pure s9
  else
    pure s9
theorem weirlaw3_written.K1_ok (b1 : Nat) (b3 : Nat) (x6 : weirlaw3_Win) (b7 : Nat) (s9 : weirlaw3_Side) :
    SJ weirlaw3_written.cx [.code (c2 (c2 (c2 (c2 weirlaw3_written.B))))] [(2, .pointer (some (pt b1 0))), (4, .pointer (some (pt b3 0))), (6, .pointer (some (pt b7 0)))] [(b7, c_weirlaw3_Win.enc x6), (b3, c_weirlaw3_Side.enc z_weirlaw3_Side), (b1, c_weirlaw3_Side.enc s9)] (weirlaw3_written.K1 x6 s9) weirlaw3_written.F0 := by
  unfold weirlaw3_written.K1
  refine SJ.seq (by kernel_rfl) ?_
  refine SJ.region (id := 10) (by kernel_rfl) [0, 1, 2, 3, 4] (by kernel_rfl) ?_
  refine OJ.run [0] [1, 2, 3, 4] [2, 4, 60] (m2 := [(2, .pointer (some (pt b1 0))), (4, .pointer (some (pt b3 0))), (60, .pointer (some (pt b7 0)))]) (by kernel_rfl) (by kernel_rfl) ?_
  refine OJ.kld (d := 61) (T := 22) (y := .tmp 60) (cd := cL) (j := 0) (b := b7) (o := 0) x6.B (pend2 := []) (by kernel_rfl) (by kernel_rfl) Ty22 (by kernel_rfl) rfl (At_weirlaw3_Win_B x6) (by kernel_rfl) rfl ?_
  refine OJ.rowSlot (d := 62) (t := 22) (parts := [(0, .const (.int .u8 77)), (1, .const (.int .u8 78))]) (ps := [(0, (cI .u8).val 77), (1, (cI .u8).val 78)]) (cd := (cI .u8)) (⟨[77, 78], rfl⟩ : Vec Int 2) (owed := []) (by kernel_rfl) (by kernel_rfl) (by kernel_rfl) Ty5 (by kernel_rfl) (Filled.cons (cd := (cI .u8)) (q := 77) (o := 0) rfl (Upd.arr (i := 0) (by decide) (by decide)) (Filled.cons (cd := (cI .u8)) (q := 78) (o := 1) rfl (Upd.arr (i := 1) (by decide) (by decide)) Filled.nil)) (by kernel_rfl) (by kernel_rfl) (by kernel_rfl) (fun b25 => ?_)
  refine OW.nil ?_
  refine OJ.appl (d := 63) (t := 22) (u := 22) (so := .tmp 61) (xo := .tmp 62) (j := 0) (b := b25) (l := ((cI .u8).arr 2).enc (⟨[77, 78], rfl⟩ : Vec Int 2)) (n := 2) (k := 2) [77, 78] (owed := []) (by kernel_rfl) (by kernel_rfl) (by kernel_rfl) Ty5 (by kernel_rfl) (by kernel_rfl) (by kernel_rfl) (by rfl) (Cod.arr_enc _ _ _) (by rfl) (by kernel_rfl) (by kernel_rfl) (by kernel_rfl) (fun r26 => ?_)
  refine OW.nil ?_
  refine OJ.run [4] [] [2, 4, 9] (m2 := [(2, .pointer (some (pt b1 0))), (4, .pointer (some (pt b3 0))), (9, Sl.v r26)]) (by kernel_rfl) (by kernel_rfl) ?_
  refine OJ.nil ?_
  refine SJ.seq (by kernel_rfl) ?_
  refine SJ.seq (by kernel_rfl) ?_
  refine SJ.region (id := 11) (by kernel_rfl) [0, 1, 2] (by kernel_rfl) ?_
  refine OJ.run [0, 1, 2] [] [2, 4, 9, 66] (m2 := [(2, .pointer (some (pt b1 0))), (4, .pointer (some (pt b3 0))), (9, Sl.v r26), (66, .bool (decide ((r26.len : Int) > 0)))]) (by kernel_rfl) (by kernel_rfl) ?_
  refine OJ.nil ?_
  refine SJ.cond (t := (.tmp 66)) (b := decide ((r26.len : Int) > 0)) (by kernel_rfl) (by kernel_rfl) decide_eq_true_iff (fun hc29 => ?_) (fun hc29 => ?_)
  · refine SJ.region (id := 12) (by kernel_rfl) [0, 1, 2, 3, 4, 5] (by kernel_rfl) ?_
    refine OJ.run [0, 1, 2, 3] [4, 5] [2, 4, 67, 70] (m2 := [(2, .pointer (some (pt b1 0))), (4, .pointer (some (pt b3 0))), (67, Sl.v r26), (70, .int .i64 (IntKind.wrap .i64 ((r26.len : Int) - 1)))]) (by kernel_rfl) (by kernel_rfl) ?_
    refine OJ.idxS (d := 71) (T := 22) (y := .tmp 67) (j := .tmp 70) (E := 5) (cap := r26.cap) (k := .i64) (by kernel_rfl) (by kernel_rfl) (by kernel_rfl) (by kernel_rfl) (by kernel_rfl) (by kernel_rfl) (by kernel_rfl) (by kernel_rfl) (fun p28 => ?_)
    refine OJ.st (T := 5) (y := .tmp 71) (z := .const (.int .u8 79)) (owed := []) (by kernel_rfl) (by kernel_rfl) (by kernel_rfl) Ty5 (by kernel_rfl) (by kernel_rfl) ?_
    refine OW.nil ?_
    refine OJ.nil ?_
    refine SJ.seq (by kernel_rfl) ?_
    refine SJ.region (id := 13) (by kernel_rfl) [0, 1] (by kernel_rfl) ?_
    refine OJ.kld (d := 72) (T := 62) (y := .tmp 2) (cd := c_weirlaw3_Side) (j := 3) (b := b1) (o := 0) s9 (pend2 := []) (by kernel_rfl) (by kernel_rfl) Ty62 (by kernel_rfl) rfl (At.whole _) (by kernel_rfl) rfl ?_
    refine OJ.kst (T := 62) (y := .tmp 4) (z := .tmp 72) (cd := c_weirlaw3_Side) (u := s9) (j := 2) (b := b3) (o := 0) (c_weirlaw3_Side.enc s9) (h2 := [(b25, ((cI .u8).arr 2).enc (⟨[77, 78], rfl⟩ : Vec Int 2)), (b7, c_weirlaw3_Win.enc x6), (b3, c_weirlaw3_Side.enc s9), (b1, c_weirlaw3_Side.enc s9)]) (owed := []) (by kernel_rfl) (by kernel_rfl) (by kernel_rfl) Ty62 rfl (Upd.whole ((Cod.len _ _).trans (Cod.len _ _).symm)) (by kernel_rfl) (by kernel_rfl) rfl ?_
    refine OW.nil ?_
    refine OJ.nil ?_
    exact SJ.ret (by kernel_rfl) rfl (Res.run (ys := [c_weirlaw3_Side.val s9]) (.cell (j := 2) (b := b3) (cd := c_weirlaw3_Side) (q := s9) (by kernel_rfl) rfl Ty62 (At.whole _) .nil) rfl)
  · refine SJ.skip (by kernel_rfl) ?_
    refine SJ.seq (by kernel_rfl) ?_
    refine SJ.region (id := 13) (by kernel_rfl) [0, 1] (by kernel_rfl) ?_
    refine OJ.kld (d := 72) (T := 62) (y := .tmp 2) (cd := c_weirlaw3_Side) (j := 3) (b := b1) (o := 0) s9 (pend2 := []) (by kernel_rfl) (by kernel_rfl) Ty62 (by kernel_rfl) rfl (At.whole _) (by kernel_rfl) rfl ?_
    refine OJ.kst (T := 62) (y := .tmp 4) (z := .tmp 72) (cd := c_weirlaw3_Side) (u := s9) (j := 2) (b := b3) (o := 0) (c_weirlaw3_Side.enc s9) (h2 := [(b25, ((cI .u8).arr 2).enc (⟨[77, 78], rfl⟩ : Vec Int 2)), (b7, c_weirlaw3_Win.enc x6), (b3, c_weirlaw3_Side.enc s9), (b1, c_weirlaw3_Side.enc s9)]) (owed := []) (by kernel_rfl) (by kernel_rfl) (by kernel_rfl) Ty62 rfl (Upd.whole ((Cod.len _ _).trans (Cod.len _ _).symm)) (by kernel_rfl) (by kernel_rfl) rfl ?_
    refine OW.nil ?_
    refine OJ.nil ?_
    exact SJ.ret (by kernel_rfl) rfl (Res.run (ys := [c_weirlaw3_Side.val s9]) (.cell (j := 2) (b := b3) (cd := c_weirlaw3_Side) (q := s9) (by kernel_rfl) rfl Ty62 (At.whole _) .nil) rfl)
noncomputable def weirlaw3_written.F1 (a1 : weirlaw3_Op) (b1 : Nat) (b2 : Nat) (b3 : Nat) (x6 : weirlaw3_Win) (b7 : Nat) : (LS (Int × weirlaw3_Side) weirlaw3_Side) → Reach := loopF [.inLoop (c1 (c1 (c2 (c1 (c2 (c2 (c2 weirlaw3_written.B))))))), .inBlock 0, .code (c2 (c2 (c2 (c2 weirlaw3_written.B))))] (fun s_ : (Int × weirlaw3_Side) => [(2, .pointer (some (pt b1 0))), (3, .pointer (some (pt b2 0))), (4, .pointer (some (pt b3 0))), (6, .pointer (some (pt b7 0))), (7, .int .i64 s_.1)]) (fun s_ : (Int × weirlaw3_Side) => [(b7, c_weirlaw3_Win.enc x6), (b3, c_weirlaw3_Side.enc z_weirlaw3_Side), (b2, c_weirlaw3_Op.enc a1), (b1, c_weirlaw3_Side.enc s_.2)]) weirlaw3_written.F0
noncomputable def weirlaw3_written.L1 (a1 : weirlaw3_Op) (x6 : weirlaw3_Win) (s8 : Int) (s9 : weirlaw3_Side) : M (LS (Int × weirlaw3_Side) weirlaw3_Side) :=
  if s8 < (a1.B.len : Int) then
    (if (IntKind.wrap .i64 (a1.N + s8)) ≥ 0 then
        pure (decide ((IntKind.wrap .i64 (a1.N + s8)) < (x6.B.len : Int)))
      else
        pure false) >>= fun y30 =>
    if y30 = true then
      draw >>= fun _ =>
      idx a1.B.a a1.B.len s8 1 >>= fun p37 =>
      ld (cI .u8) p37 >>= fun x38 =>
      idx x6.B.a x6.B.len (IntKind.wrap .i64 (a1.N + s8)) 1 >>= fun p39 =>
      st (cI .u8) p39 x38 >>= fun _ =>
      draw >>= fun _ =>
      idx a1.B.a a1.B.len s8 1 >>= fun p40 =>
      ld (cI .u8) p40 >>= fun x41 =>
      weirref3_Write s9.R x6.I (IntKind.wrap .i64 (a1.N + s8)) x41 >>= fun r42 =>
      pure (LS.next (IntKind.wrap .i64 (s8 + 1), (⟨s9.P, r42, s9.W⟩ : weirlaw3_Side)))
    else
      pure (LS.next (IntKind.wrap .i64 (s8 + 1), s9))
  else
    (weirlaw3_written.K1 x6 s9) >>= fun b => pure (LS.done b)
theorem weirlaw3_written.L1_ok (a1 : weirlaw3_Op) (b1 : Nat) (b2 : Nat) (b3 : Nat) (x6 : weirlaw3_Win) (b7 : Nat) (s8 : Int) (s9 : weirlaw3_Side) :
    SJ weirlaw3_written.cx [.code (c1 (c1 (c2 (c1 (c2 (c2 (c2 weirlaw3_written.B))))))), .inLoop (c1 (c1 (c2 (c1 (c2 (c2 (c2 weirlaw3_written.B))))))), .inBlock 0, .code (c2 (c2 (c2 (c2 weirlaw3_written.B))))] [(2, .pointer (some (pt b1 0))), (3, .pointer (some (pt b2 0))), (4, .pointer (some (pt b3 0))), (6, .pointer (some (pt b7 0))), (7, .int .i64 s8)] [(b7, c_weirlaw3_Win.enc x6), (b3, c_weirlaw3_Side.enc z_weirlaw3_Side), (b2, c_weirlaw3_Op.enc a1), (b1, c_weirlaw3_Side.enc s9)] (weirlaw3_written.L1 a1 x6 s8 s9) (weirlaw3_written.F1 a1 b1 b2 b3 x6 b7) := by
  unfold weirlaw3_written.L1
  refine SJ.seq (by kernel_rfl) ?_
  refine SJ.seq (by kernel_rfl) ?_
  refine SJ.region (id := 4) (by kernel_rfl) [0, 1, 2, 3, 4] (by kernel_rfl) ?_
  refine OJ.run [0, 1] [2, 3, 4] [2, 3, 4, 6, 7, 19, 20] (m2 := [(2, .pointer (some (pt b1 0))), (3, .pointer (some (pt b2 0))), (4, .pointer (some (pt b3 0))), (6, .pointer (some (pt b7 0))), (7, .int .i64 s8), (19, .int .i64 s8), (20, .pointer (some (pt b2 4)))]) (by kernel_rfl) (by kernel_rfl) ?_
  refine OJ.kld (d := 21) (T := 22) (y := .tmp 20) (cd := cL) (j := 2) (b := b2) (o := 4) a1.B (pend2 := []) (by kernel_rfl) (by kernel_rfl) Ty22 (by kernel_rfl) rfl (At_weirlaw3_Op_B a1) (by kernel_rfl) rfl ?_
  refine OJ.run [3, 4] [] [2, 3, 4, 6, 7, 23] (m2 := [(2, .pointer (some (pt b1 0))), (3, .pointer (some (pt b2 0))), (4, .pointer (some (pt b3 0))), (6, .pointer (some (pt b7 0))), (7, .int .i64 s8), (23, .bool (decide (s8 < (a1.B.len : Int))))]) (by kernel_rfl) (by kernel_rfl) ?_
  refine OJ.nil ?_
  refine SJ.cond (t := (.tmp 23)) (b := decide (s8 < (a1.B.len : Int))) (by kernel_rfl) (by kernel_rfl) decide_eq_true_iff (fun hc44 => ?_) (fun hc44 => ?_)
  · refine SJ.skip (by kernel_rfl) ?_
    refine SJ.seq (by kernel_rfl) ?_
    refine SJ.block (id := 1) (by kernel_rfl) ?_
    refine SJ.seq (by kernel_rfl) ?_
    refine SJ.region (id := 6) (by kernel_rfl) [0, 1, 2, 3, 4] (by kernel_rfl) ?_
    refine OJ.run [0] [1, 2, 3, 4] [2, 3, 4, 6, 7, 26] (m2 := [(2, .pointer (some (pt b1 0))), (3, .pointer (some (pt b2 0))), (4, .pointer (some (pt b3 0))), (6, .pointer (some (pt b7 0))), (7, .int .i64 s8), (26, .pointer (some (pt b2 3)))]) (by kernel_rfl) (by kernel_rfl) ?_
    refine OJ.kld (d := 27) (T := 3) (y := .tmp 26) (cd := (cI .i64)) (j := 2) (b := b2) (o := 3) a1.N (pend2 := []) (by kernel_rfl) (by kernel_rfl) Ty3 (by kernel_rfl) rfl (At_weirlaw3_Op_N a1) (by kernel_rfl) rfl ?_
    refine OJ.run [2, 3, 4] [] [2, 3, 4, 6, 7, 8] (m2 := [(2, .pointer (some (pt b1 0))), (3, .pointer (some (pt b2 0))), (4, .pointer (some (pt b3 0))), (6, .pointer (some (pt b7 0))), (7, .int .i64 s8), (8, .int .i64 (IntKind.wrap .i64 (a1.N + s8)))]) (by kernel_rfl) (by kernel_rfl) ?_
    refine OJ.nil ?_
    refine SJ.seq (by kernel_rfl) ?_
    refine SJ.region (id := 7) (by kernel_rfl) [0, 1, 2, 3, 4, 5, 6, 7, 8] (by kernel_rfl) ?_
    refine OJ.run [0, 1, 2] [3, 4, 5, 6, 7, 8] [2, 3, 4, 6, 7, 8, 32] (m2 := [(2, .pointer (some (pt b1 0))), (3, .pointer (some (pt b2 0))), (4, .pointer (some (pt b3 0))), (6, .pointer (some (pt b7 0))), (7, .int .i64 s8), (8, .int .i64 (IntKind.wrap .i64 (a1.N + s8))), (32, .bool (decide ((IntKind.wrap .i64 (a1.N + s8)) ≥ 0)))]) (by kernel_rfl) (by kernel_rfl) ?_
    refine OJ.join (b := decide ((IntKind.wrap .i64 (a1.N + s8)) ≥ 0)) [3, 4, 5, 6, 7, 8] [] [2, 3, 4, 6, 7, 8, 38] (fun y30 => [(2, .pointer (some (pt b1 0))), (3, .pointer (some (pt b2 0))), (4, .pointer (some (pt b3 0))), (6, .pointer (some (pt b7 0))), (7, .int .i64 s8), (8, .int .i64 (IntKind.wrap .i64 (a1.N + s8))), (38, .bool y30)]) [] [] (by kernel_rfl) (t := 32) (by kernel_rfl) decide_eq_true_iff (fun hp_ => ?_) (fun hp_ => ?_) (by kernel_rfl) (fun _ _ _ _ _ _ h_ => h_) (fun y30 => ?_)
    · refine OJ.run [3, 4] [5, 6, 7, 8] [2, 3, 4, 6, 7, 8, 32, 33, 34] (m2 := [(2, .pointer (some (pt b1 0))), (3, .pointer (some (pt b2 0))), (4, .pointer (some (pt b3 0))), (6, .pointer (some (pt b7 0))), (7, .int .i64 s8), (8, .int .i64 (IntKind.wrap .i64 (a1.N + s8))), (32, .bool true), (33, .int .i64 (IntKind.wrap .i64 (a1.N + s8))), (34, .pointer (some (pt b7 0)))]) (by kernel_rfl) (by kernel_rfl) ?_
      refine OJ.kld (d := 35) (T := 22) (y := .tmp 34) (cd := cL) (j := 0) (b := b7) (o := 0) x6.B (pend2 := []) (by kernel_rfl) (by kernel_rfl) Ty22 (by kernel_rfl) rfl (At_weirlaw3_Win_B x6) (by kernel_rfl) rfl ?_
      refine OJ.run [6, 7, 8] [] [2, 3, 4, 6, 7, 8, 38] (m2 := [(2, .pointer (some (pt b1 0))), (3, .pointer (some (pt b2 0))), (4, .pointer (some (pt b3 0))), (6, .pointer (some (pt b7 0))), (7, .int .i64 s8), (8, .int .i64 (IntKind.wrap .i64 (a1.N + s8))), (38, .bool (decide ((IntKind.wrap .i64 (a1.N + s8)) < (x6.B.len : Int))))]) (by kernel_rfl) (by kernel_rfl) ?_
      exact OJ.nil ⟨(Cov.mem Cov.nil), rfl, _, rfl, by kernel_rfl⟩
    · refine OJ.run [3, 4, 5, 6, 7, 8] [] [2, 3, 4, 6, 7, 8, 38] (m2 := [(2, .pointer (some (pt b1 0))), (3, .pointer (some (pt b2 0))), (4, .pointer (some (pt b3 0))), (6, .pointer (some (pt b7 0))), (7, .int .i64 s8), (8, .int .i64 (IntKind.wrap .i64 (a1.N + s8))), (38, .bool false)]) (by kernel_rfl) (by kernel_rfl) ?_
      exact OJ.nil ⟨(Cov.mem Cov.nil), rfl, _, rfl, by kernel_rfl⟩
    · refine OJ.nil ?_
      refine SJ.cond (t := (.tmp 38)) (b := y30) (by kernel_rfl) (by kernel_rfl) Iff.rfl (fun hc43 => ?_) (fun hc43 => ?_)
      · refine SJ.seq (by kernel_rfl) ?_
        refine SJ.draw (id := 8) (kd := [0, 1, 0, 0, 1, 0, 0, 1, 0, 2]) (bef := [0, 1, 0, 0, 8, 0, 56, 120, 255, 511]) (ord := [0, 1, 2, 3, 4, 5, 6, 7, 8, 9]) (by kernel_rfl) mixed (by kernel_rfl) ?_
        refine OJ.run [0] [1, 2, 3, 4, 5, 6, 7, 8, 9] [2, 3, 4, 6, 7, 8, 39] (m2 := [(2, .pointer (some (pt b1 0))), (3, .pointer (some (pt b2 0))), (4, .pointer (some (pt b3 0))), (6, .pointer (some (pt b7 0))), (7, .int .i64 s8), (8, .int .i64 (IntKind.wrap .i64 (a1.N + s8))), (39, .pointer (some (pt b7 0)))]) (by kernel_rfl) (by kernel_rfl) ?_
        refine OJ.kld (d := 40) (T := 22) (y := .tmp 39) (cd := cL) (j := 0) (b := b7) (o := 0) x6.B (pend2 := [⟨1, 22, (pt b7 0), cL.val x6.B⟩]) (by kernel_rfl) (by kernel_rfl) Ty22 (by kernel_rfl) rfl (At_weirlaw3_Win_B x6) (by kernel_rfl) rfl ?_
        refine OJ.run [2, 3] [4, 5, 6, 7, 8, 9] [2, 3, 4, 6, 7, 8, 40, 41, 42] (m2 := [(2, .pointer (some (pt b1 0))), (3, .pointer (some (pt b2 0))), (4, .pointer (some (pt b3 0))), (6, .pointer (some (pt b7 0))), (7, .int .i64 s8), (8, .int .i64 (IntKind.wrap .i64 (a1.N + s8))), (40, Sl.v x6.B), (41, .int .i64 (IntKind.wrap .i64 (a1.N + s8))), (42, .pointer (some (pt b2 4)))]) (by kernel_rfl) (by kernel_rfl) ?_
        refine OJ.kld (d := 43) (T := 22) (y := .tmp 42) (cd := cL) (j := 2) (b := b2) (o := 4) a1.B (pend2 := [⟨4, 22, (pt b2 4), cL.val a1.B⟩, ⟨1, 22, (pt b7 0), cL.val x6.B⟩]) (by kernel_rfl) (by kernel_rfl) Ty22 (by kernel_rfl) rfl (At_weirlaw3_Op_B a1) (by kernel_rfl) rfl ?_
        refine OJ.run [5] [6, 7, 8, 9] [2, 3, 4, 6, 7, 8, 40, 41, 43, 44] (m2 := [(2, .pointer (some (pt b1 0))), (3, .pointer (some (pt b2 0))), (4, .pointer (some (pt b3 0))), (6, .pointer (some (pt b7 0))), (7, .int .i64 s8), (8, .int .i64 (IntKind.wrap .i64 (a1.N + s8))), (40, Sl.v x6.B), (41, .int .i64 (IntKind.wrap .i64 (a1.N + s8))), (43, Sl.v a1.B), (44, .int .i64 s8)]) (by kernel_rfl) (by kernel_rfl) ?_
        refine OJ.idxS (d := 45) (T := 22) (y := .tmp 43) (j := .tmp 44) (E := 5) (cap := a1.B.cap) (k := .i64) (by kernel_rfl) (by kernel_rfl) (by kernel_rfl) (by kernel_rfl) (by kernel_rfl) (by kernel_rfl) (by kernel_rfl) (by kernel_rfl) (fun p37 => ?_)
        refine OJ.ld (d := 46) (T := 5) (y := .tmp 45) (pend2 := fun x38 => [⟨7, 5, p37, (cI .u8).val x38⟩, ⟨4, 22, (pt b2 4), cL.val a1.B⟩, ⟨1, 22, (pt b7 0), cL.val x6.B⟩]) (by kernel_rfl) (by kernel_rfl) Ty5 (by kernel_rfl) (by kernel_rfl) (fun _ => rfl) (fun x38 => ?_)
        refine OJ.idxS (d := 47) (T := 22) (y := .tmp 40) (j := .tmp 41) (E := 5) (cap := x6.B.cap) (k := .i64) (by kernel_rfl) (by kernel_rfl) (by kernel_rfl) (by kernel_rfl) (by kernel_rfl) (by kernel_rfl) (by kernel_rfl) (by kernel_rfl) (fun p39 => ?_)
        refine OJ.st (T := 5) (y := .tmp 47) (z := .tmp 46) (owed := []) (by kernel_rfl) (by kernel_rfl) (by kernel_rfl) Ty5 (by kernel_rfl) (by kernel_rfl) ?_
        refine OW.nil ?_
        refine OJ.nil ?_
        refine SJ.draw (id := 9) (kd := [0, 1, 0, 1, 0, 0, 1, 0, 0, 1, 2, 0, 2]) (bef := [0, 1, 0, 4, 0, 0, 32, 0, 224, 480, 1023, 2047, 4095]) (ord := [0, 1, 2, 3, 4, 5, 6, 7, 8, 9, 10, 11, 12]) (by kernel_rfl) mixed (by kernel_rfl) ?_
        refine OJ.run [0] [1, 2, 3, 4, 5, 6, 7, 8, 9, 10, 11, 12] [2, 3, 4, 6, 7, 8, 48] (m2 := [(2, .pointer (some (pt b1 0))), (3, .pointer (some (pt b2 0))), (4, .pointer (some (pt b3 0))), (6, .pointer (some (pt b7 0))), (7, .int .i64 s8), (8, .int .i64 (IntKind.wrap .i64 (a1.N + s8))), (48, .pointer (some (pt b1 1)))]) (by kernel_rfl) (by kernel_rfl) ?_
        refine OJ.kld (d := 49) (T := 59) (y := .tmp 48) (cd := c_weirref3_Port) (j := 3) (b := b1) (o := 1) s9.R (pend2 := [⟨1, 59, (pt b1 1), c_weirref3_Port.val s9.R⟩]) (by kernel_rfl) (by kernel_rfl) Ty59 (by kernel_rfl) rfl (At_weirlaw3_Side_R s9) (by kernel_rfl) rfl ?_
        refine OJ.run [2] [3, 4, 5, 6, 7, 8, 9, 10, 11, 12] [2, 3, 4, 6, 7, 8, 49, 50] (m2 := [(2, .pointer (some (pt b1 0))), (3, .pointer (some (pt b2 0))), (4, .pointer (some (pt b3 0))), (6, .pointer (some (pt b7 0))), (7, .int .i64 s8), (8, .int .i64 (IntKind.wrap .i64 (a1.N + s8))), (49, c_weirref3_Port.val s9.R), (50, .pointer (some (pt b7 1)))]) (by kernel_rfl) (by kernel_rfl) ?_
        refine OJ.kld (d := 51) (T := 3) (y := .tmp 50) (cd := (cI .i64)) (j := 0) (b := b7) (o := 1) x6.I (pend2 := [⟨3, 3, (pt b7 1), (cI .i64).val x6.I⟩, ⟨1, 59, (pt b1 1), c_weirref3_Port.val s9.R⟩]) (by kernel_rfl) (by kernel_rfl) Ty3 (by kernel_rfl) rfl (At_weirlaw3_Win_I x6) (by kernel_rfl) rfl ?_
        refine OJ.run [4, 5] [6, 7, 8, 9, 10, 11, 12] [2, 3, 4, 6, 7, 49, 51, 52, 53] (m2 := [(2, .pointer (some (pt b1 0))), (3, .pointer (some (pt b2 0))), (4, .pointer (some (pt b3 0))), (6, .pointer (some (pt b7 0))), (7, .int .i64 s8), (49, c_weirref3_Port.val s9.R), (51, .int .i64 x6.I), (52, .int .i64 (IntKind.wrap .i64 (a1.N + s8))), (53, .pointer (some (pt b2 4)))]) (by kernel_rfl) (by kernel_rfl) ?_
        refine OJ.kld (d := 54) (T := 22) (y := .tmp 53) (cd := cL) (j := 2) (b := b2) (o := 4) a1.B (pend2 := [⟨6, 22, (pt b2 4), cL.val a1.B⟩, ⟨3, 3, (pt b7 1), (cI .i64).val x6.I⟩, ⟨1, 59, (pt b1 1), c_weirref3_Port.val s9.R⟩]) (by kernel_rfl) (by kernel_rfl) Ty22 (by kernel_rfl) rfl (At_weirlaw3_Op_B a1) (by kernel_rfl) rfl ?_
        refine OJ.run [7] [8, 9, 10, 11, 12] [2, 3, 4, 6, 7, 49, 51, 52, 54, 55] (m2 := [(2, .pointer (some (pt b1 0))), (3, .pointer (some (pt b2 0))), (4, .pointer (some (pt b3 0))), (6, .pointer (some (pt b7 0))), (7, .int .i64 s8), (49, c_weirref3_Port.val s9.R), (51, .int .i64 x6.I), (52, .int .i64 (IntKind.wrap .i64 (a1.N + s8))), (54, Sl.v a1.B), (55, .int .i64 s8)]) (by kernel_rfl) (by kernel_rfl) ?_
        refine OJ.idxS (d := 56) (T := 22) (y := .tmp 54) (j := .tmp 55) (E := 5) (cap := a1.B.cap) (k := .i64) (by kernel_rfl) (by kernel_rfl) (by kernel_rfl) (by kernel_rfl) (by kernel_rfl) (by kernel_rfl) (by kernel_rfl) (by kernel_rfl) (fun p40 => ?_)
        refine OJ.ld (d := 57) (T := 5) (y := .tmp 56) (pend2 := fun x41 => [⟨9, 5, p40, (cI .u8).val x41⟩, ⟨6, 22, (pt b2 4), cL.val a1.B⟩, ⟨3, 3, (pt b7 1), (cI .i64).val x6.I⟩, ⟨1, 59, (pt b1 1), c_weirref3_Port.val s9.R⟩]) (by kernel_rfl) (by kernel_rfl) Ty5 (by kernel_rfl) (by kernel_rfl) (fun _ => rfl) (fun x41 => ?_)
        refine OJ.call (d := 58) (g := 75) (ats := #[59, 3, 3, 5]) (args := [.tmp 49, .tmp 51, .tmp 52, .tmp 57]) (vals := [c_weirref3_Port.val s9.R, .int .i64 x6.I, .int .i64 (IntKind.wrap .i64 (a1.N + s8)), .int .u8 x41]) (owed := []) (by kernel_rfl) F75 (by kernel_rfl) (weirref3_Write_ok s9.R x6.I (IntKind.wrap .i64 (a1.N + s8)) x41) (by kernel_rfl) (by kernel_rfl) (by kernel_rfl) (fun r42 => ?_)
        refine OW.nil ?_
        refine OJ.run [11] [12] [2, 3, 4, 6, 7, 58, 59] (m2 := [(2, .pointer (some (pt b1 0))), (3, .pointer (some (pt b2 0))), (4, .pointer (some (pt b3 0))), (6, .pointer (some (pt b7 0))), (7, .int .i64 s8), (58, c_weirref3_Port.val r42), (59, .pointer (some (pt b1 1)))]) (by kernel_rfl) (by kernel_rfl) ?_
        refine OJ.kst (T := 59) (y := .tmp 59) (z := .tmp 58) (cd := c_weirref3_Port) (u := r42) (j := 3) (b := b1) (o := 1) (c_weirlaw3_Side.enc (⟨s9.P, r42, s9.W⟩ : weirlaw3_Side)) (h2 := [(b7, c_weirlaw3_Win.enc x6), (b3, c_weirlaw3_Side.enc z_weirlaw3_Side), (b2, c_weirlaw3_Op.enc a1), (b1, c_weirlaw3_Side.enc (⟨s9.P, r42, s9.W⟩ : weirlaw3_Side))]) (owed := []) (by kernel_rfl) (by kernel_rfl) (by kernel_rfl) Ty59 rfl (Up_weirlaw3_Side_R s9 r42) (by kernel_rfl) (by kernel_rfl) rfl ?_
        refine OW.nil ?_
        refine OJ.nil ?_
        refine SJ.inBlock ?_
        refine SJ.region (id := 5) (by kernel_rfl) [0, 1, 2] (by kernel_rfl) ?_
        refine OJ.run [0, 1, 2] [] [2, 3, 4, 6, 7] (m2 := [(2, .pointer (some (pt b1 0))), (3, .pointer (some (pt b2 0))), (4, .pointer (some (pt b3 0))), (6, .pointer (some (pt b7 0))), (7, .int .i64 (IntKind.wrap .i64 (s8 + 1)))]) (by kernel_rfl) (by kernel_rfl) ?_
        refine OJ.nil ?_
        exact SJ.at_ [2, 3, 4, 6, 7] rfl (by kernel_rfl)
      · refine SJ.skip (by kernel_rfl) ?_
        refine SJ.inBlock ?_
        refine SJ.region (id := 5) (by kernel_rfl) [0, 1, 2] (by kernel_rfl) ?_
        refine OJ.run [0, 1, 2] [] [2, 3, 4, 6, 7] (m2 := [(2, .pointer (some (pt b1 0))), (3, .pointer (some (pt b2 0))), (4, .pointer (some (pt b3 0))), (6, .pointer (some (pt b7 0))), (7, .int .i64 (IntKind.wrap .i64 (s8 + 1)))]) (by kernel_rfl) (by kernel_rfl) ?_
        refine OJ.nil ?_
        exact SJ.at_ [2, 3, 4, 6, 7] rfl (by kernel_rfl)
  · refine SJ.exit (id := 0) (by kernel_rfl) (by rfl) ?_
    refine SJ.forget (List.Sublist.cons_cons _ (List.Sublist.cons_cons _ (List.Sublist.cons _ (List.Sublist.cons_cons _ List.Sublist.slnil)))) ?_
    refine SJ.less [2, 4, 6] (m' := [(2, .pointer (some (pt b1 0))), (4, .pointer (some (pt b3 0))), (6, .pointer (some (pt b7 0)))]) (by kernel_rfl) ?_
    refine SJ.done ?_
    exact weirlaw3_written.K1_ok b1 b3 x6 b7 s9
noncomputable def weirlaw3_written (a0 : weirlaw3_Side) (a1 : weirlaw3_Op) : M weirlaw3_Side :=
  slot 62 >>= fun b1 =>
  slot 45 >>= fun b2 =>
  slot 62 >>= fun b3 =>
  weirlaw3_one a0 a1.I >>= fun r4 =>
  idx a0.W.a a0.W.len r4 2 >>= fun p5 =>
  ld c_weirlaw3_Win p5 >>= fun x6 =>
  slot 116 >>= fun b7 =>
  loopM (fun s_ : (Int × weirlaw3_Side) => weirlaw3_written.L1 a1 x6 s_.1 s_.2) (0, a0)
theorem weirlaw3_written_ok (a0 : weirlaw3_Side) (a1 : weirlaw3_Op) : Ref Try.prog 60 [c_weirlaw3_Side.val a0, c_weirlaw3_Op.val a1] (weirlaw3_written a0 a1) weirlaw3_written.out := by
  refine Ref.of (cd := weirlaw3_written.B) Try.func60 (by kernel_rfl) (by kernel_rfl) ?_
  show SJ weirlaw3_written.cx [.code weirlaw3_written.B] [(0, c_weirlaw3_Side.val a0), (1, c_weirlaw3_Op.val a1)] [] (weirlaw3_written a0 a1) weirlaw3_written.F0
  unfold weirlaw3_written
  refine SJ.seq (by kernel_rfl) ?_
  refine SJ.region (id := 0) (by kernel_rfl) [0, 1, 2] (by kernel_rfl) ?_
  refine OJ.slotOf (d := 2) (op := (.box 62 (.tmp 0))) (cd := c_weirlaw3_Side) (u := a0) (owed := []) (by kernel_rfl) (box_run (by kernel_rfl)) (by kernel_rfl) (by kernel_rfl) (by kernel_rfl) (fun b1 => ?_)
  refine OW.nil ?_
  refine OJ.slotOf (d := 3) (op := (.box 45 (.tmp 1))) (cd := c_weirlaw3_Op) (u := a1) (owed := []) (by kernel_rfl) (box_run (by kernel_rfl)) (by kernel_rfl) (by kernel_rfl) (by kernel_rfl) (fun b2 => ?_)
  refine OW.nil ?_
  refine OJ.slotOf (d := 4) (op := (.alloc 62)) (cd := c_weirlaw3_Side) (u := z_weirlaw3_Side) (owed := []) (by kernel_rfl) (alloc_run Ty62) (by kernel_rfl) (by kernel_rfl) (by kernel_rfl) (fun b3 => ?_)
  refine OW.nil ?_
  refine OJ.nil ?_
  refine SJ.seq (by kernel_rfl) ?_
  refine SJ.region (id := 1) (by kernel_rfl) [0, 1, 2, 3, 4] (by kernel_rfl) ?_
  refine OJ.kld (d := 10) (T := 62) (y := .tmp 2) (cd := c_weirlaw3_Side) (j := 2) (b := b1) (o := 0) a0 (pend2 := []) (by kernel_rfl) (by kernel_rfl) Ty62 (by kernel_rfl) rfl (At.whole _) (by kernel_rfl) rfl ?_
  refine OJ.run [1] [2, 3, 4] [2, 3, 4, 10, 11] (m2 := [(2, .pointer (some (pt b1 0))), (3, .pointer (some (pt b2 0))), (4, .pointer (some (pt b3 0))), (10, c_weirlaw3_Side.val a0), (11, .pointer (some (pt b2 2)))]) (by kernel_rfl) (by kernel_rfl) ?_
  refine OJ.kld (d := 12) (T := 3) (y := .tmp 11) (cd := (cI .i64)) (j := 1) (b := b2) (o := 2) a1.I (pend2 := []) (by kernel_rfl) (by kernel_rfl) Ty3 (by kernel_rfl) rfl (At_weirlaw3_Op_I a1) (by kernel_rfl) rfl ?_
  refine OJ.call (d := 13) (g := 74) (ats := #[62, 3]) (args := [.tmp 10, .tmp 12]) (vals := [c_weirlaw3_Side.val a0, .int .i64 a1.I]) (owed := []) (by kernel_rfl) F74 (by kernel_rfl) (weirlaw3_one_ok a0 a1.I) (by kernel_rfl) (by kernel_rfl) (by kernel_rfl) (fun r4 => ?_)
  refine OW.nil ?_
  refine OJ.run [4] [] [2, 3, 4, 5] (m2 := [(2, .pointer (some (pt b1 0))), (3, .pointer (some (pt b2 0))), (4, .pointer (some (pt b3 0))), (5, .int .i64 r4)]) (by kernel_rfl) (by kernel_rfl) ?_
  refine OJ.nil ?_
  refine SJ.seq (by kernel_rfl) ?_
  refine SJ.region (id := 2) (by kernel_rfl) [0, 1, 2, 3, 4, 5, 6] (by kernel_rfl) ?_
  refine OJ.run [0] [1, 2, 3, 4, 5, 6] [2, 3, 4, 5, 14] (m2 := [(2, .pointer (some (pt b1 0))), (3, .pointer (some (pt b2 0))), (4, .pointer (some (pt b3 0))), (5, .int .i64 r4), (14, .pointer (some (pt b1 6)))]) (by kernel_rfl) (by kernel_rfl) ?_
  refine OJ.kld (d := 15) (T := 60) (y := .tmp 14) (cd := cL) (j := 2) (b := b1) (o := 6) a0.W (pend2 := []) (by kernel_rfl) (by kernel_rfl) Ty60 (by kernel_rfl) rfl (At_weirlaw3_Side_W a0) (by kernel_rfl) rfl ?_
  refine OJ.run [2] [3, 4, 5, 6] [2, 3, 4, 15, 16] (m2 := [(2, .pointer (some (pt b1 0))), (3, .pointer (some (pt b2 0))), (4, .pointer (some (pt b3 0))), (15, Sl.v a0.W), (16, .int .i64 r4)]) (by kernel_rfl) (by kernel_rfl) ?_
  refine OJ.idxS (d := 17) (T := 60) (y := .tmp 15) (j := .tmp 16) (E := 116) (cap := a0.W.cap) (k := .i64) (by kernel_rfl) (by kernel_rfl) (by kernel_rfl) (by kernel_rfl) (by kernel_rfl) (by kernel_rfl) (by kernel_rfl) (by kernel_rfl) (fun p5 => ?_)
  refine OJ.ld (d := 18) (T := 116) (y := .tmp 17) (pend2 := fun x6 => []) (by kernel_rfl) (by kernel_rfl) Ty116 (by kernel_rfl) (by kernel_rfl) (fun _ => rfl) (fun x6 => ?_)
  refine OJ.slotOf (d := 6) (op := (.alloc 116)) (cd := c_weirlaw3_Win) (u := z_weirlaw3_Win) (owed := []) (by kernel_rfl) (alloc_run Ty116) (by kernel_rfl) (by kernel_rfl) (by kernel_rfl) (fun b7 => ?_)
  refine OW.nil ?_
  refine OJ.kst (T := 116) (y := .tmp 6) (z := .tmp 18) (cd := c_weirlaw3_Win) (u := x6) (j := 0) (b := b7) (o := 0) (c_weirlaw3_Win.enc x6) (h2 := [(b7, c_weirlaw3_Win.enc x6), (b3, c_weirlaw3_Side.enc z_weirlaw3_Side), (b2, c_weirlaw3_Op.enc a1), (b1, c_weirlaw3_Side.enc a0)]) (owed := []) (by kernel_rfl) (by kernel_rfl) (by kernel_rfl) Ty116 rfl (Upd.whole ((Cod.len _ _).trans (Cod.len _ _).symm)) (by kernel_rfl) (by kernel_rfl) rfl ?_
  refine OW.nil ?_
  refine OJ.nil ?_
  refine SJ.seq (by kernel_rfl) ?_
  refine SJ.seq (by kernel_rfl) ?_
  refine SJ.region (id := 3) (by kernel_rfl) [0] (by kernel_rfl) ?_
  refine OJ.run [0] [] [2, 3, 4, 6, 7] (m2 := [(2, .pointer (some (pt b1 0))), (3, .pointer (some (pt b2 0))), (4, .pointer (some (pt b3 0))), (6, .pointer (some (pt b7 0))), (7, .int .i64 0)]) (by kernel_rfl) (by kernel_rfl) ?_
  refine OJ.nil ?_
  refine SJ.block (id := 0) (by kernel_rfl) ?_
  exact SJ.loop (fun s_ : (Int × weirlaw3_Side) => [(2, .pointer (some (pt b1 0))), (3, .pointer (some (pt b2 0))), (4, .pointer (some (pt b3 0))), (6, .pointer (some (pt b7 0))), (7, .int .i64 s_.1)]) (fun s_ : (Int × weirlaw3_Side) => [(b7, c_weirlaw3_Win.enc x6), (b3, c_weirlaw3_Side.enc z_weirlaw3_Side), (b2, c_weirlaw3_Op.enc a1), (b1, c_weirlaw3_Side.enc s_.2)]) [2, 3, 4, 6, 7] (by kernel_rfl) (by kernel_rfl) rfl (fun _ _ => rfl) (fun s_ => weirlaw3_written.L1_ok a1 b1 b2 b3 x6 b7 s_.1 s_.2)
end Go.Proofs.Ytoddkagehbcfjaa.Lx
