/- Programs of the M-world for Go functions, each with the proof that the Go text does what it says. Printed by lxgen.py. -/
import Derived.Test.YtoddkagehbcfjaaLxT
import Derived.Test.YtoddkagehbcfjaaLxP0
import Derived.Test.YtoddkagehbcfjaaLxP1
import Derived.Test.YtoddkagehbcfjaaLxP2
set_option linter.unusedVariables false
set_option linter.unusedSimpArgs false
namespace Go.Proofs.Ytoddkagehbcfjaa.Lx
open Go Go.Proofs
/-! ### weir/weirref3.Bytes: function 76 -/
noncomputable def weirref3_Bytes.B : Code := (Try.f76.body).getD .skip
noncomputable def weirref3_Bytes.cx : Fx := ⟨Try.prog, 76, Try.f76⟩
noncomputable def weirref3_Bytes.out (r_ : Sl) : Value := Sl.v r_
noncomputable def weirref3_Bytes.F0 (r_ : Sl) : Reach := .ret (weirref3_Bytes.out r_)
noncomputable def weirref3_Bytes.F1 (a0 : weirref3_Port) (a1 : Int) (a2 : Int) (b1 : Nat) : (LS (Sl × Int) Sl) → Reach := loopF [.inLoop (c1 (c1 (c2 (c1 (c2 (c2 weirref3_Bytes.B)))))), .inBlock 0, .code (c2 (c2 (c2 weirref3_Bytes.B)))] (fun s_ : (Sl × Int) => [(1, .int .i64 a1), (2, .int .i64 a2), (3, .pointer (some (pt b1 0))), (7, Sl.v s_.1), (8, .int .i64 s_.2)]) (fun s_ : (Sl × Int) => [(b1, c_weirref3_Port.enc a0)]) weirref3_Bytes.F0
noncomputable def weirref3_Bytes.L1 (a0 : weirref3_Port) (a1 : Int) (a2 : Int) (s2 : Sl) (s3 : Int) : M (LS (Sl × Int) Sl) :=
  if s3 < a2 then
    idx a0.L.a a0.L.len a1 4 >>= fun p20 =>
    ld cL (Addr.add p20 3) >>= fun x21 =>
    if s3 < (x21.len : Int) then
      idx a0.L.a a0.L.len a1 4 >>= fun p26 =>
      ld cL (Addr.add p26 3) >>= fun x27 =>
      idx x27.a x27.len s3 1 >>= fun p28 =>
      ld (cI .u8) p28 >>= fun x29 =>
      slot 5 >>= fun b30 =>
      appl (cI .u8) 5 1 0 s2 [x29] >>= fun r31 =>
      pure (LS.next (r31, IntKind.wrap .i64 (s3 + 1)))
    else
      slot 5 >>= fun b32 =>
      appl (cI .u8) 5 1 0 s2 [0] >>= fun r33 =>
      pure (LS.next (r33, IntKind.wrap .i64 (s3 + 1)))
  else
    pure (LS.done s2)
theorem weirref3_Bytes.L1_ok (a0 : weirref3_Port) (a1 : Int) (a2 : Int) (b1 : Nat) (s2 : Sl) (s3 : Int) :
    SJ weirref3_Bytes.cx [.code (c1 (c1 (c2 (c1 (c2 (c2 weirref3_Bytes.B)))))), .inLoop (c1 (c1 (c2 (c1 (c2 (c2 weirref3_Bytes.B)))))), .inBlock 0, .code (c2 (c2 (c2 weirref3_Bytes.B)))] [(1, .int .i64 a1), (2, .int .i64 a2), (3, .pointer (some (pt b1 0))), (7, Sl.v s2), (8, .int .i64 s3)] [(b1, c_weirref3_Port.enc a0)] (weirref3_Bytes.L1 a0 a1 a2 s2 s3) (weirref3_Bytes.F1 a0 a1 a2 b1) := by
  unfold weirref3_Bytes.L1
  refine SJ.seq (by kernel_rfl) ?_
  refine SJ.seq (by kernel_rfl) ?_
  refine SJ.region (id := 3) (by kernel_rfl) [0, 1, 2] (by kernel_rfl) ?_
  refine OJ.run [0, 1, 2] [] [1, 2, 3, 7, 8, 12] (m2 := [(1, .int .i64 a1), (2, .int .i64 a2), (3, .pointer (some (pt b1 0))), (7, Sl.v s2), (8, .int .i64 s3), (12, .bool (decide (s3 < a2)))]) (by kernel_rfl) (by kernel_rfl) ?_
  refine OJ.nil ?_
  refine SJ.cond (t := (.tmp 12)) (b := decide (s3 < a2)) (by kernel_rfl) (by kernel_rfl) decide_eq_true_iff (fun hc35 => ?_) (fun hc35 => ?_)
  · refine SJ.skip (by kernel_rfl) ?_
    refine SJ.seq (by kernel_rfl) ?_
    refine SJ.block (id := 1) (by kernel_rfl) ?_
    refine SJ.seq (by kernel_rfl) ?_
    refine SJ.region (id := 5) (by kernel_rfl) [0] (by kernel_rfl) ?_
    refine OJ.run [0] [] [1, 2, 3, 7, 8, 9] (m2 := [(1, .int .i64 a1), (2, .int .i64 a2), (3, .pointer (some (pt b1 0))), (7, Sl.v s2), (8, .int .i64 s3), (9, .int .u8 0)]) (by kernel_rfl) (by kernel_rfl) ?_
    refine OJ.nil ?_
    refine SJ.seq (by kernel_rfl) ?_
    refine SJ.seq (by kernel_rfl) ?_
    refine SJ.region (id := 6) (by kernel_rfl) [0, 1, 2, 3, 4, 5, 6, 7, 8] (by kernel_rfl) ?_
    refine OJ.run [0, 1] [2, 3, 4, 5, 6, 7, 8] [1, 2, 3, 7, 8, 9, 15, 16] (m2 := [(1, .int .i64 a1), (2, .int .i64 a2), (3, .pointer (some (pt b1 0))), (7, Sl.v s2), (8, .int .i64 s3), (9, .int .u8 0), (15, .int .i64 s3), (16, .pointer (some (pt b1 3)))]) (by kernel_rfl) (by kernel_rfl) ?_
    refine OJ.kld (d := 17) (T := 57) (y := .tmp 16) (cd := cL) (j := 0) (b := b1) (o := 3) a0.L (pend2 := []) (by kernel_rfl) (by kernel_rfl) Ty57 (by kernel_rfl) rfl (At_weirref3_Port_L a0) (by kernel_rfl) rfl ?_
    refine OJ.run [3] [4, 5, 6, 7, 8] [1, 2, 3, 7, 8, 9, 15, 17, 18] (m2 := [(1, .int .i64 a1), (2, .int .i64 a2), (3, .pointer (some (pt b1 0))), (7, Sl.v s2), (8, .int .i64 s3), (9, .int .u8 0), (15, .int .i64 s3), (17, Sl.v a0.L), (18, .int .i64 a1)]) (by kernel_rfl) (by kernel_rfl) ?_
    refine OJ.idxS (d := 19) (T := 57) (y := .tmp 17) (j := .tmp 18) (E := 110) (cap := a0.L.cap) (k := .i64) (by kernel_rfl) (by kernel_rfl) (by kernel_rfl) (by kernel_rfl) (by kernel_rfl) (by kernel_rfl) (by kernel_rfl) (by kernel_rfl) (fun p20 => ?_)
    refine OJ.run [5] [6, 7, 8] [1, 2, 3, 7, 8, 9, 15, 20] (m2 := [(1, .int .i64 a1), (2, .int .i64 a2), (3, .pointer (some (pt b1 0))), (7, Sl.v s2), (8, .int .i64 s3), (9, .int .u8 0), (15, .int .i64 s3), (20, .pointer (some (Addr.add p20 3)))]) (by kernel_rfl) (by kernel_rfl) ?_
    refine OJ.ld (d := 21) (T := 22) (y := .tmp 20) (pend2 := fun x21 => []) (by kernel_rfl) (by kernel_rfl) Ty22 (by kernel_rfl) (by kernel_rfl) (fun _ => rfl) (fun x21 => ?_)
    refine OJ.run [7, 8] [] [1, 2, 3, 7, 8, 9, 23] (m2 := [(1, .int .i64 a1), (2, .int .i64 a2), (3, .pointer (some (pt b1 0))), (7, Sl.v s2), (8, .int .i64 s3), (9, .int .u8 0), (23, .bool (decide (s3 < (x21.len : Int))))]) (by kernel_rfl) (by kernel_rfl) ?_
    refine OJ.nil ?_
    refine SJ.cond (t := (.tmp 23)) (b := decide (s3 < (x21.len : Int))) (by kernel_rfl) (by kernel_rfl) decide_eq_true_iff (fun hc34 => ?_) (fun hc34 => ?_)
    · refine SJ.region (id := 7) (by kernel_rfl) [0, 1, 2, 3, 4, 5, 6, 7, 8, 9] (by kernel_rfl) ?_
      refine OJ.run [0] [1, 2, 3, 4, 5, 6, 7, 8, 9] [1, 2, 3, 7, 8, 9, 24] (m2 := [(1, .int .i64 a1), (2, .int .i64 a2), (3, .pointer (some (pt b1 0))), (7, Sl.v s2), (8, .int .i64 s3), (9, .int .u8 0), (24, .pointer (some (pt b1 3)))]) (by kernel_rfl) (by kernel_rfl) ?_
      refine OJ.kld (d := 25) (T := 57) (y := .tmp 24) (cd := cL) (j := 0) (b := b1) (o := 3) a0.L (pend2 := []) (by kernel_rfl) (by kernel_rfl) Ty57 (by kernel_rfl) rfl (At_weirref3_Port_L a0) (by kernel_rfl) rfl ?_
      refine OJ.run [2] [3, 4, 5, 6, 7, 8, 9] [1, 2, 3, 7, 8, 9, 25, 26] (m2 := [(1, .int .i64 a1), (2, .int .i64 a2), (3, .pointer (some (pt b1 0))), (7, Sl.v s2), (8, .int .i64 s3), (9, .int .u8 0), (25, Sl.v a0.L), (26, .int .i64 a1)]) (by kernel_rfl) (by kernel_rfl) ?_
      refine OJ.idxS (d := 27) (T := 57) (y := .tmp 25) (j := .tmp 26) (E := 110) (cap := a0.L.cap) (k := .i64) (by kernel_rfl) (by kernel_rfl) (by kernel_rfl) (by kernel_rfl) (by kernel_rfl) (by kernel_rfl) (by kernel_rfl) (by kernel_rfl) (fun p26 => ?_)
      refine OJ.run [4] [5, 6, 7, 8, 9] [1, 2, 3, 7, 8, 9, 28] (m2 := [(1, .int .i64 a1), (2, .int .i64 a2), (3, .pointer (some (pt b1 0))), (7, Sl.v s2), (8, .int .i64 s3), (9, .int .u8 0), (28, .pointer (some (Addr.add p26 3)))]) (by kernel_rfl) (by kernel_rfl) ?_
      refine OJ.ld (d := 29) (T := 22) (y := .tmp 28) (pend2 := fun x27 => []) (by kernel_rfl) (by kernel_rfl) Ty22 (by kernel_rfl) (by kernel_rfl) (fun _ => rfl) (fun x27 => ?_)
      refine OJ.run [6] [7, 8, 9] [1, 2, 3, 7, 8, 9, 29, 30] (m2 := [(1, .int .i64 a1), (2, .int .i64 a2), (3, .pointer (some (pt b1 0))), (7, Sl.v s2), (8, .int .i64 s3), (9, .int .u8 0), (29, Sl.v x27), (30, .int .i64 s3)]) (by kernel_rfl) (by kernel_rfl) ?_
      refine OJ.idxS (d := 31) (T := 22) (y := .tmp 29) (j := .tmp 30) (E := 5) (cap := x27.cap) (k := .i64) (by kernel_rfl) (by kernel_rfl) (by kernel_rfl) (by kernel_rfl) (by kernel_rfl) (by kernel_rfl) (by kernel_rfl) (by kernel_rfl) (fun p28 => ?_)
      refine OJ.ld (d := 32) (T := 5) (y := .tmp 31) (pend2 := fun x29 => []) (by kernel_rfl) (by kernel_rfl) Ty5 (by kernel_rfl) (by kernel_rfl) (fun _ => rfl) (fun x29 => ?_)
      refine OJ.run [9] [] [1, 2, 3, 7, 8, 9] (m2 := [(1, .int .i64 a1), (2, .int .i64 a2), (3, .pointer (some (pt b1 0))), (7, Sl.v s2), (8, .int .i64 s3), (9, .int .u8 x29)]) (by kernel_rfl) (by kernel_rfl) ?_
      refine OJ.nil ?_
      refine SJ.region (id := 8) (by kernel_rfl) [0, 1, 2, 3, 4] (by kernel_rfl) ?_
      refine OJ.run [0, 1] [2, 3, 4] [1, 2, 3, 7, 8, 33, 34] (m2 := [(1, .int .i64 a1), (2, .int .i64 a2), (3, .pointer (some (pt b1 0))), (7, Sl.v s2), (8, .int .i64 s3), (33, Sl.v s2), (34, .int .u8 x29)]) (by kernel_rfl) (by kernel_rfl) ?_
      refine OJ.rowSlot (d := 35) (t := 22) (parts := [(0, .tmp 34)]) (ps := [(0, (cI .u8).val x29)]) (cd := (cI .u8)) (⟨[x29], rfl⟩ : Vec Int 1) (owed := []) (by kernel_rfl) (by kernel_rfl) (by kernel_rfl) Ty5 (by kernel_rfl) (Filled.cons (cd := (cI .u8)) (q := x29) (o := 0) rfl (Upd.arr (i := 0) (by decide) (by decide)) Filled.nil) (by kernel_rfl) (by kernel_rfl) (by kernel_rfl) (fun b30 => ?_)
      refine OW.nil ?_
      refine OJ.appl (d := 36) (t := 22) (u := 22) (so := .tmp 33) (xo := .tmp 35) (j := 0) (b := b30) (l := ((cI .u8).arr 1).enc (⟨[x29], rfl⟩ : Vec Int 1)) (n := 1) (k := 1) [x29] (owed := []) (by kernel_rfl) (by kernel_rfl) (by kernel_rfl) Ty5 (by kernel_rfl) (by kernel_rfl) (by kernel_rfl) (by rfl) (Cod.arr_enc _ _ _) (by rfl) (by kernel_rfl) (by kernel_rfl) (by kernel_rfl) (fun r31 => ?_)
      refine OW.nil ?_
      refine OJ.run [4] [] [1, 2, 3, 7, 8] (m2 := [(1, .int .i64 a1), (2, .int .i64 a2), (3, .pointer (some (pt b1 0))), (7, Sl.v r31), (8, .int .i64 s3)]) (by kernel_rfl) (by kernel_rfl) ?_
      refine OJ.nil ?_
      refine SJ.inBlock ?_
      refine SJ.region (id := 4) (by kernel_rfl) [0, 1, 2] (by kernel_rfl) ?_
      refine OJ.run [0, 1, 2] [] [1, 2, 3, 7, 8] (m2 := [(1, .int .i64 a1), (2, .int .i64 a2), (3, .pointer (some (pt b1 0))), (7, Sl.v r31), (8, .int .i64 (IntKind.wrap .i64 (s3 + 1)))]) (by kernel_rfl) (by kernel_rfl) ?_
      refine OJ.nil ?_
      refine SJ.forget (List.Sublist.cons _ (List.Sublist.cons_cons _ List.Sublist.slnil)) ?_
      exact SJ.at_ [1, 2, 3, 7, 8] rfl (by kernel_rfl)
    · refine SJ.skip (by kernel_rfl) ?_
      refine SJ.region (id := 8) (by kernel_rfl) [0, 1, 2, 3, 4] (by kernel_rfl) ?_
      refine OJ.run [0, 1] [2, 3, 4] [1, 2, 3, 7, 8, 33, 34] (m2 := [(1, .int .i64 a1), (2, .int .i64 a2), (3, .pointer (some (pt b1 0))), (7, Sl.v s2), (8, .int .i64 s3), (33, Sl.v s2), (34, .int .u8 0)]) (by kernel_rfl) (by kernel_rfl) ?_
      refine OJ.rowSlot (d := 35) (t := 22) (parts := [(0, .tmp 34)]) (ps := [(0, (cI .u8).val 0)]) (cd := (cI .u8)) (⟨[0], rfl⟩ : Vec Int 1) (owed := []) (by kernel_rfl) (by kernel_rfl) (by kernel_rfl) Ty5 (by kernel_rfl) (Filled.cons (cd := (cI .u8)) (q := 0) (o := 0) rfl (Upd.arr (i := 0) (by decide) (by decide)) Filled.nil) (by kernel_rfl) (by kernel_rfl) (by kernel_rfl) (fun b32 => ?_)
      refine OW.nil ?_
      refine OJ.appl (d := 36) (t := 22) (u := 22) (so := .tmp 33) (xo := .tmp 35) (j := 0) (b := b32) (l := ((cI .u8).arr 1).enc (⟨[0], rfl⟩ : Vec Int 1)) (n := 1) (k := 1) [0] (owed := []) (by kernel_rfl) (by kernel_rfl) (by kernel_rfl) Ty5 (by kernel_rfl) (by kernel_rfl) (by kernel_rfl) (by rfl) (Cod.arr_enc _ _ _) (by rfl) (by kernel_rfl) (by kernel_rfl) (by kernel_rfl) (fun r33 => ?_)
      refine OW.nil ?_
      refine OJ.run [4] [] [1, 2, 3, 7, 8] (m2 := [(1, .int .i64 a1), (2, .int .i64 a2), (3, .pointer (some (pt b1 0))), (7, Sl.v r33), (8, .int .i64 s3)]) (by kernel_rfl) (by kernel_rfl) ?_
      refine OJ.nil ?_
      refine SJ.inBlock ?_
      refine SJ.region (id := 4) (by kernel_rfl) [0, 1, 2] (by kernel_rfl) ?_
      refine OJ.run [0, 1, 2] [] [1, 2, 3, 7, 8] (m2 := [(1, .int .i64 a1), (2, .int .i64 a2), (3, .pointer (some (pt b1 0))), (7, Sl.v r33), (8, .int .i64 (IntKind.wrap .i64 (s3 + 1)))]) (by kernel_rfl) (by kernel_rfl) ?_
      refine OJ.nil ?_
      refine SJ.forget (List.Sublist.cons _ (List.Sublist.cons_cons _ List.Sublist.slnil)) ?_
      exact SJ.at_ [1, 2, 3, 7, 8] rfl (by kernel_rfl)
  · refine SJ.exit (id := 0) (by kernel_rfl) (by rfl) ?_
    refine SJ.seq (by kernel_rfl) ?_
    refine SJ.region (id := 9) (by kernel_rfl) [0, 1] (by kernel_rfl) ?_
    refine OJ.run [0, 1] [] [6] (m2 := [(6, Sl.v s2)]) (by kernel_rfl) (by kernel_rfl) ?_
    refine OJ.nil ?_
    exact SJ.ret (by kernel_rfl) rfl (Res.run (ys := [Sl.v s2]) (.tmp (by kernel_rfl) .nil) rfl)
noncomputable def weirref3_Bytes (a0 : weirref3_Port) (a1 : Int) (a2 : Int) : M Sl :=
  slot 59 >>= fun b1 =>
  loopM (fun s_ : (Sl × Int) => weirref3_Bytes.L1 a0 a1 a2 s_.1 s_.2) (Sl.nil, 0)
theorem weirref3_Bytes_ok (a0 : weirref3_Port) (a1 : Int) (a2 : Int) : Ref Try.prog 76 [c_weirref3_Port.val a0, .int .i64 a1, .int .i64 a2] (weirref3_Bytes a0 a1 a2) weirref3_Bytes.out := by
  refine Ref.of (cd := weirref3_Bytes.B) Try.func76 (by kernel_rfl) (by kernel_rfl) ?_
  show SJ weirref3_Bytes.cx [.code weirref3_Bytes.B] [(0, c_weirref3_Port.val a0), (1, .int .i64 a1), (2, .int .i64 a2)] [] (weirref3_Bytes a0 a1 a2) weirref3_Bytes.F0
  unfold weirref3_Bytes
  refine SJ.seq (by kernel_rfl) ?_
  refine SJ.region (id := 0) (by kernel_rfl) [0, 1] (by kernel_rfl) ?_
  refine OJ.slotOf (d := 3) (op := (.box 59 (.tmp 0))) (cd := c_weirref3_Port) (u := a0) (owed := []) (by kernel_rfl) (box_run (by kernel_rfl)) (by kernel_rfl) (by kernel_rfl) (by kernel_rfl) (fun b1 => ?_)
  refine OW.nil ?_
  refine OJ.run [1] [] [1, 2, 3] (m2 := [(1, .int .i64 a1), (2, .int .i64 a2), (3, .pointer (some (pt b1 0)))]) (by kernel_rfl) (by kernel_rfl) ?_
  refine OJ.nil ?_
  refine SJ.seq (by kernel_rfl) ?_
  refine SJ.region (id := 1) (by kernel_rfl) [0] (by kernel_rfl) ?_
  refine OJ.run [0] [] [1, 2, 3, 7] (m2 := [(1, .int .i64 a1), (2, .int .i64 a2), (3, .pointer (some (pt b1 0))), (7, Sl.v Sl.nil)]) (by kernel_rfl) (by kernel_rfl) ?_
  refine OJ.nil ?_
  refine SJ.seq (by kernel_rfl) ?_
  refine SJ.seq (by kernel_rfl) ?_
  refine SJ.region (id := 2) (by kernel_rfl) [0] (by kernel_rfl) ?_
  refine OJ.run [0] [] [1, 2, 3, 7, 8] (m2 := [(1, .int .i64 a1), (2, .int .i64 a2), (3, .pointer (some (pt b1 0))), (7, Sl.v Sl.nil), (8, .int .i64 0)]) (by kernel_rfl) (by kernel_rfl) ?_
  refine OJ.nil ?_
  refine SJ.block (id := 0) (by kernel_rfl) ?_
  exact SJ.loop (fun s_ : (Sl × Int) => [(1, .int .i64 a1), (2, .int .i64 a2), (3, .pointer (some (pt b1 0))), (7, Sl.v s_.1), (8, .int .i64 s_.2)]) (fun s_ : (Sl × Int) => [(b1, c_weirref3_Port.enc a0)]) [1, 2, 3, 7, 8] (by kernel_rfl) (by kernel_rfl) rfl (fun _ _ => rfl) (fun s_ => weirref3_Bytes.L1_ok a0 a1 a2 b1 s_.1 s_.2)

/-! ### weir/weirlaw3.right: function 67 -/
noncomputable def weirlaw3_right.B : Code := (Try.f67.body).getD .skip
noncomputable def weirlaw3_right.cx : Fx := ⟨Try.prog, 67, Try.f67⟩
noncomputable def weirlaw3_right.out (r_ : Bool) : Value := .bool r_
noncomputable def weirlaw3_right.F0 (r_ : Bool) : Reach := .ret (weirlaw3_right.out r_)
noncomputable def weirlaw3_right (a0 : weirlaw3_Side) (a1 : Sl) (a2 : Int) (a3 : Int) : M Bool :=
  slot 62 >>= fun b1 =>
  slot 5 >>= fun b2 =>
  appl (cI .u8) 5 1 0 a1 [81, 82, 83] >>= fun r3 =>
  (if (a1.len : Int) = a3 then
      pure ((r3.len : Int) == (IntKind.wrap .i64 (a3 + 3)))
    else
      pure false) >>= fun y4 =>
  (if y4 = true then
      weirref3_Bytes a0.R a2 a3 >>= fun r5 =>
      weirlaw3_alike a1 r5 >>= fun r6 =>
      pure r6
    else
      pure false) >>= fun y7 =>
  pure y7
theorem weirlaw3_right_ok (a0 : weirlaw3_Side) (a1 : Sl) (a2 : Int) (a3 : Int) : Ref Try.prog 67 [c_weirlaw3_Side.val a0, Sl.v a1, .int .i64 a2, .int .i64 a3] (weirlaw3_right a0 a1 a2 a3) weirlaw3_right.out := by
  refine Ref.of (cd := weirlaw3_right.B) Try.func67 (by kernel_rfl) (by kernel_rfl) ?_
  show SJ weirlaw3_right.cx [.code weirlaw3_right.B] [(0, c_weirlaw3_Side.val a0), (1, Sl.v a1), (2, .int .i64 a2), (3, .int .i64 a3)] [] (weirlaw3_right a0 a1 a2 a3) weirlaw3_right.F0
  unfold weirlaw3_right
  refine SJ.seq (by kernel_rfl) ?_
  refine SJ.region (id := 0) (by kernel_rfl) [0, 1] (by kernel_rfl) ?_
  refine OJ.slotOf (d := 4) (op := (.box 62 (.tmp 0))) (cd := c_weirlaw3_Side) (u := a0) (owed := []) (by kernel_rfl) (box_run (by kernel_rfl)) (by kernel_rfl) (by kernel_rfl) (by kernel_rfl) (fun b1 => ?_)
  refine OW.nil ?_
  refine OJ.run [1] [] [1, 2, 3, 4] (m2 := [(1, Sl.v a1), (2, .int .i64 a2), (3, .int .i64 a3), (4, .pointer (some (pt b1 0)))]) (by kernel_rfl) (by kernel_rfl) ?_
  refine OJ.nil ?_
  refine SJ.seq (by kernel_rfl) ?_
  refine SJ.region (id := 1) (by kernel_rfl) [0, 1, 2, 3] (by kernel_rfl) ?_
  refine OJ.run [0] [1, 2, 3] [1, 2, 3, 4, 10] (m2 := [(1, Sl.v a1), (2, .int .i64 a2), (3, .int .i64 a3), (4, .pointer (some (pt b1 0))), (10, Sl.v a1)]) (by kernel_rfl) (by kernel_rfl) ?_
  refine OJ.rowSlot (d := 11) (t := 22) (parts := [(0, .const (.int .u8 81)), (1, .const (.int .u8 82)), (2, .const (.int .u8 83))]) (ps := [(0, (cI .u8).val 81), (1, (cI .u8).val 82), (2, (cI .u8).val 83)]) (cd := (cI .u8)) (⟨[81, 82, 83], rfl⟩ : Vec Int 3) (owed := []) (by kernel_rfl) (by kernel_rfl) (by kernel_rfl) Ty5 (by kernel_rfl) (Filled.cons (cd := (cI .u8)) (q := 81) (o := 0) rfl (Upd.arr (i := 0) (by decide) (by decide)) (Filled.cons (cd := (cI .u8)) (q := 82) (o := 1) rfl (Upd.arr (i := 1) (by decide) (by decide)) (Filled.cons (cd := (cI .u8)) (q := 83) (o := 2) rfl (Upd.arr (i := 2) (by decide) (by decide)) Filled.nil))) (by kernel_rfl) (by kernel_rfl) (by kernel_rfl) (fun b2 => ?_)
  refine OW.nil ?_
  refine OJ.appl (d := 12) (t := 22) (u := 22) (so := .tmp 10) (xo := .tmp 11) (j := 0) (b := b2) (l := ((cI .u8).arr 3).enc (⟨[81, 82, 83], rfl⟩ : Vec Int 3)) (n := 3) (k := 3) [81, 82, 83] (owed := []) (by kernel_rfl) (by kernel_rfl) (by kernel_rfl) Ty5 (by kernel_rfl) (by kernel_rfl) (by kernel_rfl) (by rfl) (Cod.arr_enc _ _ _) (by rfl) (by kernel_rfl) (by kernel_rfl) (by kernel_rfl) (fun r3 => ?_)
  refine OW.nil ?_
  refine OJ.run [3] [] [1, 2, 3, 4, 9] (m2 := [(1, Sl.v a1), (2, .int .i64 a2), (3, .int .i64 a3), (4, .pointer (some (pt b1 0))), (9, Sl.v r3)]) (by kernel_rfl) (by kernel_rfl) ?_
  refine OJ.nil ?_
  refine SJ.seq (by kernel_rfl) ?_
  refine SJ.region (id := 2) (by kernel_rfl) [0, 1, 2, 3, 4, 5, 6, 7, 8, 9, 10, 11, 12, 13, 14, 15, 16, 17, 18, 19, 20] (by kernel_rfl) ?_
  refine OJ.run [0, 1, 2, 3, 4] [5, 6, 7, 8, 9, 10, 11, 12, 13, 14, 15, 16, 17, 18, 19, 20] [1, 2, 3, 4, 9, 17] (m2 := [(1, Sl.v a1), (2, .int .i64 a2), (3, .int .i64 a3), (4, .pointer (some (pt b1 0))), (9, Sl.v r3), (17, .bool ((a1.len : Int) == a3))]) (by kernel_rfl) (by kernel_rfl) ?_
  refine OJ.join (b := ((a1.len : Int) == a3)) [5, 6, 7, 8, 9, 10] [11, 12, 13, 14, 15, 16, 17, 18, 19, 20] [1, 2, 3, 4, 23] (fun y4 => [(1, Sl.v a1), (2, .int .i64 a2), (3, .int .i64 a3), (4, .pointer (some (pt b1 0))), (23, .bool y4)]) [] [] (by kernel_rfl) (t := 17) (by kernel_rfl) beq_iff_eq (fun hp_ => ?_) (fun hp_ => ?_) (by kernel_rfl) (fun _ _ _ _ _ _ h_ => h_) (fun y4 => ?_)
  · refine OJ.run [5, 6, 7, 8, 9, 10] [] [1, 2, 3, 4, 23] (m2 := [(1, Sl.v a1), (2, .int .i64 a2), (3, .int .i64 a3), (4, .pointer (some (pt b1 0))), (23, .bool ((r3.len : Int) == (IntKind.wrap .i64 (a3 + 3))))]) (by kernel_rfl) (by kernel_rfl) ?_
    exact OJ.nil ⟨(Cov.mem Cov.nil), rfl, _, rfl, by kernel_rfl⟩
  · refine OJ.run [5, 6, 7, 8, 9, 10] [] [1, 2, 3, 4, 23] (m2 := [(1, Sl.v a1), (2, .int .i64 a2), (3, .int .i64 a3), (4, .pointer (some (pt b1 0))), (23, .bool false)]) (by kernel_rfl) (by kernel_rfl) ?_
    exact OJ.nil ⟨(Cov.mem Cov.nil), rfl, _, rfl, by kernel_rfl⟩
  · refine OJ.run [11] [12, 13, 14, 15, 16, 17, 18, 19, 20] [1, 2, 3, 4, 24] (m2 := [(1, Sl.v a1), (2, .int .i64 a2), (3, .int .i64 a3), (4, .pointer (some (pt b1 0))), (24, .bool y4)]) (by kernel_rfl) (by kernel_rfl) ?_
    refine OJ.join (b := y4) [12, 13, 14, 15, 16, 17, 18, 19] [20] [32] (fun y7 => [(32, .bool y7)]) [] [] (by kernel_rfl) (t := 24) (by kernel_rfl) Iff.rfl (fun hp_ => ?_) (fun hp_ => ?_) (by kernel_rfl) (fun _ _ _ _ _ _ h_ => h_) (fun y7 => ?_)
    · refine OJ.run [12, 13] [14, 15, 16, 17, 18, 19] [2, 3, 24, 25, 26] (m2 := [(2, .int .i64 a2), (3, .int .i64 a3), (24, .bool true), (25, Sl.v a1), (26, .pointer (some (pt b1 1)))]) (by kernel_rfl) (by kernel_rfl) ?_
      refine OJ.kld (d := 27) (T := 59) (y := .tmp 26) (cd := c_weirref3_Port) (j := 1) (b := b1) (o := 1) a0.R (pend2 := []) (by kernel_rfl) (by kernel_rfl) Ty59 (by kernel_rfl) rfl (At_weirlaw3_Side_R a0) (by kernel_rfl) rfl ?_
      refine OJ.run [15, 16] [17, 18, 19] [24, 25, 27, 28, 29] (m2 := [(24, .bool true), (25, Sl.v a1), (27, c_weirref3_Port.val a0.R), (28, .int .i64 a2), (29, .int .i64 a3)]) (by kernel_rfl) (by kernel_rfl) ?_
      refine OJ.call (d := 30) (g := 76) (ats := #[59, 3, 3]) (args := [.tmp 27, .tmp 28, .tmp 29]) (vals := [c_weirref3_Port.val a0.R, .int .i64 a2, .int .i64 a3]) (owed := []) (by kernel_rfl) F76 (by kernel_rfl) (weirref3_Bytes_ok a0.R a2 a3) (by kernel_rfl) (by kernel_rfl) (by kernel_rfl) (fun r5 => ?_)
      refine OW.nil ?_
      refine OJ.call (d := 31) (g := 19) (ats := #[22, 22]) (args := [.tmp 25, .tmp 30]) (vals := [Sl.v a1, Sl.v r5]) (owed := []) (by kernel_rfl) F19 (by kernel_rfl) (weirlaw3_alike_ok a1 r5) (by kernel_rfl) (by kernel_rfl) (by kernel_rfl) (fun r6 => ?_)
      refine OW.nil ?_
      refine OJ.run [19] [] [32] (m2 := [(32, .bool r6)]) (by kernel_rfl) (by kernel_rfl) ?_
      exact OJ.nil ⟨(Cov.mem Cov.nil), rfl, _, rfl, by kernel_rfl⟩
    · refine OJ.run [12, 13, 14, 15, 16, 17, 18, 19] [] [32] (m2 := [(32, .bool false)]) (by kernel_rfl) (by kernel_rfl) ?_
      exact OJ.nil ⟨(Cov.mem Cov.nil), rfl, _, rfl, by kernel_rfl⟩
    · refine OJ.run [20] [] [8] (m2 := [(8, .bool y7)]) (by kernel_rfl) (by kernel_rfl) ?_
      refine OJ.nil ?_
      exact SJ.ret (by kernel_rfl) rfl (Res.run (ys := [.bool y7]) (.tmp (by kernel_rfl) .nil) rfl)

/-! ### weir/weirref3.Take: function 68 -/
noncomputable def weirref3_Take.B : Code := (Try.f68.body).getD .skip
noncomputable def weirref3_Take.cx : Fx := ⟨Try.prog, 68, Try.f68⟩
noncomputable def weirref3_Take.out (r_ : (weirref3_Port × Int × Int)) : Value := .tuple #[c_weirref3_Port.val r_.1, .int .i64 r_.2.1, .int .i64 r_.2.2]
noncomputable def weirref3_Take.F0 (r_ : (weirref3_Port × Int × Int)) : Reach := .ret (weirref3_Take.out r_)
noncomputable def weirref3_Take (a0 : weirref3_Port) : M (weirref3_Port × Int × Int) :=
  slot 59 >>= fun b1 =>
  slot 59 >>= fun b2 =>
  weirref3_first a0 1 >>= fun r3 =>
  if r3 < 0 then
    pure (a0, 0, 33)
  else
    idx a0.L.a a0.L.len r3 4 >>= fun p4 =>
    ld c_weirref3_Buf p4 >>= fun x5 =>
    slot 110 >>= fun b6 =>
    weirref3_put a0 r3 (⟨x5.Place, x5.Since, x5.N, Sl.nil⟩ : weirref3_Buf) >>= fun r7 =>
    weirref3_moved r7 r3 4 >>= fun r8 =>
    pure (r8, r3, 0)
theorem weirref3_Take_ok (a0 : weirref3_Port) : Ref Try.prog 68 [c_weirref3_Port.val a0] (weirref3_Take a0) weirref3_Take.out := by
  refine Ref.of (cd := weirref3_Take.B) Try.func68 (by kernel_rfl) (by kernel_rfl) ?_
  show SJ weirref3_Take.cx [.code weirref3_Take.B] [(0, c_weirref3_Port.val a0)] [] (weirref3_Take a0) weirref3_Take.F0
  unfold weirref3_Take
  refine SJ.seq (by kernel_rfl) ?_
  refine SJ.region (id := 0) (by kernel_rfl) [0, 1, 2, 3] (by kernel_rfl) ?_
  refine OJ.slotOf (d := 1) (op := (.box 59 (.tmp 0))) (cd := c_weirref3_Port) (u := a0) (owed := []) (by kernel_rfl) (box_run (by kernel_rfl)) (by kernel_rfl) (by kernel_rfl) (by kernel_rfl) (fun b1 => ?_)
  refine OW.nil ?_
  refine OJ.slotOf (d := 2) (op := (.alloc 59)) (cd := c_weirref3_Port) (u := z_weirref3_Port) (owed := []) (by kernel_rfl) (alloc_run Ty59) (by kernel_rfl) (by kernel_rfl) (by kernel_rfl) (fun b2 => ?_)
  refine OW.nil ?_
  refine OJ.run [2, 3] [] [1, 2] (m2 := [(1, .pointer (some (pt b1 0))), (2, .pointer (some (pt b2 0)))]) (by kernel_rfl) (by kernel_rfl) ?_
  refine OJ.nil ?_
  refine SJ.seq (by kernel_rfl) ?_
  refine SJ.region (id := 1) (by kernel_rfl) [0, 1, 2] (by kernel_rfl) ?_
  refine OJ.kld (d := 7) (T := 59) (y := .tmp 1) (cd := c_weirref3_Port) (j := 1) (b := b1) (o := 0) a0 (pend2 := []) (by kernel_rfl) (by kernel_rfl) Ty59 (by kernel_rfl) rfl (At.whole _) (by kernel_rfl) rfl ?_
  refine OJ.call (d := 8) (g := 77) (ats := #[59, 3]) (args := [.tmp 7, .const (.int .i64 1)]) (vals := [c_weirref3_Port.val a0, .int .i64 1]) (owed := []) (by kernel_rfl) F77 (by kernel_rfl) (weirref3_first_ok a0 1) (by kernel_rfl) (by kernel_rfl) (by kernel_rfl) (fun r3 => ?_)
  refine OW.nil ?_
  refine OJ.run [2] [] [1, 2, 5] (m2 := [(1, .pointer (some (pt b1 0))), (2, .pointer (some (pt b2 0))), (5, .int .i64 r3)]) (by kernel_rfl) (by kernel_rfl) ?_
  refine OJ.nil ?_
  refine SJ.seq (by kernel_rfl) ?_
  refine SJ.seq (by kernel_rfl) ?_
  refine SJ.region (id := 2) (by kernel_rfl) [0, 1] (by kernel_rfl) ?_
  refine OJ.run [0, 1] [] [1, 2, 5, 10] (m2 := [(1, .pointer (some (pt b1 0))), (2, .pointer (some (pt b2 0))), (5, .int .i64 r3), (10, .bool (decide (r3 < 0)))]) (by kernel_rfl) (by kernel_rfl) ?_
  refine OJ.nil ?_
  refine SJ.cond (t := (.tmp 10)) (b := decide (r3 < 0)) (by kernel_rfl) (by kernel_rfl) decide_eq_true_iff (fun hc9 => ?_) (fun hc9 => ?_)
  · refine SJ.seq (by kernel_rfl) ?_
    refine SJ.region (id := 3) (by kernel_rfl) [0, 1, 2, 3] (by kernel_rfl) ?_
    refine OJ.kld (d := 11) (T := 59) (y := .tmp 1) (cd := c_weirref3_Port) (j := 1) (b := b1) (o := 0) a0 (pend2 := []) (by kernel_rfl) (by kernel_rfl) Ty59 (by kernel_rfl) rfl (At.whole _) (by kernel_rfl) rfl ?_
    refine OJ.kst (T := 59) (y := .tmp 2) (z := .tmp 11) (cd := c_weirref3_Port) (u := a0) (j := 0) (b := b2) (o := 0) (c_weirref3_Port.enc a0) (h2 := [(b2, c_weirref3_Port.enc a0), (b1, c_weirref3_Port.enc a0)]) (owed := []) (by kernel_rfl) (by kernel_rfl) (by kernel_rfl) Ty59 rfl (Upd.whole ((Cod.len _ _).trans (Cod.len _ _).symm)) (by kernel_rfl) (by kernel_rfl) rfl ?_
    refine OW.nil ?_
    refine OJ.run [2, 3] [] [2, 3, 4] (m2 := [(2, .pointer (some (pt b2 0))), (3, .int .i64 0), (4, .int .i64 33)]) (by kernel_rfl) (by kernel_rfl) ?_
    refine OJ.nil ?_
    exact SJ.ret (by kernel_rfl) rfl (Res.run (ys := [c_weirref3_Port.val a0, .int .i64 0, .int .i64 33]) (.cell (j := 0) (b := b2) (cd := c_weirref3_Port) (q := a0) (by kernel_rfl) rfl Ty59 (At.whole _) (.tmp (by kernel_rfl) (.tmp (by kernel_rfl) .nil))) rfl)
  · refine SJ.skip (by kernel_rfl) ?_
    refine SJ.seq (by kernel_rfl) ?_
    refine SJ.region (id := 4) (by kernel_rfl) [0, 1, 2, 3, 4, 5, 6] (by kernel_rfl) ?_
    refine OJ.run [0] [1, 2, 3, 4, 5, 6] [1, 2, 5, 12] (m2 := [(1, .pointer (some (pt b1 0))), (2, .pointer (some (pt b2 0))), (5, .int .i64 r3), (12, .pointer (some (pt b1 3)))]) (by kernel_rfl) (by kernel_rfl) ?_
    refine OJ.kld (d := 13) (T := 57) (y := .tmp 12) (cd := cL) (j := 1) (b := b1) (o := 3) a0.L (pend2 := []) (by kernel_rfl) (by kernel_rfl) Ty57 (by kernel_rfl) rfl (At_weirref3_Port_L a0) (by kernel_rfl) rfl ?_
    refine OJ.run [2] [3, 4, 5, 6] [1, 2, 5, 13, 14] (m2 := [(1, .pointer (some (pt b1 0))), (2, .pointer (some (pt b2 0))), (5, .int .i64 r3), (13, Sl.v a0.L), (14, .int .i64 r3)]) (by kernel_rfl) (by kernel_rfl) ?_
    refine OJ.idxS (d := 15) (T := 57) (y := .tmp 13) (j := .tmp 14) (E := 110) (cap := a0.L.cap) (k := .i64) (by kernel_rfl) (by kernel_rfl) (by kernel_rfl) (by kernel_rfl) (by kernel_rfl) (by kernel_rfl) (by kernel_rfl) (by kernel_rfl) (fun p4 => ?_)
    refine OJ.ld (d := 16) (T := 110) (y := .tmp 15) (pend2 := fun x5 => []) (by kernel_rfl) (by kernel_rfl) Ty110 (by kernel_rfl) (by kernel_rfl) (fun _ => rfl) (fun x5 => ?_)
    refine OJ.slotOf (d := 6) (op := (.alloc 110)) (cd := c_weirref3_Buf) (u := z_weirref3_Buf) (owed := []) (by kernel_rfl) (alloc_run Ty110) (by kernel_rfl) (by kernel_rfl) (by kernel_rfl) (fun b6 => ?_)
    refine OW.nil ?_
    refine OJ.kst (T := 110) (y := .tmp 6) (z := .tmp 16) (cd := c_weirref3_Buf) (u := x5) (j := 0) (b := b6) (o := 0) (c_weirref3_Buf.enc x5) (h2 := [(b6, c_weirref3_Buf.enc x5), (b2, c_weirref3_Port.enc z_weirref3_Port), (b1, c_weirref3_Port.enc a0)]) (owed := []) (by kernel_rfl) (by kernel_rfl) (by kernel_rfl) Ty110 rfl (Upd.whole ((Cod.len _ _).trans (Cod.len _ _).symm)) (by kernel_rfl) (by kernel_rfl) rfl ?_
    refine OW.nil ?_
    refine OJ.nil ?_
    refine SJ.seq (by kernel_rfl) ?_
    refine SJ.region (id := 5) (by kernel_rfl) [0, 1] (by kernel_rfl) ?_
    refine OJ.run [0] [1] [1, 2, 5, 6, 17] (m2 := [(1, .pointer (some (pt b1 0))), (2, .pointer (some (pt b2 0))), (5, .int .i64 r3), (6, .pointer (some (pt b6 0))), (17, .pointer (some (pt b6 3)))]) (by kernel_rfl) (by kernel_rfl) ?_
    refine OJ.kst (T := 22) (y := .tmp 17) (z := .const (.slice none 0 0)) (cd := cL) (u := Sl.nil) (j := 0) (b := b6) (o := 3) (c_weirref3_Buf.enc (⟨x5.Place, x5.Since, x5.N, Sl.nil⟩ : weirref3_Buf)) (h2 := [(b6, c_weirref3_Buf.enc (⟨x5.Place, x5.Since, x5.N, Sl.nil⟩ : weirref3_Buf)), (b2, c_weirref3_Port.enc z_weirref3_Port), (b1, c_weirref3_Port.enc a0)]) (owed := []) (by kernel_rfl) (by kernel_rfl) (by kernel_rfl) Ty22 rfl (Up_weirref3_Buf_Data x5 Sl.nil) (by kernel_rfl) (by kernel_rfl) rfl ?_
    refine OW.nil ?_
    refine OJ.nil ?_
    refine SJ.seq (by kernel_rfl) ?_
    refine SJ.region (id := 6) (by kernel_rfl) [0, 1, 2, 3, 4] (by kernel_rfl) ?_
    refine OJ.kld (d := 18) (T := 59) (y := .tmp 1) (cd := c_weirref3_Port) (j := 2) (b := b1) (o := 0) a0 (pend2 := []) (by kernel_rfl) (by kernel_rfl) Ty59 (by kernel_rfl) rfl (At.whole _) (by kernel_rfl) rfl ?_
    refine OJ.run [1] [2, 3, 4] [1, 2, 5, 6, 18, 19] (m2 := [(1, .pointer (some (pt b1 0))), (2, .pointer (some (pt b2 0))), (5, .int .i64 r3), (6, .pointer (some (pt b6 0))), (18, c_weirref3_Port.val a0), (19, .int .i64 r3)]) (by kernel_rfl) (by kernel_rfl) ?_
    refine OJ.kld (d := 20) (T := 110) (y := .tmp 6) (cd := c_weirref3_Buf) (j := 0) (b := b6) (o := 0) (⟨x5.Place, x5.Since, x5.N, Sl.nil⟩ : weirref3_Buf) (pend2 := []) (by kernel_rfl) (by kernel_rfl) Ty110 (by kernel_rfl) rfl (At.whole _) (by kernel_rfl) rfl ?_
    refine OJ.call (d := 21) (g := 79) (ats := #[59, 3, 110]) (args := [.tmp 18, .tmp 19, .tmp 20]) (vals := [c_weirref3_Port.val a0, .int .i64 r3, c_weirref3_Buf.val (⟨x5.Place, x5.Since, x5.N, Sl.nil⟩ : weirref3_Buf)]) (owed := []) (by kernel_rfl) F79 (by kernel_rfl) (weirref3_put_ok a0 r3 (⟨x5.Place, x5.Since, x5.N, Sl.nil⟩ : weirref3_Buf)) (by kernel_rfl) (by kernel_rfl) (by kernel_rfl) (fun r7 => ?_)
    refine OW.nil ?_
    refine OJ.kst (T := 59) (y := .tmp 1) (z := .tmp 21) (cd := c_weirref3_Port) (u := r7) (j := 2) (b := b1) (o := 0) (c_weirref3_Port.enc r7) (h2 := [(b6, c_weirref3_Buf.enc (⟨x5.Place, x5.Since, x5.N, Sl.nil⟩ : weirref3_Buf)), (b2, c_weirref3_Port.enc z_weirref3_Port), (b1, c_weirref3_Port.enc r7)]) (owed := []) (by kernel_rfl) (by kernel_rfl) (by kernel_rfl) Ty59 rfl (Upd.whole ((Cod.len _ _).trans (Cod.len _ _).symm)) (by kernel_rfl) (by kernel_rfl) rfl ?_
    refine OW.nil ?_
    refine OJ.nil ?_
    refine SJ.seq (by kernel_rfl) ?_
    refine SJ.region (id := 7) (by kernel_rfl) [0, 1, 2, 3, 4, 5, 6] (by kernel_rfl) ?_
    refine OJ.kld (d := 22) (T := 59) (y := .tmp 1) (cd := c_weirref3_Port) (j := 2) (b := b1) (o := 0) r7 (pend2 := []) (by kernel_rfl) (by kernel_rfl) Ty59 (by kernel_rfl) rfl (At.whole _) (by kernel_rfl) rfl ?_
    refine OJ.run [1] [2, 3, 4, 5, 6] [2, 5, 22, 23] (m2 := [(2, .pointer (some (pt b2 0))), (5, .int .i64 r3), (22, c_weirref3_Port.val r7), (23, .int .i64 r3)]) (by kernel_rfl) (by kernel_rfl) ?_
    refine OJ.call (d := 24) (g := 80) (ats := #[59, 3, 3]) (args := [.tmp 22, .tmp 23, .const (.int .i64 4)]) (vals := [c_weirref3_Port.val r7, .int .i64 r3, .int .i64 4]) (owed := []) (by kernel_rfl) F80 (by kernel_rfl) (weirref3_moved_ok r7 r3 4) (by kernel_rfl) (by kernel_rfl) (by kernel_rfl) (fun r8 => ?_)
    refine OW.nil ?_
    refine OJ.run [3] [4, 5, 6] [2, 24, 25] (m2 := [(2, .pointer (some (pt b2 0))), (24, c_weirref3_Port.val r8), (25, .int .i64 r3)]) (by kernel_rfl) (by kernel_rfl) ?_
    refine OJ.kst (T := 59) (y := .tmp 2) (z := .tmp 24) (cd := c_weirref3_Port) (u := r8) (j := 1) (b := b2) (o := 0) (c_weirref3_Port.enc r8) (h2 := [(b6, c_weirref3_Buf.enc (⟨x5.Place, x5.Since, x5.N, Sl.nil⟩ : weirref3_Buf)), (b2, c_weirref3_Port.enc r8), (b1, c_weirref3_Port.enc r7)]) (owed := []) (by kernel_rfl) (by kernel_rfl) (by kernel_rfl) Ty59 rfl (Upd.whole ((Cod.len _ _).trans (Cod.len _ _).symm)) (by kernel_rfl) (by kernel_rfl) rfl ?_
    refine OW.nil ?_
    refine OJ.run [5, 6] [] [2, 3, 4] (m2 := [(2, .pointer (some (pt b2 0))), (3, .int .i64 r3), (4, .int .i64 0)]) (by kernel_rfl) (by kernel_rfl) ?_
    refine OJ.nil ?_
    exact SJ.ret (by kernel_rfl) rfl (Res.run (ys := [c_weirref3_Port.val r8, .int .i64 r3, .int .i64 0]) (.cell (j := 1) (b := b2) (cd := c_weirref3_Port) (q := r8) (by kernel_rfl) rfl Ty59 (At.whole _) (.tmp (by kernel_rfl) (.tmp (by kernel_rfl) .nil))) rfl)

/-! ### weir/weirref3.Buffer: function 69 -/
noncomputable def weirref3_Buffer.B : Code := (Try.f69.body).getD .skip
noncomputable def weirref3_Buffer.cx : Fx := ⟨Try.prog, 69, Try.f69⟩
noncomputable def weirref3_Buffer.out (r_ : Int) : Value := .int .i64 r_
noncomputable def weirref3_Buffer.F0 (r_ : Int) : Reach := .ret (weirref3_Buffer.out r_)
noncomputable def weirref3_Buffer (a0 : weirref3_Port) (a1 : Int) : M Int :=
  slot 59 >>= fun b1 =>
  weirref3_out a1 0 (IntKind.wrap .i64 ((a0.L.len : Int) - 1)) >>= fun r2 =>
  if r2 = true then
    pure 1
  else
    idx a0.L.a a0.L.len a1 4 >>= fun p3 =>
    ld (cI .i64) p3 >>= fun x4 =>
    if x4 ≠ 4 then
      pure 34
    else
      pure 0
theorem weirref3_Buffer_ok (a0 : weirref3_Port) (a1 : Int) : Ref Try.prog 69 [c_weirref3_Port.val a0, .int .i64 a1] (weirref3_Buffer a0 a1) weirref3_Buffer.out := by
  refine Ref.of (cd := weirref3_Buffer.B) Try.func69 (by kernel_rfl) (by kernel_rfl) ?_
  show SJ weirref3_Buffer.cx [.code weirref3_Buffer.B] [(0, c_weirref3_Port.val a0), (1, .int .i64 a1)] [] (weirref3_Buffer a0 a1) weirref3_Buffer.F0
  unfold weirref3_Buffer
  refine SJ.seq (by kernel_rfl) ?_
  refine SJ.region (id := 0) (by kernel_rfl) [0, 1] (by kernel_rfl) ?_
  refine OJ.slotOf (d := 2) (op := (.box 59 (.tmp 0))) (cd := c_weirref3_Port) (u := a0) (owed := []) (by kernel_rfl) (box_run (by kernel_rfl)) (by kernel_rfl) (by kernel_rfl) (by kernel_rfl) (fun b1 => ?_)
  refine OW.nil ?_
  refine OJ.run [1] [] [1, 2] (m2 := [(1, .int .i64 a1), (2, .pointer (some (pt b1 0)))]) (by kernel_rfl) (by kernel_rfl) ?_
  refine OJ.nil ?_
  refine SJ.seq (by kernel_rfl) ?_
  refine SJ.seq (by kernel_rfl) ?_
  refine SJ.region (id := 1) (by kernel_rfl) [0, 1, 2, 3, 4, 5] (by kernel_rfl) ?_
  refine OJ.run [0, 1] [2, 3, 4, 5] [1, 2, 5, 6] (m2 := [(1, .int .i64 a1), (2, .pointer (some (pt b1 0))), (5, .int .i64 a1), (6, .pointer (some (pt b1 3)))]) (by kernel_rfl) (by kernel_rfl) ?_
  refine OJ.kld (d := 7) (T := 57) (y := .tmp 6) (cd := cL) (j := 0) (b := b1) (o := 3) a0.L (pend2 := []) (by kernel_rfl) (by kernel_rfl) Ty57 (by kernel_rfl) rfl (At_weirref3_Port_L a0) (by kernel_rfl) rfl ?_
  refine OJ.run [3, 4] [5] [1, 2, 5, 9] (m2 := [(1, .int .i64 a1), (2, .pointer (some (pt b1 0))), (5, .int .i64 a1), (9, .int .i64 (IntKind.wrap .i64 ((a0.L.len : Int) - 1)))]) (by kernel_rfl) (by kernel_rfl) ?_
  refine OJ.call (d := 10) (g := 62) (ats := #[3, 3, 3]) (args := [.tmp 5, .const (.int .i64 0), .tmp 9]) (vals := [.int .i64 a1, .int .i64 0, .int .i64 (IntKind.wrap .i64 ((a0.L.len : Int) - 1))]) (owed := []) (by kernel_rfl) F62 (by kernel_rfl) (weirref3_out_ok a1 0 (IntKind.wrap .i64 ((a0.L.len : Int) - 1))) (by kernel_rfl) (by kernel_rfl) (by kernel_rfl) (fun r2 => ?_)
  refine OW.nil ?_
  refine OJ.nil ?_
  refine SJ.cond (t := (.tmp 10)) (b := r2) (by kernel_rfl) (by kernel_rfl) Iff.rfl (fun hc6 => ?_) (fun hc6 => ?_)
  · refine SJ.seq (by kernel_rfl) ?_
    refine SJ.region (id := 2) (by kernel_rfl) [0] (by kernel_rfl) ?_
    refine OJ.run [0] [] [4] (m2 := [(4, .int .i64 1)]) (by kernel_rfl) (by kernel_rfl) ?_
    refine OJ.nil ?_
    exact SJ.ret (by kernel_rfl) rfl (Res.run (ys := [.int .i64 1]) (.tmp (by kernel_rfl) .nil) rfl)
  · refine SJ.skip (by kernel_rfl) ?_
    refine SJ.seq (by kernel_rfl) ?_
    refine SJ.seq (by kernel_rfl) ?_
    refine SJ.region (id := 3) (by kernel_rfl) [0, 1, 2, 3, 4, 5, 6] (by kernel_rfl) ?_
    refine OJ.run [0] [1, 2, 3, 4, 5, 6] [1, 11] (m2 := [(1, .int .i64 a1), (11, .pointer (some (pt b1 3)))]) (by kernel_rfl) (by kernel_rfl) ?_
    refine OJ.kld (d := 12) (T := 57) (y := .tmp 11) (cd := cL) (j := 0) (b := b1) (o := 3) a0.L (pend2 := []) (by kernel_rfl) (by kernel_rfl) Ty57 (by kernel_rfl) rfl (At_weirref3_Port_L a0) (by kernel_rfl) rfl ?_
    refine OJ.run [2] [3, 4, 5, 6] [12, 13] (m2 := [(12, Sl.v a0.L), (13, .int .i64 a1)]) (by kernel_rfl) (by kernel_rfl) ?_
    refine OJ.idxS (d := 14) (T := 57) (y := .tmp 12) (j := .tmp 13) (E := 110) (cap := a0.L.cap) (k := .i64) (by kernel_rfl) (by kernel_rfl) (by kernel_rfl) (by kernel_rfl) (by kernel_rfl) (by kernel_rfl) (by kernel_rfl) (by kernel_rfl) (fun p3 => ?_)
    refine OJ.run [4] [5, 6] [15] (m2 := [(15, .pointer (some p3))]) (by kernel_rfl) (by kernel_rfl) ?_
    refine OJ.ld (d := 16) (T := 3) (y := .tmp 15) (pend2 := fun x4 => []) (by kernel_rfl) (by kernel_rfl) Ty3 (by kernel_rfl) (by kernel_rfl) (fun _ => rfl) (fun x4 => ?_)
    refine OJ.run [6] [] [17] (m2 := [(17, .bool (x4 != 4))]) (by kernel_rfl) (by kernel_rfl) ?_
    refine OJ.nil ?_
    refine SJ.cond (t := (.tmp 17)) (b := (x4 != 4)) (by kernel_rfl) (by kernel_rfl) bne_iff_ne (fun hc5 => ?_) (fun hc5 => ?_)
    · refine SJ.seq (by kernel_rfl) ?_
      refine SJ.region (id := 4) (by kernel_rfl) [0] (by kernel_rfl) ?_
      refine OJ.run [0] [] [4] (m2 := [(4, .int .i64 34)]) (by kernel_rfl) (by kernel_rfl) ?_
      refine OJ.nil ?_
      exact SJ.ret (by kernel_rfl) rfl (Res.run (ys := [.int .i64 34]) (.tmp (by kernel_rfl) .nil) rfl)
    · refine SJ.skip (by kernel_rfl) ?_
      refine SJ.seq (by kernel_rfl) ?_
      refine SJ.region (id := 5) (by kernel_rfl) [0] (by kernel_rfl) ?_
      refine OJ.run [0] [] [4] (m2 := [(4, .int .i64 0)]) (by kernel_rfl) (by kernel_rfl) ?_
      refine OJ.nil ?_
      exact SJ.ret (by kernel_rfl) rfl (Res.run (ys := [.int .i64 0]) (.tmp (by kernel_rfl) .nil) rfl)

/-! ### weir/weirlaw3.answered: function 58 -/
noncomputable def weirlaw3_answered.B : Code := (Try.f58.body).getD .skip
noncomputable def weirlaw3_answered.cx : Fx := ⟨Try.prog, 58, Try.f58⟩
noncomputable def weirlaw3_answered.out (r_ : (weirlaw3_Side × Bool)) : Value := .tuple #[c_weirlaw3_Side.val r_.1, .bool r_.2]
noncomputable def weirlaw3_answered.F0 (r_ : (weirlaw3_Side × Bool)) : Reach := .ret (weirlaw3_answered.out r_)
noncomputable def weirlaw3_answered (a0 : weirlaw3_Side) (a1 : weirlaw3_Op) : M (weirlaw3_Side × Bool) :=
  slot 62 >>= fun b1 =>
  slot 45 >>= fun b2 =>
  slot 62 >>= fun b3 =>
  if a1.Kind = 3 then
    ring_Port_Poll a0.P >>= fun r50 =>
    weirref3_Poll a0.R >>= fun r51 =>
    slot 59 >>= fun b52 =>
    (if ¬ (r51.2.2.2 = true) then
        pure true
      else
        pure (!r50.2.2)) >>= fun y53 =>
    if y53 = true then
      (if r50.2.2 = r51.2.2.2 then
          pure (r50.1 == 0)
        else
          pure false) >>= fun y56 =>
      (if y56 = true then
          pure ((r50.2.1.len : Int) == 0)
        else
          pure false) >>= fun y57 =>
      pure ((⟨a0.P, r51.1, a0.W⟩ : weirlaw3_Side), y57)
    else
      if r50.1 ≠ r51.2.1 then
        pure ((⟨a0.P, r51.1, a0.W⟩ : weirlaw3_Side), false)
      else
        slot 116 >>= fun b58 =>
        appl c_weirlaw3_Win 116 32 z_weirlaw3_Win a0.W [(⟨r50.2.1, r50.1⟩ : weirlaw3_Win)] >>= fun r59 =>
        draw >>= fun _ =>
        weirlaw3_right (⟨a0.P, r51.1, r59⟩ : weirlaw3_Side) r50.2.1 r50.1 r51.2.2.1 >>= fun r60 =>
        pure ((⟨a0.P, r51.1, r59⟩ : weirlaw3_Side), r60)
  else
    if a1.Kind = 4 then
      ring_Port_Take a0.P >>= fun r79 =>
      weirref3_Take a0.R >>= fun r80 =>
      slot 59 >>= fun b81 =>
      weirlaw3_num r79.2.2 >>= fun r82 =>
      (if r82 ≠ 0 then
          pure true
        else
          pure (r80.2.2 != 0)) >>= fun y83 =>
      if y83 = true then
        draw >>= fun _ =>
        weirlaw3_num r79.2.2 >>= fun r87 =>
        (if r87 = r80.2.2 then
            pure (r79.1 == 0)
          else
            pure false) >>= fun y88 =>
        (if y88 = true then
            pure ((r79.2.1.len : Int) == 0)
          else
            pure false) >>= fun y89 =>
        pure ((⟨a0.P, r80.1, a0.W⟩ : weirlaw3_Side), y89)
      else
        if r79.1 ≠ r80.2.1 then
          pure ((⟨a0.P, r80.1, a0.W⟩ : weirlaw3_Side), false)
        else
          slot 116 >>= fun b90 =>
          appl c_weirlaw3_Win 116 32 z_weirlaw3_Win a0.W [(⟨r79.2.1, r79.1⟩ : weirlaw3_Win)] >>= fun r91 =>
          draw >>= fun _ =>
          weirlaw3_right (⟨a0.P, r80.1, r91⟩ : weirlaw3_Side) r79.2.1 r79.1 r80.1.Size >>= fun r92 =>
          pure ((⟨a0.P, r80.1, r91⟩ : weirlaw3_Side), r92)
    else
      ring_Port_Buffer a0.P a1.I >>= fun r95 =>
      weirref3_Buffer a0.R a1.I >>= fun r96 =>
      weirlaw3_num r95.2 >>= fun r97 =>
      (if r97 ≠ r96 then
          pure true
        else
          pure (r96 != 0)) >>= fun y98 =>
      if y98 = true then
        draw >>= fun _ =>
        weirlaw3_num r95.2 >>= fun r101 =>
        (if r101 = r96 then
            pure ((r95.1.len : Int) == 0)
          else
            pure false) >>= fun y102 =>
        pure (a0, y102)
      else
        slot 116 >>= fun b103 =>
        appl c_weirlaw3_Win 116 32 z_weirlaw3_Win a0.W [(⟨r95.1, a1.I⟩ : weirlaw3_Win)] >>= fun r104 =>
        draw >>= fun _ =>
        weirlaw3_right (⟨a0.P, a0.R, r104⟩ : weirlaw3_Side) r95.1 a1.I a0.R.Size >>= fun r105 =>
        pure ((⟨a0.P, a0.R, r104⟩ : weirlaw3_Side), r105)
theorem weirlaw3_answered_ok (a0 : weirlaw3_Side) (a1 : weirlaw3_Op) : Ref Try.prog 58 [c_weirlaw3_Side.val a0, c_weirlaw3_Op.val a1] (weirlaw3_answered a0 a1) weirlaw3_answered.out := by
  refine Ref.of (cd := weirlaw3_answered.B) Try.func58 (by kernel_rfl) (by kernel_rfl) ?_
  show SJ weirlaw3_answered.cx [.code weirlaw3_answered.B] [(0, c_weirlaw3_Side.val a0), (1, c_weirlaw3_Op.val a1)] [] (weirlaw3_answered a0 a1) weirlaw3_answered.F0
  unfold weirlaw3_answered
  refine SJ.seq (by kernel_rfl) ?_
  refine SJ.region (id := 0) (by kernel_rfl) [0, 1, 2, 3] (by kernel_rfl) ?_
  refine OJ.slotOf (d := 2) (op := (.box 62 (.tmp 0))) (cd := c_weirlaw3_Side) (u := a0) (owed := []) (by kernel_rfl) (box_run (by kernel_rfl)) (by kernel_rfl) (by kernel_rfl) (by kernel_rfl) (fun b1 => ?_)
  refine OW.nil ?_
  refine OJ.slotOf (d := 3) (op := (.box 45 (.tmp 1))) (cd := c_weirlaw3_Op) (u := a1) (owed := []) (by kernel_rfl) (box_run (by kernel_rfl)) (by kernel_rfl) (by kernel_rfl) (by kernel_rfl) (fun b2 => ?_)
  refine OW.nil ?_
  refine OJ.slotOf (d := 4) (op := (.alloc 62)) (cd := c_weirlaw3_Side) (u := z_weirlaw3_Side) (owed := []) (by kernel_rfl) (alloc_run Ty62) (by kernel_rfl) (by kernel_rfl) (by kernel_rfl) (fun b3 => ?_)
  refine OW.nil ?_
  refine OJ.run [3] [] [2, 3, 4] (m2 := [(2, .pointer (some (pt b1 0))), (3, .pointer (some (pt b2 0))), (4, .pointer (some (pt b3 0)))]) (by kernel_rfl) (by kernel_rfl) ?_
  refine OJ.nil ?_
  refine SJ.seq (by kernel_rfl) ?_
  refine SJ.seq (by kernel_rfl) ?_
  refine SJ.region (id := 1) (by kernel_rfl) [0, 1] (by kernel_rfl) ?_
  refine OJ.run [0] [1] [2, 3, 4, 22] (m2 := [(2, .pointer (some (pt b1 0))), (3, .pointer (some (pt b2 0))), (4, .pointer (some (pt b3 0))), (22, .pointer (some (pt b2 0)))]) (by kernel_rfl) (by kernel_rfl) ?_
  refine OJ.kld (d := 23) (T := 3) (y := .tmp 22) (cd := (cI .i64)) (j := 1) (b := b2) (o := 0) a1.Kind (pend2 := []) (by kernel_rfl) (by kernel_rfl) Ty3 (by kernel_rfl) rfl (At_weirlaw3_Op_Kind a1) (by kernel_rfl) rfl ?_
  refine OJ.nil ?_
  refine SJ.block (id := 0) (by kernel_rfl) ?_
  refine SJ.seq (by kernel_rfl) ?_
  refine SJ.region (id := 2) (by kernel_rfl) [0, 1] (by kernel_rfl) ?_
  refine OJ.run [0, 1] [] [2, 3, 4, 23, 24] (m2 := [(2, .pointer (some (pt b1 0))), (3, .pointer (some (pt b2 0))), (4, .pointer (some (pt b3 0))), (23, .int .i64 a1.Kind), (24, .bool (a1.Kind == 3))]) (by kernel_rfl) (by kernel_rfl) ?_
  refine OJ.nil ?_
  refine SJ.cond (t := (.tmp 24)) (b := (a1.Kind == 3)) (by kernel_rfl) (by kernel_rfl) beq_iff_eq (fun hc108 => ?_) (fun hc108 => ?_)
  · refine SJ.seq (by kernel_rfl) ?_
    refine SJ.region (id := 3) (by kernel_rfl) [0, 1, 2, 3, 4, 5, 6, 7, 8, 9] (by kernel_rfl) ?_
    refine OJ.run [0] [1, 2, 3, 4, 5, 6, 7, 8, 9] [2, 4, 27] (m2 := [(2, .pointer (some (pt b1 0))), (4, .pointer (some (pt b3 0))), (27, .pointer (some (pt b1 0)))]) (by kernel_rfl) (by kernel_rfl) ?_
    refine OJ.kld (d := 28) (T := 23) (y := .tmp 27) (cd := cP) (j := 2) (b := b1) (o := 0) a0.P (pend2 := []) (by kernel_rfl) (by kernel_rfl) Ty23 (by kernel_rfl) rfl (At_weirlaw3_Side_P a0) (by kernel_rfl) rfl ?_
    refine OJ.call (d := 29) (g := 17) (ats := #[23]) (args := [.tmp 28]) (vals := [.pointer a0.P]) (owed := []) (by kernel_rfl) F17 (by kernel_rfl) (ring_Port_Poll_ok a0.P) (by kernel_rfl) (by kernel_rfl) (by kernel_rfl) (fun r50 => ?_)
    refine OW.nil ?_
    refine OJ.run [3, 4, 5, 6, 7, 8, 9] [] [2, 4, 6, 7, 8] (m2 := [(2, .pointer (some (pt b1 0))), (4, .pointer (some (pt b3 0))), (6, .int .i64 r50.1), (7, Sl.v r50.2.1), (8, .bool r50.2.2)]) (by kernel_rfl) (by kernel_rfl) ?_
    refine OJ.nil ?_
    refine SJ.seq (by kernel_rfl) ?_
    refine SJ.region (id := 4) (by kernel_rfl) [0, 1, 2, 3, 4, 5, 6, 7, 8, 9, 10, 11, 12] (by kernel_rfl) ?_
    refine OJ.run [0] [1, 2, 3, 4, 5, 6, 7, 8, 9, 10, 11, 12] [2, 4, 6, 7, 8, 34] (m2 := [(2, .pointer (some (pt b1 0))), (4, .pointer (some (pt b3 0))), (6, .int .i64 r50.1), (7, Sl.v r50.2.1), (8, .bool r50.2.2), (34, .pointer (some (pt b1 1)))]) (by kernel_rfl) (by kernel_rfl) ?_
    refine OJ.kld (d := 35) (T := 59) (y := .tmp 34) (cd := c_weirref3_Port) (j := 2) (b := b1) (o := 1) a0.R (pend2 := []) (by kernel_rfl) (by kernel_rfl) Ty59 (by kernel_rfl) rfl (At_weirlaw3_Side_R a0) (by kernel_rfl) rfl ?_
    refine OJ.call (d := 36) (g := 66) (ats := #[59]) (args := [.tmp 35]) (vals := [c_weirref3_Port.val a0.R]) (owed := []) (by kernel_rfl) F66 (by kernel_rfl) (weirref3_Poll_ok a0.R) (by kernel_rfl) (by kernel_rfl) (by kernel_rfl) (fun r51 => ?_)
    refine OW.nil ?_
    refine OJ.run [3, 4, 5, 6, 7] [8, 9, 10, 11, 12] [2, 4, 6, 7, 8, 37, 38, 39, 40] (m2 := [(2, .pointer (some (pt b1 0))), (4, .pointer (some (pt b3 0))), (6, .int .i64 r50.1), (7, Sl.v r50.2.1), (8, .bool r50.2.2), (37, c_weirref3_Port.val r51.1), (38, .int .i64 r51.2.1), (39, .int .i64 r51.2.2.1), (40, .bool r51.2.2.2)]) (by kernel_rfl) (by kernel_rfl) ?_
    refine OJ.slotOf (d := 9) (op := (.alloc 59)) (cd := c_weirref3_Port) (u := z_weirref3_Port) (owed := []) (by kernel_rfl) (alloc_run Ty59) (by kernel_rfl) (by kernel_rfl) (by kernel_rfl) (fun b52 => ?_)
    refine OW.nil ?_
    refine OJ.kst (T := 59) (y := .tmp 9) (z := .tmp 37) (cd := c_weirref3_Port) (u := r51.1) (j := 0) (b := b52) (o := 0) (c_weirref3_Port.enc r51.1) (h2 := [(b52, c_weirref3_Port.enc r51.1), (b3, c_weirlaw3_Side.enc z_weirlaw3_Side), (b2, c_weirlaw3_Op.enc a1), (b1, c_weirlaw3_Side.enc a0)]) (owed := []) (by kernel_rfl) (by kernel_rfl) (by kernel_rfl) Ty59 rfl (Upd.whole ((Cod.len _ _).trans (Cod.len _ _).symm)) (by kernel_rfl) (by kernel_rfl) rfl ?_
    refine OW.nil ?_
    refine OJ.run [10, 11, 12] [] [2, 4, 6, 7, 8, 9, 10, 11, 12] (m2 := [(2, .pointer (some (pt b1 0))), (4, .pointer (some (pt b3 0))), (6, .int .i64 r50.1), (7, Sl.v r50.2.1), (8, .bool r50.2.2), (9, .pointer (some (pt b52 0))), (10, .int .i64 r51.2.1), (11, .int .i64 r51.2.2.1), (12, .bool r51.2.2.2)]) (by kernel_rfl) (by kernel_rfl) ?_
    refine OJ.nil ?_
    refine SJ.seq (by kernel_rfl) ?_
    refine SJ.region (id := 5) (by kernel_rfl) [0, 1, 2] (by kernel_rfl) ?_
    refine OJ.kld (d := 41) (T := 59) (y := .tmp 9) (cd := c_weirref3_Port) (j := 0) (b := b52) (o := 0) r51.1 (pend2 := []) (by kernel_rfl) (by kernel_rfl) Ty59 (by kernel_rfl) rfl (At.whole _) (by kernel_rfl) rfl ?_
    refine OJ.run [1] [2] [2, 4, 6, 7, 8, 10, 11, 12, 41, 42] (m2 := [(2, .pointer (some (pt b1 0))), (4, .pointer (some (pt b3 0))), (6, .int .i64 r50.1), (7, Sl.v r50.2.1), (8, .bool r50.2.2), (10, .int .i64 r51.2.1), (11, .int .i64 r51.2.2.1), (12, .bool r51.2.2.2), (41, c_weirref3_Port.val r51.1), (42, .pointer (some (pt b1 1)))]) (by kernel_rfl) (by kernel_rfl) ?_
    refine OJ.kst (T := 59) (y := .tmp 42) (z := .tmp 41) (cd := c_weirref3_Port) (u := r51.1) (j := 3) (b := b1) (o := 1) (c_weirlaw3_Side.enc (⟨a0.P, r51.1, a0.W⟩ : weirlaw3_Side)) (h2 := [(b52, c_weirref3_Port.enc r51.1), (b3, c_weirlaw3_Side.enc z_weirlaw3_Side), (b2, c_weirlaw3_Op.enc a1), (b1, c_weirlaw3_Side.enc (⟨a0.P, r51.1, a0.W⟩ : weirlaw3_Side))]) (owed := []) (by kernel_rfl) (by kernel_rfl) (by kernel_rfl) Ty59 rfl (Up_weirlaw3_Side_R a0 r51.1) (by kernel_rfl) (by kernel_rfl) rfl ?_
    refine OW.nil ?_
    refine OJ.nil ?_
    refine SJ.seq (by kernel_rfl) ?_
    refine SJ.seq (by kernel_rfl) ?_
    refine SJ.region (id := 6) (by kernel_rfl) [0, 1, 2, 3, 4, 5] (by kernel_rfl) ?_
    refine OJ.run [0, 1, 2] [3, 4, 5] [2, 4, 6, 7, 8, 10, 11, 12, 45] (m2 := [(2, .pointer (some (pt b1 0))), (4, .pointer (some (pt b3 0))), (6, .int .i64 r50.1), (7, Sl.v r50.2.1), (8, .bool r50.2.2), (10, .int .i64 r51.2.1), (11, .int .i64 r51.2.2.1), (12, .bool r51.2.2.2), (45, .bool (!r51.2.2.2))]) (by kernel_rfl) (by kernel_rfl) ?_
    refine OJ.join (b := (!r51.2.2.2)) [3, 4, 5] [] [2, 4, 6, 7, 8, 10, 11, 12, 48] (fun y53 => [(2, .pointer (some (pt b1 0))), (4, .pointer (some (pt b3 0))), (6, .int .i64 r50.1), (7, Sl.v r50.2.1), (8, .bool r50.2.2), (10, .int .i64 r51.2.1), (11, .int .i64 r51.2.2.1), (12, .bool r51.2.2.2), (48, .bool y53)]) [] [] (by kernel_rfl) (t := 45) (by kernel_rfl) (bnot_iff Iff.rfl) (fun hp_ => ?_) (fun hp_ => ?_) (by kernel_rfl) (fun _ _ _ _ _ _ h_ => h_) (fun y53 => ?_)
    · refine OJ.run [3, 4, 5] [] [2, 4, 6, 7, 8, 10, 11, 12, 48] (m2 := [(2, .pointer (some (pt b1 0))), (4, .pointer (some (pt b3 0))), (6, .int .i64 r50.1), (7, Sl.v r50.2.1), (8, .bool r50.2.2), (10, .int .i64 r51.2.1), (11, .int .i64 r51.2.2.1), (12, .bool r51.2.2.2), (48, .bool true)]) (by kernel_rfl) (by kernel_rfl) ?_
      exact OJ.nil ⟨(Cov.mem Cov.nil), rfl, _, rfl, by kernel_rfl⟩
    · refine OJ.run [3, 4, 5] [] [2, 4, 6, 7, 8, 10, 11, 12, 48] (m2 := [(2, .pointer (some (pt b1 0))), (4, .pointer (some (pt b3 0))), (6, .int .i64 r50.1), (7, Sl.v r50.2.1), (8, .bool r50.2.2), (10, .int .i64 r51.2.1), (11, .int .i64 r51.2.2.1), (12, .bool r51.2.2.2), (48, .bool (!r50.2.2))]) (by kernel_rfl) (by kernel_rfl) ?_
      exact OJ.nil ⟨(Cov.mem Cov.nil), rfl, _, rfl, by kernel_rfl⟩
    · refine OJ.nil ?_
      refine SJ.cond (t := (.tmp 48)) (b := y53) (by kernel_rfl) (by kernel_rfl) Iff.rfl (fun hc62 => ?_) (fun hc62 => ?_)
      · refine SJ.seq (by kernel_rfl) ?_
        refine SJ.region (id := 7) (by kernel_rfl) [0, 1, 2, 3, 4, 5, 6, 7, 8, 9, 10, 11, 12, 13, 14] (by kernel_rfl) ?_
        refine OJ.kld (d := 49) (T := 62) (y := .tmp 2) (cd := c_weirlaw3_Side) (j := 3) (b := b1) (o := 0) (⟨a0.P, r51.1, a0.W⟩ : weirlaw3_Side) (pend2 := []) (by kernel_rfl) (by kernel_rfl) Ty62 (by kernel_rfl) rfl (At.whole _) (by kernel_rfl) rfl ?_
        refine OJ.run [1, 2, 3, 4] [5, 6, 7, 8, 9, 10, 11, 12, 13, 14] [4, 6, 7, 49, 53] (m2 := [(4, .pointer (some (pt b3 0))), (6, .int .i64 r50.1), (7, Sl.v r50.2.1), (49, c_weirlaw3_Side.val (⟨a0.P, r51.1, a0.W⟩ : weirlaw3_Side)), (53, .bool (r50.2.2 == r51.2.2.2))]) (by kernel_rfl) (by kernel_rfl) ?_
        refine OJ.join (b := (r50.2.2 == r51.2.2.2)) [5, 6, 7] [8, 9, 10, 11, 12, 13, 14] [4, 7, 49, 56] (fun y56 => [(4, .pointer (some (pt b3 0))), (7, Sl.v r50.2.1), (49, c_weirlaw3_Side.val (⟨a0.P, r51.1, a0.W⟩ : weirlaw3_Side)), (56, .bool y56)]) [] [] (by kernel_rfl) (t := 53) (by kernel_rfl) beq_iff_eq (fun hp_ => ?_) (fun hp_ => ?_) (by kernel_rfl) (fun _ _ _ _ _ _ h_ => h_) (fun y56 => ?_)
        · refine OJ.run [5, 6, 7] [] [4, 7, 49, 56] (m2 := [(4, .pointer (some (pt b3 0))), (7, Sl.v r50.2.1), (49, c_weirlaw3_Side.val (⟨a0.P, r51.1, a0.W⟩ : weirlaw3_Side)), (56, .bool (r50.1 == 0))]) (by kernel_rfl) (by kernel_rfl) ?_
          exact OJ.nil ⟨(Cov.mem Cov.nil), rfl, _, rfl, by kernel_rfl⟩
        · refine OJ.run [5, 6, 7] [] [4, 7, 49, 56] (m2 := [(4, .pointer (some (pt b3 0))), (7, Sl.v r50.2.1), (49, c_weirlaw3_Side.val (⟨a0.P, r51.1, a0.W⟩ : weirlaw3_Side)), (56, .bool false)]) (by kernel_rfl) (by kernel_rfl) ?_
          exact OJ.nil ⟨(Cov.mem Cov.nil), rfl, _, rfl, by kernel_rfl⟩
        · refine OJ.run [8] [9, 10, 11, 12, 13, 14] [4, 7, 49, 57] (m2 := [(4, .pointer (some (pt b3 0))), (7, Sl.v r50.2.1), (49, c_weirlaw3_Side.val (⟨a0.P, r51.1, a0.W⟩ : weirlaw3_Side)), (57, .bool y56)]) (by kernel_rfl) (by kernel_rfl) ?_
          refine OJ.join (b := y56) [9, 10, 11, 12] [13, 14] [4, 49, 61] (fun y57 => [(4, .pointer (some (pt b3 0))), (49, c_weirlaw3_Side.val (⟨a0.P, r51.1, a0.W⟩ : weirlaw3_Side)), (61, .bool y57)]) [] [] (by kernel_rfl) (t := 57) (by kernel_rfl) Iff.rfl (fun hp_ => ?_) (fun hp_ => ?_) (by kernel_rfl) (fun _ _ _ _ _ _ h_ => h_) (fun y57 => ?_)
          · refine OJ.run [9, 10, 11, 12] [] [4, 49, 61] (m2 := [(4, .pointer (some (pt b3 0))), (49, c_weirlaw3_Side.val (⟨a0.P, r51.1, a0.W⟩ : weirlaw3_Side)), (61, .bool ((r50.2.1.len : Int) == 0))]) (by kernel_rfl) (by kernel_rfl) ?_
            exact OJ.nil ⟨(Cov.mem Cov.nil), rfl, _, rfl, by kernel_rfl⟩
          · refine OJ.run [9, 10, 11, 12] [] [4, 49, 61] (m2 := [(4, .pointer (some (pt b3 0))), (49, c_weirlaw3_Side.val (⟨a0.P, r51.1, a0.W⟩ : weirlaw3_Side)), (61, .bool false)]) (by kernel_rfl) (by kernel_rfl) ?_
            exact OJ.nil ⟨(Cov.mem Cov.nil), rfl, _, rfl, by kernel_rfl⟩
          · refine OJ.kst (T := 62) (y := .tmp 4) (z := .tmp 49) (cd := c_weirlaw3_Side) (u := (⟨a0.P, r51.1, a0.W⟩ : weirlaw3_Side)) (j := 1) (b := b3) (o := 0) (c_weirlaw3_Side.enc (⟨a0.P, r51.1, a0.W⟩ : weirlaw3_Side)) (h2 := [(b52, c_weirref3_Port.enc r51.1), (b3, c_weirlaw3_Side.enc (⟨a0.P, r51.1, a0.W⟩ : weirlaw3_Side)), (b2, c_weirlaw3_Op.enc a1), (b1, c_weirlaw3_Side.enc (⟨a0.P, r51.1, a0.W⟩ : weirlaw3_Side))]) (owed := []) (by kernel_rfl) (by kernel_rfl) (by kernel_rfl) Ty62 rfl (Upd.whole ((Cod.len _ _).trans (Cod.len _ _).symm)) (by kernel_rfl) (by kernel_rfl) rfl ?_
            refine OW.nil ?_
            refine OJ.run [14] [] [4, 5] (m2 := [(4, .pointer (some (pt b3 0))), (5, .bool y57)]) (by kernel_rfl) (by kernel_rfl) ?_
            refine OJ.nil ?_
            exact SJ.ret (by kernel_rfl) rfl (Res.run (ys := [c_weirlaw3_Side.val (⟨a0.P, r51.1, a0.W⟩ : weirlaw3_Side), .bool y57]) (.cell (j := 1) (b := b3) (cd := c_weirlaw3_Side) (q := (⟨a0.P, r51.1, a0.W⟩ : weirlaw3_Side)) (by kernel_rfl) rfl Ty62 (At.whole _) (.tmp (by kernel_rfl) .nil)) rfl)
      · refine SJ.skip (by kernel_rfl) ?_
        refine SJ.seq (by kernel_rfl) ?_
        refine SJ.seq (by kernel_rfl) ?_
        refine SJ.region (id := 8) (by kernel_rfl) [0, 1, 2] (by kernel_rfl) ?_
        refine OJ.run [0, 1, 2] [] [2, 4, 6, 7, 11, 64] (m2 := [(2, .pointer (some (pt b1 0))), (4, .pointer (some (pt b3 0))), (6, .int .i64 r50.1), (7, Sl.v r50.2.1), (11, .int .i64 r51.2.2.1), (64, .bool (r50.1 != r51.2.1))]) (by kernel_rfl) (by kernel_rfl) ?_
        refine OJ.nil ?_
        refine SJ.cond (t := (.tmp 64)) (b := (r50.1 != r51.2.1)) (by kernel_rfl) (by kernel_rfl) bne_iff_ne (fun hc61 => ?_) (fun hc61 => ?_)
        · refine SJ.seq (by kernel_rfl) ?_
          refine SJ.region (id := 9) (by kernel_rfl) [0, 1, 2] (by kernel_rfl) ?_
          refine OJ.kld (d := 65) (T := 62) (y := .tmp 2) (cd := c_weirlaw3_Side) (j := 3) (b := b1) (o := 0) (⟨a0.P, r51.1, a0.W⟩ : weirlaw3_Side) (pend2 := []) (by kernel_rfl) (by kernel_rfl) Ty62 (by kernel_rfl) rfl (At.whole _) (by kernel_rfl) rfl ?_
          refine OJ.kst (T := 62) (y := .tmp 4) (z := .tmp 65) (cd := c_weirlaw3_Side) (u := (⟨a0.P, r51.1, a0.W⟩ : weirlaw3_Side)) (j := 1) (b := b3) (o := 0) (c_weirlaw3_Side.enc (⟨a0.P, r51.1, a0.W⟩ : weirlaw3_Side)) (h2 := [(b52, c_weirref3_Port.enc r51.1), (b3, c_weirlaw3_Side.enc (⟨a0.P, r51.1, a0.W⟩ : weirlaw3_Side)), (b2, c_weirlaw3_Op.enc a1), (b1, c_weirlaw3_Side.enc (⟨a0.P, r51.1, a0.W⟩ : weirlaw3_Side))]) (owed := []) (by kernel_rfl) (by kernel_rfl) (by kernel_rfl) Ty62 rfl (Upd.whole ((Cod.len _ _).trans (Cod.len _ _).symm)) (by kernel_rfl) (by kernel_rfl) rfl ?_
          refine OW.nil ?_
          refine OJ.run [2] [] [4, 5] (m2 := [(4, .pointer (some (pt b3 0))), (5, .bool false)]) (by kernel_rfl) (by kernel_rfl) ?_
          refine OJ.nil ?_
          exact SJ.ret (by kernel_rfl) rfl (Res.run (ys := [c_weirlaw3_Side.val (⟨a0.P, r51.1, a0.W⟩ : weirlaw3_Side), .bool false]) (.cell (j := 1) (b := b3) (cd := c_weirlaw3_Side) (q := (⟨a0.P, r51.1, a0.W⟩ : weirlaw3_Side)) (by kernel_rfl) rfl Ty62 (At.whole _) (.tmp (by kernel_rfl) .nil)) rfl)
        · refine SJ.skip (by kernel_rfl) ?_
          refine SJ.seq (by kernel_rfl) ?_
          refine SJ.region (id := 10) (by kernel_rfl) [0, 1, 2, 3, 4, 5, 6, 7, 8] (by kernel_rfl) ?_
          refine OJ.run [0] [1, 2, 3, 4, 5, 6, 7, 8] [2, 4, 6, 7, 11, 66] (m2 := [(2, .pointer (some (pt b1 0))), (4, .pointer (some (pt b3 0))), (6, .int .i64 r50.1), (7, Sl.v r50.2.1), (11, .int .i64 r51.2.2.1), (66, .pointer (some (pt b1 6)))]) (by kernel_rfl) (by kernel_rfl) ?_
          refine OJ.kld (d := 67) (T := 60) (y := .tmp 66) (cd := cL) (j := 3) (b := b1) (o := 6) a0.W (pend2 := []) (by kernel_rfl) (by kernel_rfl) Ty60 (by kernel_rfl) rfl (At_weirlaw3_Side_W (⟨a0.P, r51.1, a0.W⟩ : weirlaw3_Side)) (by kernel_rfl) rfl ?_
          refine OJ.run [2, 3] [4, 5, 6, 7, 8] [2, 4, 6, 7, 11, 67, 68, 69] (m2 := [(2, .pointer (some (pt b1 0))), (4, .pointer (some (pt b3 0))), (6, .int .i64 r50.1), (7, Sl.v r50.2.1), (11, .int .i64 r51.2.2.1), (67, Sl.v a0.W), (68, Sl.v r50.2.1), (69, .int .i64 r50.1)]) (by kernel_rfl) (by kernel_rfl) ?_
          refine OJ.build (d := 70) (T := 116) (parts := [(0, .tmp 68), (1, .tmp 69)]) (ps := [(0, cL.val r50.2.1), (1, (cI .i64).val r50.1)]) (cd := c_weirlaw3_Win) (z0 := z_weirlaw3_Win) (⟨r50.2.1, r50.1⟩ : weirlaw3_Win) (by kernel_rfl) (by kernel_rfl) Ty116 rfl (by kernel_rfl) (Filled.cons (cd := cL) (q := r50.2.1) (o := 0) (by kernel_rfl) (Up_weirlaw3_Win_B z_weirlaw3_Win r50.2.1) (Filled.cons (cd := (cI .i64)) (q := r50.1) (o := 1) (by kernel_rfl) (Up_weirlaw3_Win_I (⟨r50.2.1, z_weirlaw3_Win.I⟩ : weirlaw3_Win) r50.1) Filled.nil)) (by kernel_rfl) (by kernel_rfl) (by kernel_rfl) ?_
          refine OJ.rowSlot (d := 71) (t := 60) (parts := [(0, .tmp 70)]) (ps := [(0, c_weirlaw3_Win.val (⟨r50.2.1, r50.1⟩ : weirlaw3_Win))]) (cd := c_weirlaw3_Win) (⟨[(⟨r50.2.1, r50.1⟩ : weirlaw3_Win)], rfl⟩ : Vec weirlaw3_Win 1) (owed := []) (by kernel_rfl) (by kernel_rfl) (by kernel_rfl) Ty116 (by kernel_rfl) (Filled.cons (cd := c_weirlaw3_Win) (q := (⟨r50.2.1, r50.1⟩ : weirlaw3_Win)) (o := 0) rfl (Upd.arr (i := 0) (by decide) (by decide)) Filled.nil) (by kernel_rfl) (by kernel_rfl) (by kernel_rfl) (fun b58 => ?_)
          refine OW.nil ?_
          refine OJ.appl (d := 72) (t := 60) (u := 60) (so := .tmp 67) (xo := .tmp 71) (j := 0) (b := b58) (l := (c_weirlaw3_Win.arr 1).enc (⟨[(⟨r50.2.1, r50.1⟩ : weirlaw3_Win)], rfl⟩ : Vec weirlaw3_Win 1)) (n := 1) (k := 1) [(⟨r50.2.1, r50.1⟩ : weirlaw3_Win)] (owed := []) (by kernel_rfl) (by kernel_rfl) (by kernel_rfl) Ty116 (by kernel_rfl) (by kernel_rfl) (by kernel_rfl) (by rfl) (Cod.arr_enc _ _ _) (by rfl) (by kernel_rfl) (by kernel_rfl) (by kernel_rfl) (fun r59 => ?_)
          refine OW.nil ?_
          refine OJ.run [7] [8] [2, 4, 6, 7, 11, 72, 73] (m2 := [(2, .pointer (some (pt b1 0))), (4, .pointer (some (pt b3 0))), (6, .int .i64 r50.1), (7, Sl.v r50.2.1), (11, .int .i64 r51.2.2.1), (72, Sl.v r59), (73, .pointer (some (pt b1 6)))]) (by kernel_rfl) (by kernel_rfl) ?_
          refine OJ.kst (T := 60) (y := .tmp 73) (z := .tmp 72) (cd := cL) (u := r59) (j := 4) (b := b1) (o := 6) (c_weirlaw3_Side.enc (⟨a0.P, r51.1, r59⟩ : weirlaw3_Side)) (h2 := [(b58, (c_weirlaw3_Win.arr 1).enc (⟨[(⟨r50.2.1, r50.1⟩ : weirlaw3_Win)], rfl⟩ : Vec weirlaw3_Win 1)), (b52, c_weirref3_Port.enc r51.1), (b3, c_weirlaw3_Side.enc z_weirlaw3_Side), (b2, c_weirlaw3_Op.enc a1), (b1, c_weirlaw3_Side.enc (⟨a0.P, r51.1, r59⟩ : weirlaw3_Side))]) (owed := []) (by kernel_rfl) (by kernel_rfl) (by kernel_rfl) Ty60 rfl (Up_weirlaw3_Side_W (⟨a0.P, r51.1, a0.W⟩ : weirlaw3_Side) r59) (by kernel_rfl) (by kernel_rfl) rfl ?_
          refine OW.nil ?_
          refine OJ.nil ?_
          refine SJ.seq (by kernel_rfl) ?_
          refine SJ.draw (id := 11) (kd := [1, 1, 0, 0, 0, 2, 2, 0]) (bef := [0, 0, 0, 0, 0, 30, 63, 127]) (ord := [0, 1, 2, 3, 4, 5, 6, 7]) (by kernel_rfl) mixed (by kernel_rfl) ?_
          refine OJ.kld (d := 74) (T := 62) (y := .tmp 2) (cd := c_weirlaw3_Side) (j := 4) (b := b1) (o := 0) (⟨a0.P, r51.1, r59⟩ : weirlaw3_Side) (pend2 := [⟨0, 62, (pt b1 0), c_weirlaw3_Side.val (⟨a0.P, r51.1, r59⟩ : weirlaw3_Side)⟩]) (by kernel_rfl) (by kernel_rfl) Ty62 (by kernel_rfl) rfl (At.whole _) (by kernel_rfl) rfl ?_
          refine OJ.kld (d := 75) (T := 62) (y := .tmp 2) (cd := c_weirlaw3_Side) (j := 4) (b := b1) (o := 0) (⟨a0.P, r51.1, r59⟩ : weirlaw3_Side) (pend2 := [⟨1, 62, (pt b1 0), c_weirlaw3_Side.val (⟨a0.P, r51.1, r59⟩ : weirlaw3_Side)⟩, ⟨0, 62, (pt b1 0), c_weirlaw3_Side.val (⟨a0.P, r51.1, r59⟩ : weirlaw3_Side)⟩]) (by kernel_rfl) (by kernel_rfl) Ty62 (by kernel_rfl) rfl (At.whole _) (by kernel_rfl) rfl ?_
          refine OJ.run [2, 3, 4] [5, 6, 7] [4, 74, 75, 76, 77, 78] (m2 := [(4, .pointer (some (pt b3 0))), (74, c_weirlaw3_Side.val (⟨a0.P, r51.1, r59⟩ : weirlaw3_Side)), (75, c_weirlaw3_Side.val (⟨a0.P, r51.1, r59⟩ : weirlaw3_Side)), (76, Sl.v r50.2.1), (77, .int .i64 r50.1), (78, .int .i64 r51.2.2.1)]) (by kernel_rfl) (by kernel_rfl) ?_
          refine OJ.call (d := 79) (g := 67) (ats := #[62, 22, 3, 3]) (args := [.tmp 75, .tmp 76, .tmp 77, .tmp 78]) (vals := [c_weirlaw3_Side.val (⟨a0.P, r51.1, r59⟩ : weirlaw3_Side), Sl.v r50.2.1, .int .i64 r50.1, .int .i64 r51.2.2.1]) (owed := [⟨0, 62, (pt b1 0), c_weirlaw3_Side.val (⟨a0.P, r51.1, r59⟩ : weirlaw3_Side)⟩]) (by kernel_rfl) F67 (by kernel_rfl) (weirlaw3_right_ok (⟨a0.P, r51.1, r59⟩ : weirlaw3_Side) r50.2.1 r50.1 r51.2.2.1) (by kernel_rfl) (by kernel_rfl) (by kernel_rfl) (fun r60 => ?_)
          refine OW.known (j := 4) (q := (⟨a0.P, r51.1, r59⟩ : weirlaw3_Side)) Ty62 rfl (At.whole _) ?_
          refine OW.nil ?_
          refine OJ.kst (T := 62) (y := .tmp 4) (z := .tmp 74) (cd := c_weirlaw3_Side) (u := (⟨a0.P, r51.1, r59⟩ : weirlaw3_Side)) (j := 2) (b := b3) (o := 0) (c_weirlaw3_Side.enc (⟨a0.P, r51.1, r59⟩ : weirlaw3_Side)) (h2 := [(b58, (c_weirlaw3_Win.arr 1).enc (⟨[(⟨r50.2.1, r50.1⟩ : weirlaw3_Win)], rfl⟩ : Vec weirlaw3_Win 1)), (b52, c_weirref3_Port.enc r51.1), (b3, c_weirlaw3_Side.enc (⟨a0.P, r51.1, r59⟩ : weirlaw3_Side)), (b2, c_weirlaw3_Op.enc a1), (b1, c_weirlaw3_Side.enc (⟨a0.P, r51.1, r59⟩ : weirlaw3_Side))]) (owed := []) (by kernel_rfl) (by kernel_rfl) (by kernel_rfl) Ty62 rfl (Upd.whole ((Cod.len _ _).trans (Cod.len _ _).symm)) (by kernel_rfl) (by kernel_rfl) rfl ?_
          refine OW.nil ?_
          refine OJ.run [7] [] [4, 5] (m2 := [(4, .pointer (some (pt b3 0))), (5, .bool r60)]) (by kernel_rfl) (by kernel_rfl) ?_
          refine OJ.nil ?_
          exact SJ.ret (by kernel_rfl) rfl (Res.run (ys := [c_weirlaw3_Side.val (⟨a0.P, r51.1, r59⟩ : weirlaw3_Side), .bool r60]) (.cell (j := 2) (b := b3) (cd := c_weirlaw3_Side) (q := (⟨a0.P, r51.1, r59⟩ : weirlaw3_Side)) (by kernel_rfl) rfl Ty62 (At.whole _) (.tmp (by kernel_rfl) .nil)) rfl)
  · refine SJ.seq (by kernel_rfl) ?_
    refine SJ.region (id := 12) (by kernel_rfl) [0, 1] (by kernel_rfl) ?_
    refine OJ.run [0, 1] [] [2, 3, 4, 80] (m2 := [(2, .pointer (some (pt b1 0))), (3, .pointer (some (pt b2 0))), (4, .pointer (some (pt b3 0))), (80, .bool (a1.Kind == 4))]) (by kernel_rfl) (by kernel_rfl) ?_
    refine OJ.nil ?_
    refine SJ.cond (t := (.tmp 80)) (b := (a1.Kind == 4)) (by kernel_rfl) (by kernel_rfl) beq_iff_eq (fun hc107 => ?_) (fun hc107 => ?_)
    · refine SJ.seq (by kernel_rfl) ?_
      refine SJ.region (id := 13) (by kernel_rfl) [0, 1, 2, 3, 4, 5, 6, 7, 8, 9] (by kernel_rfl) ?_
      refine OJ.run [0] [1, 2, 3, 4, 5, 6, 7, 8, 9] [2, 4, 83] (m2 := [(2, .pointer (some (pt b1 0))), (4, .pointer (some (pt b3 0))), (83, .pointer (some (pt b1 0)))]) (by kernel_rfl) (by kernel_rfl) ?_
      refine OJ.kld (d := 84) (T := 23) (y := .tmp 83) (cd := cP) (j := 2) (b := b1) (o := 0) a0.P (pend2 := []) (by kernel_rfl) (by kernel_rfl) Ty23 (by kernel_rfl) rfl (At_weirlaw3_Side_P a0) (by kernel_rfl) rfl ?_
      refine OJ.call (d := 85) (g := 25) (ats := #[23]) (args := [.tmp 84]) (vals := [.pointer a0.P]) (owed := []) (by kernel_rfl) F25 (by kernel_rfl) (ring_Port_Take_ok a0.P) (by kernel_rfl) (by kernel_rfl) (by kernel_rfl) (fun r79 => ?_)
      refine OW.nil ?_
      refine OJ.run [3, 4, 5, 6, 7, 8, 9] [] [2, 4, 13, 14, 15] (m2 := [(2, .pointer (some (pt b1 0))), (4, .pointer (some (pt b3 0))), (13, .int .i64 r79.1), (14, Sl.v r79.2.1), (15, .int .i64 r79.2.2)]) (by kernel_rfl) (by kernel_rfl) ?_
      refine OJ.nil ?_
      refine SJ.seq (by kernel_rfl) ?_
      refine SJ.region (id := 14) (by kernel_rfl) [0, 1, 2, 3, 4, 5, 6, 7, 8, 9, 10] (by kernel_rfl) ?_
      refine OJ.run [0] [1, 2, 3, 4, 5, 6, 7, 8, 9, 10] [2, 4, 13, 14, 15, 90] (m2 := [(2, .pointer (some (pt b1 0))), (4, .pointer (some (pt b3 0))), (13, .int .i64 r79.1), (14, Sl.v r79.2.1), (15, .int .i64 r79.2.2), (90, .pointer (some (pt b1 1)))]) (by kernel_rfl) (by kernel_rfl) ?_
      refine OJ.kld (d := 91) (T := 59) (y := .tmp 90) (cd := c_weirref3_Port) (j := 2) (b := b1) (o := 1) a0.R (pend2 := []) (by kernel_rfl) (by kernel_rfl) Ty59 (by kernel_rfl) rfl (At_weirlaw3_Side_R a0) (by kernel_rfl) rfl ?_
      refine OJ.call (d := 92) (g := 68) (ats := #[59]) (args := [.tmp 91]) (vals := [c_weirref3_Port.val a0.R]) (owed := []) (by kernel_rfl) F68 (by kernel_rfl) (weirref3_Take_ok a0.R) (by kernel_rfl) (by kernel_rfl) (by kernel_rfl) (fun r80 => ?_)
      refine OW.nil ?_
      refine OJ.run [3, 4, 5, 6] [7, 8, 9, 10] [2, 4, 13, 14, 15, 93, 94, 95] (m2 := [(2, .pointer (some (pt b1 0))), (4, .pointer (some (pt b3 0))), (13, .int .i64 r79.1), (14, Sl.v r79.2.1), (15, .int .i64 r79.2.2), (93, c_weirref3_Port.val r80.1), (94, .int .i64 r80.2.1), (95, .int .i64 r80.2.2)]) (by kernel_rfl) (by kernel_rfl) ?_
      refine OJ.slotOf (d := 16) (op := (.alloc 59)) (cd := c_weirref3_Port) (u := z_weirref3_Port) (owed := []) (by kernel_rfl) (alloc_run Ty59) (by kernel_rfl) (by kernel_rfl) (by kernel_rfl) (fun b81 => ?_)
      refine OW.nil ?_
      refine OJ.kst (T := 59) (y := .tmp 16) (z := .tmp 93) (cd := c_weirref3_Port) (u := r80.1) (j := 0) (b := b81) (o := 0) (c_weirref3_Port.enc r80.1) (h2 := [(b81, c_weirref3_Port.enc r80.1), (b3, c_weirlaw3_Side.enc z_weirlaw3_Side), (b2, c_weirlaw3_Op.enc a1), (b1, c_weirlaw3_Side.enc a0)]) (owed := []) (by kernel_rfl) (by kernel_rfl) (by kernel_rfl) Ty59 rfl (Upd.whole ((Cod.len _ _).trans (Cod.len _ _).symm)) (by kernel_rfl) (by kernel_rfl) rfl ?_
      refine OW.nil ?_
      refine OJ.run [9, 10] [] [2, 4, 13, 14, 15, 16, 17, 18] (m2 := [(2, .pointer (some (pt b1 0))), (4, .pointer (some (pt b3 0))), (13, .int .i64 r79.1), (14, Sl.v r79.2.1), (15, .int .i64 r79.2.2), (16, .pointer (some (pt b81 0))), (17, .int .i64 r80.2.1), (18, .int .i64 r80.2.2)]) (by kernel_rfl) (by kernel_rfl) ?_
      refine OJ.nil ?_
      refine SJ.seq (by kernel_rfl) ?_
      refine SJ.region (id := 15) (by kernel_rfl) [0, 1, 2] (by kernel_rfl) ?_
      refine OJ.kld (d := 96) (T := 59) (y := .tmp 16) (cd := c_weirref3_Port) (j := 0) (b := b81) (o := 0) r80.1 (pend2 := []) (by kernel_rfl) (by kernel_rfl) Ty59 (by kernel_rfl) rfl (At.whole _) (by kernel_rfl) rfl ?_
      refine OJ.run [1] [2] [2, 4, 13, 14, 15, 17, 18, 96, 97] (m2 := [(2, .pointer (some (pt b1 0))), (4, .pointer (some (pt b3 0))), (13, .int .i64 r79.1), (14, Sl.v r79.2.1), (15, .int .i64 r79.2.2), (17, .int .i64 r80.2.1), (18, .int .i64 r80.2.2), (96, c_weirref3_Port.val r80.1), (97, .pointer (some (pt b1 1)))]) (by kernel_rfl) (by kernel_rfl) ?_
      refine OJ.kst (T := 59) (y := .tmp 97) (z := .tmp 96) (cd := c_weirref3_Port) (u := r80.1) (j := 3) (b := b1) (o := 1) (c_weirlaw3_Side.enc (⟨a0.P, r80.1, a0.W⟩ : weirlaw3_Side)) (h2 := [(b81, c_weirref3_Port.enc r80.1), (b3, c_weirlaw3_Side.enc z_weirlaw3_Side), (b2, c_weirlaw3_Op.enc a1), (b1, c_weirlaw3_Side.enc (⟨a0.P, r80.1, a0.W⟩ : weirlaw3_Side))]) (owed := []) (by kernel_rfl) (by kernel_rfl) (by kernel_rfl) Ty59 rfl (Up_weirlaw3_Side_R a0 r80.1) (by kernel_rfl) (by kernel_rfl) rfl ?_
      refine OW.nil ?_
      refine OJ.nil ?_
      refine SJ.seq (by kernel_rfl) ?_
      refine SJ.seq (by kernel_rfl) ?_
      refine SJ.region (id := 16) (by kernel_rfl) [0, 1, 2, 3, 4, 5, 6] (by kernel_rfl) ?_
      refine OJ.run [0] [1, 2, 3, 4, 5, 6] [2, 4, 13, 14, 15, 17, 18, 98] (m2 := [(2, .pointer (some (pt b1 0))), (4, .pointer (some (pt b3 0))), (13, .int .i64 r79.1), (14, Sl.v r79.2.1), (15, .int .i64 r79.2.2), (17, .int .i64 r80.2.1), (18, .int .i64 r80.2.2), (98, .int .i64 r79.2.2)]) (by kernel_rfl) (by kernel_rfl) ?_
      refine OJ.call (d := 99) (g := 14) (ats := #[24]) (args := [.tmp 98]) (vals := [.int .i64 r79.2.2]) (owed := []) (by kernel_rfl) F14 (by kernel_rfl) (weirlaw3_num_ok r79.2.2) (by kernel_rfl) (by kernel_rfl) (by kernel_rfl) (fun r82 => ?_)
      refine OW.nil ?_
      refine OJ.run [2, 3] [4, 5, 6] [2, 4, 13, 14, 15, 17, 18, 101] (m2 := [(2, .pointer (some (pt b1 0))), (4, .pointer (some (pt b3 0))), (13, .int .i64 r79.1), (14, Sl.v r79.2.1), (15, .int .i64 r79.2.2), (17, .int .i64 r80.2.1), (18, .int .i64 r80.2.2), (101, .bool (r82 != 0))]) (by kernel_rfl) (by kernel_rfl) ?_
      refine OJ.join (b := (r82 != 0)) [4, 5, 6] [] [2, 4, 13, 14, 15, 17, 18, 104] (fun y83 => [(2, .pointer (some (pt b1 0))), (4, .pointer (some (pt b3 0))), (13, .int .i64 r79.1), (14, Sl.v r79.2.1), (15, .int .i64 r79.2.2), (17, .int .i64 r80.2.1), (18, .int .i64 r80.2.2), (104, .bool y83)]) [] [] (by kernel_rfl) (t := 101) (by kernel_rfl) bne_iff_ne (fun hp_ => ?_) (fun hp_ => ?_) (by kernel_rfl) (fun _ _ _ _ _ _ h_ => h_) (fun y83 => ?_)
      · refine OJ.run [4, 5, 6] [] [2, 4, 13, 14, 15, 17, 18, 104] (m2 := [(2, .pointer (some (pt b1 0))), (4, .pointer (some (pt b3 0))), (13, .int .i64 r79.1), (14, Sl.v r79.2.1), (15, .int .i64 r79.2.2), (17, .int .i64 r80.2.1), (18, .int .i64 r80.2.2), (104, .bool true)]) (by kernel_rfl) (by kernel_rfl) ?_
        exact OJ.nil ⟨(Cov.mem Cov.nil), rfl, _, rfl, by kernel_rfl⟩
      · refine OJ.run [4, 5, 6] [] [2, 4, 13, 14, 15, 17, 18, 104] (m2 := [(2, .pointer (some (pt b1 0))), (4, .pointer (some (pt b3 0))), (13, .int .i64 r79.1), (14, Sl.v r79.2.1), (15, .int .i64 r79.2.2), (17, .int .i64 r80.2.1), (18, .int .i64 r80.2.2), (104, .bool (r80.2.2 != 0))]) (by kernel_rfl) (by kernel_rfl) ?_
        exact OJ.nil ⟨(Cov.mem Cov.nil), rfl, _, rfl, by kernel_rfl⟩
      · refine OJ.nil ?_
        refine SJ.cond (t := (.tmp 104)) (b := y83) (by kernel_rfl) (by kernel_rfl) Iff.rfl (fun hc94 => ?_) (fun hc94 => ?_)
        · refine SJ.seq (by kernel_rfl) ?_
          refine SJ.draw (id := 17) (kd := [1, 0, 2, 0, 0, 0, 0, 0, 0, 0, 0, 0, 0, 0, 2, 0]) (bef := [0, 0, 2, 0, 14, 30, 62, 126, 254, 510, 1022, 2046, 4094, 8190, 1023, 32767]) (ord := [0, 1, 2, 3, 4, 5, 6, 7, 8, 9, 10, 11, 12, 13, 14, 15]) (by kernel_rfl) mixed (by kernel_rfl) ?_
          refine OJ.kld (d := 105) (T := 62) (y := .tmp 2) (cd := c_weirlaw3_Side) (j := 3) (b := b1) (o := 0) (⟨a0.P, r80.1, a0.W⟩ : weirlaw3_Side) (pend2 := [⟨0, 62, (pt b1 0), c_weirlaw3_Side.val (⟨a0.P, r80.1, a0.W⟩ : weirlaw3_Side)⟩]) (by kernel_rfl) (by kernel_rfl) Ty62 (by kernel_rfl) rfl (At.whole _) (by kernel_rfl) rfl ?_
          refine OJ.run [1] [2, 3, 4, 5, 6, 7, 8, 9, 10, 11, 12, 13, 14, 15] [4, 13, 14, 18, 105, 106] (m2 := [(4, .pointer (some (pt b3 0))), (13, .int .i64 r79.1), (14, Sl.v r79.2.1), (18, .int .i64 r80.2.2), (105, c_weirlaw3_Side.val (⟨a0.P, r80.1, a0.W⟩ : weirlaw3_Side)), (106, .int .i64 r79.2.2)]) (by kernel_rfl) (by kernel_rfl) ?_
          refine OJ.call (d := 107) (g := 14) (ats := #[24]) (args := [.tmp 106]) (vals := [.int .i64 r79.2.2]) (owed := [⟨0, 62, (pt b1 0), c_weirlaw3_Side.val (⟨a0.P, r80.1, a0.W⟩ : weirlaw3_Side)⟩]) (by kernel_rfl) F14 (by kernel_rfl) (weirlaw3_num_ok r79.2.2) (by kernel_rfl) (by kernel_rfl) (by kernel_rfl) (fun r87 => ?_)
          refine OW.known (j := 3) (q := (⟨a0.P, r80.1, a0.W⟩ : weirlaw3_Side)) Ty62 rfl (At.whole _) ?_
          refine OW.nil ?_
          refine OJ.run [3, 4, 5] [6, 7, 8, 9, 10, 11, 12, 13, 14, 15] [4, 13, 14, 105, 110] (m2 := [(4, .pointer (some (pt b3 0))), (13, .int .i64 r79.1), (14, Sl.v r79.2.1), (105, c_weirlaw3_Side.val (⟨a0.P, r80.1, a0.W⟩ : weirlaw3_Side)), (110, .bool (r87 == r80.2.2))]) (by kernel_rfl) (by kernel_rfl) ?_
          refine OJ.join (b := (r87 == r80.2.2)) [6, 7, 8] [9, 10, 11, 12, 13, 14, 15] [4, 14, 105, 113] (fun y88 => [(4, .pointer (some (pt b3 0))), (14, Sl.v r79.2.1), (105, c_weirlaw3_Side.val (⟨a0.P, r80.1, a0.W⟩ : weirlaw3_Side)), (113, .bool y88)]) [⟨0, 62, (pt b1 0), c_weirlaw3_Side.val (⟨a0.P, r80.1, a0.W⟩ : weirlaw3_Side)⟩] [] (by kernel_rfl) (t := 110) (by kernel_rfl) beq_iff_eq (fun hp_ => ?_) (fun hp_ => ?_) (by kernel_rfl) (fun _ _ _ _ _ _ h_ => h_) (fun y88 => ?_)
          · refine OJ.run [6, 7, 8] [] [4, 14, 105, 113] (m2 := [(4, .pointer (some (pt b3 0))), (14, Sl.v r79.2.1), (105, c_weirlaw3_Side.val (⟨a0.P, r80.1, a0.W⟩ : weirlaw3_Side)), (113, .bool (r79.1 == 0))]) (by kernel_rfl) (by kernel_rfl) ?_
            exact OJ.nil ⟨(Cov.mem (Cov.keep (List.mem_of_getElem? (i := 0) rfl) Cov.nil)), rfl, _, rfl, by kernel_rfl⟩
          · refine OJ.run [6, 7, 8] [] [4, 14, 105, 113] (m2 := [(4, .pointer (some (pt b3 0))), (14, Sl.v r79.2.1), (105, c_weirlaw3_Side.val (⟨a0.P, r80.1, a0.W⟩ : weirlaw3_Side)), (113, .bool false)]) (by kernel_rfl) (by kernel_rfl) ?_
            exact OJ.nil ⟨(Cov.mem (Cov.keep (List.mem_of_getElem? (i := 0) rfl) Cov.nil)), rfl, _, rfl, by kernel_rfl⟩
          · refine OJ.run [9] [10, 11, 12, 13, 14, 15] [4, 14, 105, 114] (m2 := [(4, .pointer (some (pt b3 0))), (14, Sl.v r79.2.1), (105, c_weirlaw3_Side.val (⟨a0.P, r80.1, a0.W⟩ : weirlaw3_Side)), (114, .bool y88)]) (by kernel_rfl) (by kernel_rfl) ?_
            refine OJ.join (b := y88) [10, 11, 12, 13] [14, 15] [4, 105, 118] (fun y89 => [(4, .pointer (some (pt b3 0))), (105, c_weirlaw3_Side.val (⟨a0.P, r80.1, a0.W⟩ : weirlaw3_Side)), (118, .bool y89)]) [⟨0, 62, (pt b1 0), c_weirlaw3_Side.val (⟨a0.P, r80.1, a0.W⟩ : weirlaw3_Side)⟩] [] (by kernel_rfl) (t := 114) (by kernel_rfl) Iff.rfl (fun hp_ => ?_) (fun hp_ => ?_) (by kernel_rfl) (fun _ _ _ _ _ _ h_ => h_) (fun y89 => ?_)
            · refine OJ.run [10, 11, 12, 13] [] [4, 105, 118] (m2 := [(4, .pointer (some (pt b3 0))), (105, c_weirlaw3_Side.val (⟨a0.P, r80.1, a0.W⟩ : weirlaw3_Side)), (118, .bool ((r79.2.1.len : Int) == 0))]) (by kernel_rfl) (by kernel_rfl) ?_
              exact OJ.nil ⟨(Cov.mem (Cov.keep (List.mem_of_getElem? (i := 0) rfl) Cov.nil)), rfl, _, rfl, by kernel_rfl⟩
            · refine OJ.run [10, 11, 12, 13] [] [4, 105, 118] (m2 := [(4, .pointer (some (pt b3 0))), (105, c_weirlaw3_Side.val (⟨a0.P, r80.1, a0.W⟩ : weirlaw3_Side)), (118, .bool false)]) (by kernel_rfl) (by kernel_rfl) ?_
              exact OJ.nil ⟨(Cov.mem (Cov.keep (List.mem_of_getElem? (i := 0) rfl) Cov.nil)), rfl, _, rfl, by kernel_rfl⟩
            · refine OJ.kst (T := 62) (y := .tmp 4) (z := .tmp 105) (cd := c_weirlaw3_Side) (u := (⟨a0.P, r80.1, a0.W⟩ : weirlaw3_Side)) (j := 1) (b := b3) (o := 0) (c_weirlaw3_Side.enc (⟨a0.P, r80.1, a0.W⟩ : weirlaw3_Side)) (h2 := [(b81, c_weirref3_Port.enc r80.1), (b3, c_weirlaw3_Side.enc (⟨a0.P, r80.1, a0.W⟩ : weirlaw3_Side)), (b2, c_weirlaw3_Op.enc a1), (b1, c_weirlaw3_Side.enc (⟨a0.P, r80.1, a0.W⟩ : weirlaw3_Side))]) (owed := []) (by kernel_rfl) (by kernel_rfl) (by kernel_rfl) Ty62 rfl (Upd.whole ((Cod.len _ _).trans (Cod.len _ _).symm)) (by kernel_rfl) (by kernel_rfl) rfl ?_
              refine OW.nil ?_
              refine OJ.run [15] [] [4, 5] (m2 := [(4, .pointer (some (pt b3 0))), (5, .bool y89)]) (by kernel_rfl) (by kernel_rfl) ?_
              refine OJ.nil ?_
              exact SJ.ret (by kernel_rfl) rfl (Res.run (ys := [c_weirlaw3_Side.val (⟨a0.P, r80.1, a0.W⟩ : weirlaw3_Side), .bool y89]) (.cell (j := 1) (b := b3) (cd := c_weirlaw3_Side) (q := (⟨a0.P, r80.1, a0.W⟩ : weirlaw3_Side)) (by kernel_rfl) rfl Ty62 (At.whole _) (.tmp (by kernel_rfl) .nil)) rfl)
        · refine SJ.skip (by kernel_rfl) ?_
          refine SJ.seq (by kernel_rfl) ?_
          refine SJ.seq (by kernel_rfl) ?_
          refine SJ.region (id := 18) (by kernel_rfl) [0, 1, 2] (by kernel_rfl) ?_
          refine OJ.run [0, 1, 2] [] [2, 4, 13, 14, 121] (m2 := [(2, .pointer (some (pt b1 0))), (4, .pointer (some (pt b3 0))), (13, .int .i64 r79.1), (14, Sl.v r79.2.1), (121, .bool (r79.1 != r80.2.1))]) (by kernel_rfl) (by kernel_rfl) ?_
          refine OJ.nil ?_
          refine SJ.cond (t := (.tmp 121)) (b := (r79.1 != r80.2.1)) (by kernel_rfl) (by kernel_rfl) bne_iff_ne (fun hc93 => ?_) (fun hc93 => ?_)
          · refine SJ.seq (by kernel_rfl) ?_
            refine SJ.region (id := 19) (by kernel_rfl) [0, 1, 2] (by kernel_rfl) ?_
            refine OJ.kld (d := 122) (T := 62) (y := .tmp 2) (cd := c_weirlaw3_Side) (j := 3) (b := b1) (o := 0) (⟨a0.P, r80.1, a0.W⟩ : weirlaw3_Side) (pend2 := []) (by kernel_rfl) (by kernel_rfl) Ty62 (by kernel_rfl) rfl (At.whole _) (by kernel_rfl) rfl ?_
            refine OJ.kst (T := 62) (y := .tmp 4) (z := .tmp 122) (cd := c_weirlaw3_Side) (u := (⟨a0.P, r80.1, a0.W⟩ : weirlaw3_Side)) (j := 1) (b := b3) (o := 0) (c_weirlaw3_Side.enc (⟨a0.P, r80.1, a0.W⟩ : weirlaw3_Side)) (h2 := [(b81, c_weirref3_Port.enc r80.1), (b3, c_weirlaw3_Side.enc (⟨a0.P, r80.1, a0.W⟩ : weirlaw3_Side)), (b2, c_weirlaw3_Op.enc a1), (b1, c_weirlaw3_Side.enc (⟨a0.P, r80.1, a0.W⟩ : weirlaw3_Side))]) (owed := []) (by kernel_rfl) (by kernel_rfl) (by kernel_rfl) Ty62 rfl (Upd.whole ((Cod.len _ _).trans (Cod.len _ _).symm)) (by kernel_rfl) (by kernel_rfl) rfl ?_
            refine OW.nil ?_
            refine OJ.run [2] [] [4, 5] (m2 := [(4, .pointer (some (pt b3 0))), (5, .bool false)]) (by kernel_rfl) (by kernel_rfl) ?_
            refine OJ.nil ?_
            exact SJ.ret (by kernel_rfl) rfl (Res.run (ys := [c_weirlaw3_Side.val (⟨a0.P, r80.1, a0.W⟩ : weirlaw3_Side), .bool false]) (.cell (j := 1) (b := b3) (cd := c_weirlaw3_Side) (q := (⟨a0.P, r80.1, a0.W⟩ : weirlaw3_Side)) (by kernel_rfl) rfl Ty62 (At.whole _) (.tmp (by kernel_rfl) .nil)) rfl)
          · refine SJ.skip (by kernel_rfl) ?_
            refine SJ.seq (by kernel_rfl) ?_
            refine SJ.region (id := 20) (by kernel_rfl) [0, 1, 2, 3, 4, 5, 6, 7, 8] (by kernel_rfl) ?_
            refine OJ.run [0] [1, 2, 3, 4, 5, 6, 7, 8] [2, 4, 13, 14, 123] (m2 := [(2, .pointer (some (pt b1 0))), (4, .pointer (some (pt b3 0))), (13, .int .i64 r79.1), (14, Sl.v r79.2.1), (123, .pointer (some (pt b1 6)))]) (by kernel_rfl) (by kernel_rfl) ?_
            refine OJ.kld (d := 124) (T := 60) (y := .tmp 123) (cd := cL) (j := 3) (b := b1) (o := 6) a0.W (pend2 := []) (by kernel_rfl) (by kernel_rfl) Ty60 (by kernel_rfl) rfl (At_weirlaw3_Side_W (⟨a0.P, r80.1, a0.W⟩ : weirlaw3_Side)) (by kernel_rfl) rfl ?_
            refine OJ.run [2, 3] [4, 5, 6, 7, 8] [2, 4, 13, 14, 124, 125, 126] (m2 := [(2, .pointer (some (pt b1 0))), (4, .pointer (some (pt b3 0))), (13, .int .i64 r79.1), (14, Sl.v r79.2.1), (124, Sl.v a0.W), (125, Sl.v r79.2.1), (126, .int .i64 r79.1)]) (by kernel_rfl) (by kernel_rfl) ?_
            refine OJ.build (d := 127) (T := 116) (parts := [(0, .tmp 125), (1, .tmp 126)]) (ps := [(0, cL.val r79.2.1), (1, (cI .i64).val r79.1)]) (cd := c_weirlaw3_Win) (z0 := z_weirlaw3_Win) (⟨r79.2.1, r79.1⟩ : weirlaw3_Win) (by kernel_rfl) (by kernel_rfl) Ty116 rfl (by kernel_rfl) (Filled.cons (cd := cL) (q := r79.2.1) (o := 0) (by kernel_rfl) (Up_weirlaw3_Win_B z_weirlaw3_Win r79.2.1) (Filled.cons (cd := (cI .i64)) (q := r79.1) (o := 1) (by kernel_rfl) (Up_weirlaw3_Win_I (⟨r79.2.1, z_weirlaw3_Win.I⟩ : weirlaw3_Win) r79.1) Filled.nil)) (by kernel_rfl) (by kernel_rfl) (by kernel_rfl) ?_
            refine OJ.rowSlot (d := 128) (t := 60) (parts := [(0, .tmp 127)]) (ps := [(0, c_weirlaw3_Win.val (⟨r79.2.1, r79.1⟩ : weirlaw3_Win))]) (cd := c_weirlaw3_Win) (⟨[(⟨r79.2.1, r79.1⟩ : weirlaw3_Win)], rfl⟩ : Vec weirlaw3_Win 1) (owed := []) (by kernel_rfl) (by kernel_rfl) (by kernel_rfl) Ty116 (by kernel_rfl) (Filled.cons (cd := c_weirlaw3_Win) (q := (⟨r79.2.1, r79.1⟩ : weirlaw3_Win)) (o := 0) rfl (Upd.arr (i := 0) (by decide) (by decide)) Filled.nil) (by kernel_rfl) (by kernel_rfl) (by kernel_rfl) (fun b90 => ?_)
            refine OW.nil ?_
            refine OJ.appl (d := 129) (t := 60) (u := 60) (so := .tmp 124) (xo := .tmp 128) (j := 0) (b := b90) (l := (c_weirlaw3_Win.arr 1).enc (⟨[(⟨r79.2.1, r79.1⟩ : weirlaw3_Win)], rfl⟩ : Vec weirlaw3_Win 1)) (n := 1) (k := 1) [(⟨r79.2.1, r79.1⟩ : weirlaw3_Win)] (owed := []) (by kernel_rfl) (by kernel_rfl) (by kernel_rfl) Ty116 (by kernel_rfl) (by kernel_rfl) (by kernel_rfl) (by rfl) (Cod.arr_enc _ _ _) (by rfl) (by kernel_rfl) (by kernel_rfl) (by kernel_rfl) (fun r91 => ?_)
            refine OW.nil ?_
            refine OJ.run [7] [8] [2, 4, 13, 14, 129, 130] (m2 := [(2, .pointer (some (pt b1 0))), (4, .pointer (some (pt b3 0))), (13, .int .i64 r79.1), (14, Sl.v r79.2.1), (129, Sl.v r91), (130, .pointer (some (pt b1 6)))]) (by kernel_rfl) (by kernel_rfl) ?_
            refine OJ.kst (T := 60) (y := .tmp 130) (z := .tmp 129) (cd := cL) (u := r91) (j := 4) (b := b1) (o := 6) (c_weirlaw3_Side.enc (⟨a0.P, r80.1, r91⟩ : weirlaw3_Side)) (h2 := [(b90, (c_weirlaw3_Win.arr 1).enc (⟨[(⟨r79.2.1, r79.1⟩ : weirlaw3_Win)], rfl⟩ : Vec weirlaw3_Win 1)), (b81, c_weirref3_Port.enc r80.1), (b3, c_weirlaw3_Side.enc z_weirlaw3_Side), (b2, c_weirlaw3_Op.enc a1), (b1, c_weirlaw3_Side.enc (⟨a0.P, r80.1, r91⟩ : weirlaw3_Side))]) (owed := []) (by kernel_rfl) (by kernel_rfl) (by kernel_rfl) Ty60 rfl (Up_weirlaw3_Side_W (⟨a0.P, r80.1, a0.W⟩ : weirlaw3_Side) r91) (by kernel_rfl) (by kernel_rfl) rfl ?_
            refine OW.nil ?_
            refine OJ.nil ?_
            refine SJ.seq (by kernel_rfl) ?_
            refine SJ.draw (id := 21) (kd := [1, 1, 0, 0, 0, 0, 1, 2, 2, 0]) (bef := [0, 0, 0, 0, 0, 16, 48, 126, 255, 511]) (ord := [0, 1, 2, 3, 4, 5, 6, 7, 8, 9]) (by kernel_rfl) mixed (by kernel_rfl) ?_
            refine OJ.kld (d := 131) (T := 62) (y := .tmp 2) (cd := c_weirlaw3_Side) (j := 4) (b := b1) (o := 0) (⟨a0.P, r80.1, r91⟩ : weirlaw3_Side) (pend2 := [⟨0, 62, (pt b1 0), c_weirlaw3_Side.val (⟨a0.P, r80.1, r91⟩ : weirlaw3_Side)⟩]) (by kernel_rfl) (by kernel_rfl) Ty62 (by kernel_rfl) rfl (At.whole _) (by kernel_rfl) rfl ?_
            refine OJ.kld (d := 132) (T := 62) (y := .tmp 2) (cd := c_weirlaw3_Side) (j := 4) (b := b1) (o := 0) (⟨a0.P, r80.1, r91⟩ : weirlaw3_Side) (pend2 := [⟨1, 62, (pt b1 0), c_weirlaw3_Side.val (⟨a0.P, r80.1, r91⟩ : weirlaw3_Side)⟩, ⟨0, 62, (pt b1 0), c_weirlaw3_Side.val (⟨a0.P, r80.1, r91⟩ : weirlaw3_Side)⟩]) (by kernel_rfl) (by kernel_rfl) Ty62 (by kernel_rfl) rfl (At.whole _) (by kernel_rfl) rfl ?_
            refine OJ.run [2, 3, 4, 5] [6, 7, 8, 9] [4, 131, 132, 133, 134, 136] (m2 := [(4, .pointer (some (pt b3 0))), (131, c_weirlaw3_Side.val (⟨a0.P, r80.1, r91⟩ : weirlaw3_Side)), (132, c_weirlaw3_Side.val (⟨a0.P, r80.1, r91⟩ : weirlaw3_Side)), (133, Sl.v r79.2.1), (134, .int .i64 r79.1), (136, .pointer (some (pt b1 3)))]) (by kernel_rfl) (by kernel_rfl) ?_
            refine OJ.kld (d := 137) (T := 3) (y := .tmp 136) (cd := (cI .i64)) (j := 4) (b := b1) (o := 3) r80.1.Size (pend2 := [⟨6, 3, (pt b1 3), (cI .i64).val r80.1.Size⟩, ⟨1, 62, (pt b1 0), c_weirlaw3_Side.val (⟨a0.P, r80.1, r91⟩ : weirlaw3_Side)⟩, ⟨0, 62, (pt b1 0), c_weirlaw3_Side.val (⟨a0.P, r80.1, r91⟩ : weirlaw3_Side)⟩]) (by kernel_rfl) (by kernel_rfl) Ty3 (by kernel_rfl) rfl (At.trans (At_weirlaw3_Side_R (⟨a0.P, r80.1, r91⟩ : weirlaw3_Side)) (At_weirref3_Port_Size r80.1)) (by kernel_rfl) rfl ?_
            refine OJ.call (d := 138) (g := 67) (ats := #[62, 22, 3, 3]) (args := [.tmp 132, .tmp 133, .tmp 134, .tmp 137]) (vals := [c_weirlaw3_Side.val (⟨a0.P, r80.1, r91⟩ : weirlaw3_Side), Sl.v r79.2.1, .int .i64 r79.1, .int .i64 r80.1.Size]) (owed := [⟨0, 62, (pt b1 0), c_weirlaw3_Side.val (⟨a0.P, r80.1, r91⟩ : weirlaw3_Side)⟩]) (by kernel_rfl) F67 (by kernel_rfl) (weirlaw3_right_ok (⟨a0.P, r80.1, r91⟩ : weirlaw3_Side) r79.2.1 r79.1 r80.1.Size) (by kernel_rfl) (by kernel_rfl) (by kernel_rfl) (fun r92 => ?_)
            refine OW.known (j := 4) (q := (⟨a0.P, r80.1, r91⟩ : weirlaw3_Side)) Ty62 rfl (At.whole _) ?_
            refine OW.nil ?_
            refine OJ.kst (T := 62) (y := .tmp 4) (z := .tmp 131) (cd := c_weirlaw3_Side) (u := (⟨a0.P, r80.1, r91⟩ : weirlaw3_Side)) (j := 2) (b := b3) (o := 0) (c_weirlaw3_Side.enc (⟨a0.P, r80.1, r91⟩ : weirlaw3_Side)) (h2 := [(b90, (c_weirlaw3_Win.arr 1).enc (⟨[(⟨r79.2.1, r79.1⟩ : weirlaw3_Win)], rfl⟩ : Vec weirlaw3_Win 1)), (b81, c_weirref3_Port.enc r80.1), (b3, c_weirlaw3_Side.enc (⟨a0.P, r80.1, r91⟩ : weirlaw3_Side)), (b2, c_weirlaw3_Op.enc a1), (b1, c_weirlaw3_Side.enc (⟨a0.P, r80.1, r91⟩ : weirlaw3_Side))]) (owed := []) (by kernel_rfl) (by kernel_rfl) (by kernel_rfl) Ty62 rfl (Upd.whole ((Cod.len _ _).trans (Cod.len _ _).symm)) (by kernel_rfl) (by kernel_rfl) rfl ?_
            refine OW.nil ?_
            refine OJ.run [9] [] [4, 5] (m2 := [(4, .pointer (some (pt b3 0))), (5, .bool r92)]) (by kernel_rfl) (by kernel_rfl) ?_
            refine OJ.nil ?_
            exact SJ.ret (by kernel_rfl) rfl (Res.run (ys := [c_weirlaw3_Side.val (⟨a0.P, r80.1, r91⟩ : weirlaw3_Side), .bool r92]) (.cell (j := 2) (b := b3) (cd := c_weirlaw3_Side) (q := (⟨a0.P, r80.1, r91⟩ : weirlaw3_Side)) (by kernel_rfl) rfl Ty62 (At.whole _) (.tmp (by kernel_rfl) .nil)) rfl)
    · refine SJ.skip (by kernel_rfl) ?_
      refine SJ.inBlock ?_
      refine SJ.seq (by kernel_rfl) ?_
      refine SJ.region (id := 22) (by kernel_rfl) [0, 1, 2, 3, 4, 5, 6, 7, 8, 9] (by kernel_rfl) ?_
      refine OJ.run [0] [1, 2, 3, 4, 5, 6, 7, 8, 9] [2, 3, 4, 140] (m2 := [(2, .pointer (some (pt b1 0))), (3, .pointer (some (pt b2 0))), (4, .pointer (some (pt b3 0))), (140, .pointer (some (pt b1 0)))]) (by kernel_rfl) (by kernel_rfl) ?_
      refine OJ.kld (d := 141) (T := 23) (y := .tmp 140) (cd := cP) (j := 2) (b := b1) (o := 0) a0.P (pend2 := []) (by kernel_rfl) (by kernel_rfl) Ty23 (by kernel_rfl) rfl (At_weirlaw3_Side_P a0) (by kernel_rfl) rfl ?_
      refine OJ.run [2] [3, 4, 5, 6, 7, 8, 9] [2, 3, 4, 141, 142] (m2 := [(2, .pointer (some (pt b1 0))), (3, .pointer (some (pt b2 0))), (4, .pointer (some (pt b3 0))), (141, .pointer a0.P), (142, .pointer (some (pt b2 2)))]) (by kernel_rfl) (by kernel_rfl) ?_
      refine OJ.kld (d := 143) (T := 3) (y := .tmp 142) (cd := (cI .i64)) (j := 1) (b := b2) (o := 2) a1.I (pend2 := []) (by kernel_rfl) (by kernel_rfl) Ty3 (by kernel_rfl) rfl (At_weirlaw3_Op_I a1) (by kernel_rfl) rfl ?_
      refine OJ.call (d := 144) (g := 18) (ats := #[23, 3]) (args := [.tmp 141, .tmp 143]) (vals := [.pointer a0.P, .int .i64 a1.I]) (owed := []) (by kernel_rfl) F18 (by kernel_rfl) (ring_Port_Buffer_ok a0.P a1.I) (by kernel_rfl) (by kernel_rfl) (by kernel_rfl) (fun r95 => ?_)
      refine OW.nil ?_
      refine OJ.run [5, 6, 7, 8, 9] [] [2, 3, 4, 19, 20] (m2 := [(2, .pointer (some (pt b1 0))), (3, .pointer (some (pt b2 0))), (4, .pointer (some (pt b3 0))), (19, Sl.v r95.1), (20, .int .i64 r95.2)]) (by kernel_rfl) (by kernel_rfl) ?_
      refine OJ.nil ?_
      refine SJ.seq (by kernel_rfl) ?_
      refine SJ.region (id := 23) (by kernel_rfl) [0, 1, 2, 3, 4, 5] (by kernel_rfl) ?_
      refine OJ.run [0] [1, 2, 3, 4, 5] [2, 3, 4, 19, 20, 147] (m2 := [(2, .pointer (some (pt b1 0))), (3, .pointer (some (pt b2 0))), (4, .pointer (some (pt b3 0))), (19, Sl.v r95.1), (20, .int .i64 r95.2), (147, .pointer (some (pt b1 1)))]) (by kernel_rfl) (by kernel_rfl) ?_
      refine OJ.kld (d := 148) (T := 59) (y := .tmp 147) (cd := c_weirref3_Port) (j := 2) (b := b1) (o := 1) a0.R (pend2 := []) (by kernel_rfl) (by kernel_rfl) Ty59 (by kernel_rfl) rfl (At_weirlaw3_Side_R a0) (by kernel_rfl) rfl ?_
      refine OJ.run [2] [3, 4, 5] [2, 3, 4, 19, 20, 148, 149] (m2 := [(2, .pointer (some (pt b1 0))), (3, .pointer (some (pt b2 0))), (4, .pointer (some (pt b3 0))), (19, Sl.v r95.1), (20, .int .i64 r95.2), (148, c_weirref3_Port.val a0.R), (149, .pointer (some (pt b2 2)))]) (by kernel_rfl) (by kernel_rfl) ?_
      refine OJ.kld (d := 150) (T := 3) (y := .tmp 149) (cd := (cI .i64)) (j := 1) (b := b2) (o := 2) a1.I (pend2 := []) (by kernel_rfl) (by kernel_rfl) Ty3 (by kernel_rfl) rfl (At_weirlaw3_Op_I a1) (by kernel_rfl) rfl ?_
      refine OJ.call (d := 151) (g := 69) (ats := #[59, 3]) (args := [.tmp 148, .tmp 150]) (vals := [c_weirref3_Port.val a0.R, .int .i64 a1.I]) (owed := []) (by kernel_rfl) F69 (by kernel_rfl) (weirref3_Buffer_ok a0.R a1.I) (by kernel_rfl) (by kernel_rfl) (by kernel_rfl) (fun r96 => ?_)
      refine OW.nil ?_
      refine OJ.run [5] [] [2, 3, 4, 19, 20, 21] (m2 := [(2, .pointer (some (pt b1 0))), (3, .pointer (some (pt b2 0))), (4, .pointer (some (pt b3 0))), (19, Sl.v r95.1), (20, .int .i64 r95.2), (21, .int .i64 r96)]) (by kernel_rfl) (by kernel_rfl) ?_
      refine OJ.nil ?_
      refine SJ.seq (by kernel_rfl) ?_
      refine SJ.seq (by kernel_rfl) ?_
      refine SJ.region (id := 24) (by kernel_rfl) [0, 1, 2, 3, 4, 5, 6, 7] (by kernel_rfl) ?_
      refine OJ.run [0] [1, 2, 3, 4, 5, 6, 7] [2, 3, 4, 19, 20, 21, 152] (m2 := [(2, .pointer (some (pt b1 0))), (3, .pointer (some (pt b2 0))), (4, .pointer (some (pt b3 0))), (19, Sl.v r95.1), (20, .int .i64 r95.2), (21, .int .i64 r96), (152, .int .i64 r95.2)]) (by kernel_rfl) (by kernel_rfl) ?_
      refine OJ.call (d := 153) (g := 14) (ats := #[24]) (args := [.tmp 152]) (vals := [.int .i64 r95.2]) (owed := []) (by kernel_rfl) F14 (by kernel_rfl) (weirlaw3_num_ok r95.2) (by kernel_rfl) (by kernel_rfl) (by kernel_rfl) (fun r97 => ?_)
      refine OW.nil ?_
      refine OJ.run [2, 3, 4] [5, 6, 7] [2, 3, 4, 19, 20, 21, 156] (m2 := [(2, .pointer (some (pt b1 0))), (3, .pointer (some (pt b2 0))), (4, .pointer (some (pt b3 0))), (19, Sl.v r95.1), (20, .int .i64 r95.2), (21, .int .i64 r96), (156, .bool (r97 != r96))]) (by kernel_rfl) (by kernel_rfl) ?_
      refine OJ.join (b := (r97 != r96)) [5, 6, 7] [] [2, 3, 4, 19, 20, 21, 159] (fun y98 => [(2, .pointer (some (pt b1 0))), (3, .pointer (some (pt b2 0))), (4, .pointer (some (pt b3 0))), (19, Sl.v r95.1), (20, .int .i64 r95.2), (21, .int .i64 r96), (159, .bool y98)]) [] [] (by kernel_rfl) (t := 156) (by kernel_rfl) bne_iff_ne (fun hp_ => ?_) (fun hp_ => ?_) (by kernel_rfl) (fun _ _ _ _ _ _ h_ => h_) (fun y98 => ?_)
      · refine OJ.run [5, 6, 7] [] [2, 3, 4, 19, 20, 21, 159] (m2 := [(2, .pointer (some (pt b1 0))), (3, .pointer (some (pt b2 0))), (4, .pointer (some (pt b3 0))), (19, Sl.v r95.1), (20, .int .i64 r95.2), (21, .int .i64 r96), (159, .bool true)]) (by kernel_rfl) (by kernel_rfl) ?_
        exact OJ.nil ⟨(Cov.mem Cov.nil), rfl, _, rfl, by kernel_rfl⟩
      · refine OJ.run [5, 6, 7] [] [2, 3, 4, 19, 20, 21, 159] (m2 := [(2, .pointer (some (pt b1 0))), (3, .pointer (some (pt b2 0))), (4, .pointer (some (pt b3 0))), (19, Sl.v r95.1), (20, .int .i64 r95.2), (21, .int .i64 r96), (159, .bool (r96 != 0))]) (by kernel_rfl) (by kernel_rfl) ?_
        exact OJ.nil ⟨(Cov.mem Cov.nil), rfl, _, rfl, by kernel_rfl⟩
      · refine OJ.nil ?_
        refine SJ.cond (t := (.tmp 159)) (b := y98) (by kernel_rfl) (by kernel_rfl) Iff.rfl (fun hc106 => ?_) (fun hc106 => ?_)
        · refine SJ.seq (by kernel_rfl) ?_
          refine SJ.draw (id := 25) (kd := [1, 0, 2, 0, 0, 0, 0, 0, 0, 0, 2, 0]) (bef := [0, 0, 2, 0, 14, 30, 62, 126, 254, 510, 63, 2047]) (ord := [0, 1, 2, 3, 4, 5, 6, 7, 8, 9, 10, 11]) (by kernel_rfl) mixed (by kernel_rfl) ?_
          refine OJ.kld (d := 160) (T := 62) (y := .tmp 2) (cd := c_weirlaw3_Side) (j := 2) (b := b1) (o := 0) a0 (pend2 := [⟨0, 62, (pt b1 0), c_weirlaw3_Side.val a0⟩]) (by kernel_rfl) (by kernel_rfl) Ty62 (by kernel_rfl) rfl (At.whole _) (by kernel_rfl) rfl ?_
          refine OJ.run [1] [2, 3, 4, 5, 6, 7, 8, 9, 10, 11] [4, 19, 21, 160, 161] (m2 := [(4, .pointer (some (pt b3 0))), (19, Sl.v r95.1), (21, .int .i64 r96), (160, c_weirlaw3_Side.val a0), (161, .int .i64 r95.2)]) (by kernel_rfl) (by kernel_rfl) ?_
          refine OJ.call (d := 162) (g := 14) (ats := #[24]) (args := [.tmp 161]) (vals := [.int .i64 r95.2]) (owed := [⟨0, 62, (pt b1 0), c_weirlaw3_Side.val a0⟩]) (by kernel_rfl) F14 (by kernel_rfl) (weirlaw3_num_ok r95.2) (by kernel_rfl) (by kernel_rfl) (by kernel_rfl) (fun r101 => ?_)
          refine OW.known (j := 2) (q := a0) Ty62 rfl (At.whole _) ?_
          refine OW.nil ?_
          refine OJ.run [3, 4, 5] [6, 7, 8, 9, 10, 11] [4, 19, 160, 165] (m2 := [(4, .pointer (some (pt b3 0))), (19, Sl.v r95.1), (160, c_weirlaw3_Side.val a0), (165, .bool (r101 == r96))]) (by kernel_rfl) (by kernel_rfl) ?_
          refine OJ.join (b := (r101 == r96)) [6, 7, 8, 9] [10, 11] [4, 160, 169] (fun y102 => [(4, .pointer (some (pt b3 0))), (160, c_weirlaw3_Side.val a0), (169, .bool y102)]) [⟨0, 62, (pt b1 0), c_weirlaw3_Side.val a0⟩] [] (by kernel_rfl) (t := 165) (by kernel_rfl) beq_iff_eq (fun hp_ => ?_) (fun hp_ => ?_) (by kernel_rfl) (fun _ _ _ _ _ _ h_ => h_) (fun y102 => ?_)
          · refine OJ.run [6, 7, 8, 9] [] [4, 160, 169] (m2 := [(4, .pointer (some (pt b3 0))), (160, c_weirlaw3_Side.val a0), (169, .bool ((r95.1.len : Int) == 0))]) (by kernel_rfl) (by kernel_rfl) ?_
            exact OJ.nil ⟨(Cov.mem (Cov.keep (List.mem_of_getElem? (i := 0) rfl) Cov.nil)), rfl, _, rfl, by kernel_rfl⟩
          · refine OJ.run [6, 7, 8, 9] [] [4, 160, 169] (m2 := [(4, .pointer (some (pt b3 0))), (160, c_weirlaw3_Side.val a0), (169, .bool false)]) (by kernel_rfl) (by kernel_rfl) ?_
            exact OJ.nil ⟨(Cov.mem (Cov.keep (List.mem_of_getElem? (i := 0) rfl) Cov.nil)), rfl, _, rfl, by kernel_rfl⟩
          · refine OJ.kst (T := 62) (y := .tmp 4) (z := .tmp 160) (cd := c_weirlaw3_Side) (u := a0) (j := 0) (b := b3) (o := 0) (c_weirlaw3_Side.enc a0) (h2 := [(b3, c_weirlaw3_Side.enc a0), (b2, c_weirlaw3_Op.enc a1), (b1, c_weirlaw3_Side.enc a0)]) (owed := []) (by kernel_rfl) (by kernel_rfl) (by kernel_rfl) Ty62 rfl (Upd.whole ((Cod.len _ _).trans (Cod.len _ _).symm)) (by kernel_rfl) (by kernel_rfl) rfl ?_
            refine OW.nil ?_
            refine OJ.run [11] [] [4, 5] (m2 := [(4, .pointer (some (pt b3 0))), (5, .bool y102)]) (by kernel_rfl) (by kernel_rfl) ?_
            refine OJ.nil ?_
            exact SJ.ret (by kernel_rfl) rfl (Res.run (ys := [c_weirlaw3_Side.val a0, .bool y102]) (.cell (j := 0) (b := b3) (cd := c_weirlaw3_Side) (q := a0) (by kernel_rfl) rfl Ty62 (At.whole _) (.tmp (by kernel_rfl) .nil)) rfl)
        · refine SJ.skip (by kernel_rfl) ?_
          refine SJ.seq (by kernel_rfl) ?_
          refine SJ.region (id := 26) (by kernel_rfl) [0, 1, 2, 3, 4, 5, 6, 7, 8, 9] (by kernel_rfl) ?_
          refine OJ.run [0] [1, 2, 3, 4, 5, 6, 7, 8, 9] [2, 3, 4, 19, 170] (m2 := [(2, .pointer (some (pt b1 0))), (3, .pointer (some (pt b2 0))), (4, .pointer (some (pt b3 0))), (19, Sl.v r95.1), (170, .pointer (some (pt b1 6)))]) (by kernel_rfl) (by kernel_rfl) ?_
          refine OJ.kld (d := 171) (T := 60) (y := .tmp 170) (cd := cL) (j := 2) (b := b1) (o := 6) a0.W (pend2 := []) (by kernel_rfl) (by kernel_rfl) Ty60 (by kernel_rfl) rfl (At_weirlaw3_Side_W a0) (by kernel_rfl) rfl ?_
          refine OJ.run [2, 3] [4, 5, 6, 7, 8, 9] [2, 3, 4, 19, 171, 172, 173] (m2 := [(2, .pointer (some (pt b1 0))), (3, .pointer (some (pt b2 0))), (4, .pointer (some (pt b3 0))), (19, Sl.v r95.1), (171, Sl.v a0.W), (172, Sl.v r95.1), (173, .pointer (some (pt b2 2)))]) (by kernel_rfl) (by kernel_rfl) ?_
          refine OJ.kld (d := 174) (T := 3) (y := .tmp 173) (cd := (cI .i64)) (j := 1) (b := b2) (o := 2) a1.I (pend2 := []) (by kernel_rfl) (by kernel_rfl) Ty3 (by kernel_rfl) rfl (At_weirlaw3_Op_I a1) (by kernel_rfl) rfl ?_
          refine OJ.build (d := 175) (T := 116) (parts := [(0, .tmp 172), (1, .tmp 174)]) (ps := [(0, cL.val r95.1), (1, (cI .i64).val a1.I)]) (cd := c_weirlaw3_Win) (z0 := z_weirlaw3_Win) (⟨r95.1, a1.I⟩ : weirlaw3_Win) (by kernel_rfl) (by kernel_rfl) Ty116 rfl (by kernel_rfl) (Filled.cons (cd := cL) (q := r95.1) (o := 0) (by kernel_rfl) (Up_weirlaw3_Win_B z_weirlaw3_Win r95.1) (Filled.cons (cd := (cI .i64)) (q := a1.I) (o := 1) (by kernel_rfl) (Up_weirlaw3_Win_I (⟨r95.1, z_weirlaw3_Win.I⟩ : weirlaw3_Win) a1.I) Filled.nil)) (by kernel_rfl) (by kernel_rfl) (by kernel_rfl) ?_
          refine OJ.rowSlot (d := 176) (t := 60) (parts := [(0, .tmp 175)]) (ps := [(0, c_weirlaw3_Win.val (⟨r95.1, a1.I⟩ : weirlaw3_Win))]) (cd := c_weirlaw3_Win) (⟨[(⟨r95.1, a1.I⟩ : weirlaw3_Win)], rfl⟩ : Vec weirlaw3_Win 1) (owed := []) (by kernel_rfl) (by kernel_rfl) (by kernel_rfl) Ty116 (by kernel_rfl) (Filled.cons (cd := c_weirlaw3_Win) (q := (⟨r95.1, a1.I⟩ : weirlaw3_Win)) (o := 0) rfl (Upd.arr (i := 0) (by decide) (by decide)) Filled.nil) (by kernel_rfl) (by kernel_rfl) (by kernel_rfl) (fun b103 => ?_)
          refine OW.nil ?_
          refine OJ.appl (d := 177) (t := 60) (u := 60) (so := .tmp 171) (xo := .tmp 176) (j := 0) (b := b103) (l := (c_weirlaw3_Win.arr 1).enc (⟨[(⟨r95.1, a1.I⟩ : weirlaw3_Win)], rfl⟩ : Vec weirlaw3_Win 1)) (n := 1) (k := 1) [(⟨r95.1, a1.I⟩ : weirlaw3_Win)] (owed := []) (by kernel_rfl) (by kernel_rfl) (by kernel_rfl) Ty116 (by kernel_rfl) (by kernel_rfl) (by kernel_rfl) (by rfl) (Cod.arr_enc _ _ _) (by rfl) (by kernel_rfl) (by kernel_rfl) (by kernel_rfl) (fun r104 => ?_)
          refine OW.nil ?_
          refine OJ.run [8] [9] [2, 3, 4, 19, 177, 178] (m2 := [(2, .pointer (some (pt b1 0))), (3, .pointer (some (pt b2 0))), (4, .pointer (some (pt b3 0))), (19, Sl.v r95.1), (177, Sl.v r104), (178, .pointer (some (pt b1 6)))]) (by kernel_rfl) (by kernel_rfl) ?_
          refine OJ.kst (T := 60) (y := .tmp 178) (z := .tmp 177) (cd := cL) (u := r104) (j := 3) (b := b1) (o := 6) (c_weirlaw3_Side.enc (⟨a0.P, a0.R, r104⟩ : weirlaw3_Side)) (h2 := [(b103, (c_weirlaw3_Win.arr 1).enc (⟨[(⟨r95.1, a1.I⟩ : weirlaw3_Win)], rfl⟩ : Vec weirlaw3_Win 1)), (b3, c_weirlaw3_Side.enc z_weirlaw3_Side), (b2, c_weirlaw3_Op.enc a1), (b1, c_weirlaw3_Side.enc (⟨a0.P, a0.R, r104⟩ : weirlaw3_Side))]) (owed := []) (by kernel_rfl) (by kernel_rfl) (by kernel_rfl) Ty60 rfl (Up_weirlaw3_Side_W a0 r104) (by kernel_rfl) (by kernel_rfl) rfl ?_
          refine OW.nil ?_
          refine OJ.nil ?_
          refine SJ.seq (by kernel_rfl) ?_
          refine SJ.draw (id := 27) (kd := [1, 1, 0, 0, 1, 0, 0, 1, 2, 2, 0]) (bef := [0, 0, 0, 0, 8, 0, 32, 96, 254, 511, 1023]) (ord := [0, 1, 2, 3, 4, 5, 6, 7, 8, 9, 10]) (by kernel_rfl) mixed (by kernel_rfl) ?_
          refine OJ.kld (d := 179) (T := 62) (y := .tmp 2) (cd := c_weirlaw3_Side) (j := 3) (b := b1) (o := 0) (⟨a0.P, a0.R, r104⟩ : weirlaw3_Side) (pend2 := [⟨0, 62, (pt b1 0), c_weirlaw3_Side.val (⟨a0.P, a0.R, r104⟩ : weirlaw3_Side)⟩]) (by kernel_rfl) (by kernel_rfl) Ty62 (by kernel_rfl) rfl (At.whole _) (by kernel_rfl) rfl ?_
          refine OJ.kld (d := 180) (T := 62) (y := .tmp 2) (cd := c_weirlaw3_Side) (j := 3) (b := b1) (o := 0) (⟨a0.P, a0.R, r104⟩ : weirlaw3_Side) (pend2 := [⟨1, 62, (pt b1 0), c_weirlaw3_Side.val (⟨a0.P, a0.R, r104⟩ : weirlaw3_Side)⟩, ⟨0, 62, (pt b1 0), c_weirlaw3_Side.val (⟨a0.P, a0.R, r104⟩ : weirlaw3_Side)⟩]) (by kernel_rfl) (by kernel_rfl) Ty62 (by kernel_rfl) rfl (At.whole _) (by kernel_rfl) rfl ?_
          refine OJ.run [2, 3] [4, 5, 6, 7, 8, 9, 10] [2, 4, 179, 180, 181, 182] (m2 := [(2, .pointer (some (pt b1 0))), (4, .pointer (some (pt b3 0))), (179, c_weirlaw3_Side.val (⟨a0.P, a0.R, r104⟩ : weirlaw3_Side)), (180, c_weirlaw3_Side.val (⟨a0.P, a0.R, r104⟩ : weirlaw3_Side)), (181, Sl.v r95.1), (182, .pointer (some (pt b2 2)))]) (by kernel_rfl) (by kernel_rfl) ?_
          refine OJ.kld (d := 183) (T := 3) (y := .tmp 182) (cd := (cI .i64)) (j := 2) (b := b2) (o := 2) a1.I (pend2 := [⟨4, 3, (pt b2 2), (cI .i64).val a1.I⟩, ⟨1, 62, (pt b1 0), c_weirlaw3_Side.val (⟨a0.P, a0.R, r104⟩ : weirlaw3_Side)⟩, ⟨0, 62, (pt b1 0), c_weirlaw3_Side.val (⟨a0.P, a0.R, r104⟩ : weirlaw3_Side)⟩]) (by kernel_rfl) (by kernel_rfl) Ty3 (by kernel_rfl) rfl (At_weirlaw3_Op_I a1) (by kernel_rfl) rfl ?_
          refine OJ.run [5, 6] [7, 8, 9, 10] [4, 179, 180, 181, 183, 185] (m2 := [(4, .pointer (some (pt b3 0))), (179, c_weirlaw3_Side.val (⟨a0.P, a0.R, r104⟩ : weirlaw3_Side)), (180, c_weirlaw3_Side.val (⟨a0.P, a0.R, r104⟩ : weirlaw3_Side)), (181, Sl.v r95.1), (183, .int .i64 a1.I), (185, .pointer (some (pt b1 3)))]) (by kernel_rfl) (by kernel_rfl) ?_
          refine OJ.kld (d := 186) (T := 3) (y := .tmp 185) (cd := (cI .i64)) (j := 3) (b := b1) (o := 3) a0.R.Size (pend2 := [⟨7, 3, (pt b1 3), (cI .i64).val a0.R.Size⟩, ⟨4, 3, (pt b2 2), (cI .i64).val a1.I⟩, ⟨1, 62, (pt b1 0), c_weirlaw3_Side.val (⟨a0.P, a0.R, r104⟩ : weirlaw3_Side)⟩, ⟨0, 62, (pt b1 0), c_weirlaw3_Side.val (⟨a0.P, a0.R, r104⟩ : weirlaw3_Side)⟩]) (by kernel_rfl) (by kernel_rfl) Ty3 (by kernel_rfl) rfl (At.trans (At_weirlaw3_Side_R (⟨a0.P, a0.R, r104⟩ : weirlaw3_Side)) (At_weirref3_Port_Size a0.R)) (by kernel_rfl) rfl ?_
          refine OJ.call (d := 187) (g := 67) (ats := #[62, 22, 3, 3]) (args := [.tmp 180, .tmp 181, .tmp 183, .tmp 186]) (vals := [c_weirlaw3_Side.val (⟨a0.P, a0.R, r104⟩ : weirlaw3_Side), Sl.v r95.1, .int .i64 a1.I, .int .i64 a0.R.Size]) (owed := [⟨0, 62, (pt b1 0), c_weirlaw3_Side.val (⟨a0.P, a0.R, r104⟩ : weirlaw3_Side)⟩]) (by kernel_rfl) F67 (by kernel_rfl) (weirlaw3_right_ok (⟨a0.P, a0.R, r104⟩ : weirlaw3_Side) r95.1 a1.I a0.R.Size) (by kernel_rfl) (by kernel_rfl) (by kernel_rfl) (fun r105 => ?_)
          refine OW.known (j := 3) (q := (⟨a0.P, a0.R, r104⟩ : weirlaw3_Side)) Ty62 rfl (At.whole _) ?_
          refine OW.nil ?_
          refine OJ.kst (T := 62) (y := .tmp 4) (z := .tmp 179) (cd := c_weirlaw3_Side) (u := (⟨a0.P, a0.R, r104⟩ : weirlaw3_Side)) (j := 1) (b := b3) (o := 0) (c_weirlaw3_Side.enc (⟨a0.P, a0.R, r104⟩ : weirlaw3_Side)) (h2 := [(b103, (c_weirlaw3_Win.arr 1).enc (⟨[(⟨r95.1, a1.I⟩ : weirlaw3_Win)], rfl⟩ : Vec weirlaw3_Win 1)), (b3, c_weirlaw3_Side.enc (⟨a0.P, a0.R, r104⟩ : weirlaw3_Side)), (b2, c_weirlaw3_Op.enc a1), (b1, c_weirlaw3_Side.enc (⟨a0.P, a0.R, r104⟩ : weirlaw3_Side))]) (owed := []) (by kernel_rfl) (by kernel_rfl) (by kernel_rfl) Ty62 rfl (Upd.whole ((Cod.len _ _).trans (Cod.len _ _).symm)) (by kernel_rfl) (by kernel_rfl) rfl ?_
          refine OW.nil ?_
          refine OJ.run [10] [] [4, 5] (m2 := [(4, .pointer (some (pt b3 0))), (5, .bool r105)]) (by kernel_rfl) (by kernel_rfl) ?_
          refine OJ.nil ?_
          exact SJ.ret (by kernel_rfl) rfl (Res.run (ys := [c_weirlaw3_Side.val (⟨a0.P, a0.R, r104⟩ : weirlaw3_Side), .bool r105]) (.cell (j := 1) (b := b3) (cd := c_weirlaw3_Side) (q := (⟨a0.P, a0.R, r104⟩ : weirlaw3_Side)) (by kernel_rfl) rfl Ty62 (At.whole _) (.tmp (by kernel_rfl) .nil)) rfl)

/-! ### weir/weirref3.count: function 63 -/
noncomputable def weirref3_count.B : Code := (Try.f63.body).getD .skip
noncomputable def weirref3_count.cx : Fx := ⟨Try.prog, 63, Try.f63⟩
noncomputable def weirref3_count.out (r_ : Int) : Value := .int .i64 r_
noncomputable def weirref3_count.F0 (r_ : Int) : Reach := .ret (weirref3_count.out r_)
noncomputable def weirref3_count.F1 (a0 : weirref3_Port) (a1 : Int) (b1 : Nat) : (LS (Int × Int) Int) → Reach := loopF [.inLoop (c1 (c1 (c2 (c1 (c2 (c2 weirref3_count.B)))))), .inBlock 0, .code (c2 (c2 (c2 weirref3_count.B)))] (fun s_ : (Int × Int) => [(1, .int .i64 a1), (2, .pointer (some (pt b1 0))), (5, .int .i64 s_.1), (6, .int .i64 s_.2)]) (fun s_ : (Int × Int) => [(b1, c_weirref3_Port.enc a0)]) weirref3_count.F0
noncomputable def weirref3_count.L1 (a0 : weirref3_Port) (a1 : Int) (s2 : Int) (s3 : Int) : M (LS (Int × Int) Int) :=
  if s3 < (a0.L.len : Int) then
    idx a0.L.a a0.L.len s3 4 >>= fun p8 =>
    ld (cI .i64) p8 >>= fun x9 =>
    if x9 = a1 then
      pure (LS.next (IntKind.wrap .i64 (s2 + 1), IntKind.wrap .i64 (s3 + 1)))
    else
      pure (LS.next (s2, IntKind.wrap .i64 (s3 + 1)))
  else
    pure (LS.done s2)
theorem weirref3_count.L1_ok (a0 : weirref3_Port) (a1 : Int) (b1 : Nat) (s2 : Int) (s3 : Int) :
    SJ weirref3_count.cx [.code (c1 (c1 (c2 (c1 (c2 (c2 weirref3_count.B)))))), .inLoop (c1 (c1 (c2 (c1 (c2 (c2 weirref3_count.B)))))), .inBlock 0, .code (c2 (c2 (c2 weirref3_count.B)))] [(1, .int .i64 a1), (2, .pointer (some (pt b1 0))), (5, .int .i64 s2), (6, .int .i64 s3)] [(b1, c_weirref3_Port.enc a0)] (weirref3_count.L1 a0 a1 s2 s3) (weirref3_count.F1 a0 a1 b1) := by
  unfold weirref3_count.L1
  refine SJ.seq (by kernel_rfl) ?_
  refine SJ.seq (by kernel_rfl) ?_
  refine SJ.region (id := 3) (by kernel_rfl) [0, 1, 2, 3, 4] (by kernel_rfl) ?_
  refine OJ.run [0, 1] [2, 3, 4] [1, 2, 5, 6, 7, 8] (m2 := [(1, .int .i64 a1), (2, .pointer (some (pt b1 0))), (5, .int .i64 s2), (6, .int .i64 s3), (7, .int .i64 s3), (8, .pointer (some (pt b1 3)))]) (by kernel_rfl) (by kernel_rfl) ?_
  refine OJ.kld (d := 9) (T := 57) (y := .tmp 8) (cd := cL) (j := 0) (b := b1) (o := 3) a0.L (pend2 := []) (by kernel_rfl) (by kernel_rfl) Ty57 (by kernel_rfl) rfl (At_weirref3_Port_L a0) (by kernel_rfl) rfl ?_
  refine OJ.run [3, 4] [] [1, 2, 5, 6, 11] (m2 := [(1, .int .i64 a1), (2, .pointer (some (pt b1 0))), (5, .int .i64 s2), (6, .int .i64 s3), (11, .bool (decide (s3 < (a0.L.len : Int))))]) (by kernel_rfl) (by kernel_rfl) ?_
  refine OJ.nil ?_
  refine SJ.cond (t := (.tmp 11)) (b := decide (s3 < (a0.L.len : Int))) (by kernel_rfl) (by kernel_rfl) decide_eq_true_iff (fun hc11 => ?_) (fun hc11 => ?_)
  · refine SJ.skip (by kernel_rfl) ?_
    refine SJ.seq (by kernel_rfl) ?_
    refine SJ.block (id := 1) (by kernel_rfl) ?_
    refine SJ.seq (by kernel_rfl) ?_
    refine SJ.region (id := 5) (by kernel_rfl) [0, 1, 2, 3, 4, 5, 6, 7] (by kernel_rfl) ?_
    refine OJ.run [0] [1, 2, 3, 4, 5, 6, 7] [1, 2, 5, 6, 14] (m2 := [(1, .int .i64 a1), (2, .pointer (some (pt b1 0))), (5, .int .i64 s2), (6, .int .i64 s3), (14, .pointer (some (pt b1 3)))]) (by kernel_rfl) (by kernel_rfl) ?_
    refine OJ.kld (d := 15) (T := 57) (y := .tmp 14) (cd := cL) (j := 0) (b := b1) (o := 3) a0.L (pend2 := []) (by kernel_rfl) (by kernel_rfl) Ty57 (by kernel_rfl) rfl (At_weirref3_Port_L a0) (by kernel_rfl) rfl ?_
    refine OJ.run [2] [3, 4, 5, 6, 7] [1, 2, 5, 6, 15, 16] (m2 := [(1, .int .i64 a1), (2, .pointer (some (pt b1 0))), (5, .int .i64 s2), (6, .int .i64 s3), (15, Sl.v a0.L), (16, .int .i64 s3)]) (by kernel_rfl) (by kernel_rfl) ?_
    refine OJ.idxS (d := 17) (T := 57) (y := .tmp 15) (j := .tmp 16) (E := 110) (cap := a0.L.cap) (k := .i64) (by kernel_rfl) (by kernel_rfl) (by kernel_rfl) (by kernel_rfl) (by kernel_rfl) (by kernel_rfl) (by kernel_rfl) (by kernel_rfl) (fun p8 => ?_)
    refine OJ.run [4] [5, 6, 7] [1, 2, 5, 6, 18] (m2 := [(1, .int .i64 a1), (2, .pointer (some (pt b1 0))), (5, .int .i64 s2), (6, .int .i64 s3), (18, .pointer (some p8))]) (by kernel_rfl) (by kernel_rfl) ?_
    refine OJ.ld (d := 19) (T := 3) (y := .tmp 18) (pend2 := fun x9 => []) (by kernel_rfl) (by kernel_rfl) Ty3 (by kernel_rfl) (by kernel_rfl) (fun _ => rfl) (fun x9 => ?_)
    refine OJ.run [6, 7] [] [1, 2, 5, 6, 21] (m2 := [(1, .int .i64 a1), (2, .pointer (some (pt b1 0))), (5, .int .i64 s2), (6, .int .i64 s3), (21, .bool (x9 == a1))]) (by kernel_rfl) (by kernel_rfl) ?_
    refine OJ.nil ?_
    refine SJ.cond (t := (.tmp 21)) (b := (x9 == a1)) (by kernel_rfl) (by kernel_rfl) beq_iff_eq (fun hc10 => ?_) (fun hc10 => ?_)
    · refine SJ.region (id := 6) (by kernel_rfl) [0, 1, 2] (by kernel_rfl) ?_
      refine OJ.run [0, 1, 2] [] [1, 2, 5, 6] (m2 := [(1, .int .i64 a1), (2, .pointer (some (pt b1 0))), (5, .int .i64 (IntKind.wrap .i64 (s2 + 1))), (6, .int .i64 s3)]) (by kernel_rfl) (by kernel_rfl) ?_
      refine OJ.nil ?_
      refine SJ.inBlock ?_
      refine SJ.region (id := 4) (by kernel_rfl) [0, 1, 2] (by kernel_rfl) ?_
      refine OJ.run [0, 1, 2] [] [1, 2, 5, 6] (m2 := [(1, .int .i64 a1), (2, .pointer (some (pt b1 0))), (5, .int .i64 (IntKind.wrap .i64 (s2 + 1))), (6, .int .i64 (IntKind.wrap .i64 (s3 + 1)))]) (by kernel_rfl) (by kernel_rfl) ?_
      refine OJ.nil ?_
      exact SJ.at_ [1, 2, 5, 6] rfl (by kernel_rfl)
    · refine SJ.skip (by kernel_rfl) ?_
      refine SJ.inBlock ?_
      refine SJ.region (id := 4) (by kernel_rfl) [0, 1, 2] (by kernel_rfl) ?_
      refine OJ.run [0, 1, 2] [] [1, 2, 5, 6] (m2 := [(1, .int .i64 a1), (2, .pointer (some (pt b1 0))), (5, .int .i64 s2), (6, .int .i64 (IntKind.wrap .i64 (s3 + 1)))]) (by kernel_rfl) (by kernel_rfl) ?_
      refine OJ.nil ?_
      exact SJ.at_ [1, 2, 5, 6] rfl (by kernel_rfl)
  · refine SJ.exit (id := 0) (by kernel_rfl) (by rfl) ?_
    refine SJ.seq (by kernel_rfl) ?_
    refine SJ.region (id := 7) (by kernel_rfl) [0, 1] (by kernel_rfl) ?_
    refine OJ.run [0, 1] [] [4] (m2 := [(4, .int .i64 s2)]) (by kernel_rfl) (by kernel_rfl) ?_
    refine OJ.nil ?_
    exact SJ.ret (by kernel_rfl) rfl (Res.run (ys := [.int .i64 s2]) (.tmp (by kernel_rfl) .nil) rfl)
noncomputable def weirref3_count (a0 : weirref3_Port) (a1 : Int) : M Int :=
  slot 59 >>= fun b1 =>
  loopM (fun s_ : (Int × Int) => weirref3_count.L1 a0 a1 s_.1 s_.2) (0, 0)
theorem weirref3_count_ok (a0 : weirref3_Port) (a1 : Int) : Ref Try.prog 63 [c_weirref3_Port.val a0, .int .i64 a1] (weirref3_count a0 a1) weirref3_count.out := by
  refine Ref.of (cd := weirref3_count.B) Try.func63 (by kernel_rfl) (by kernel_rfl) ?_
  show SJ weirref3_count.cx [.code weirref3_count.B] [(0, c_weirref3_Port.val a0), (1, .int .i64 a1)] [] (weirref3_count a0 a1) weirref3_count.F0
  unfold weirref3_count
  refine SJ.seq (by kernel_rfl) ?_
  refine SJ.region (id := 0) (by kernel_rfl) [0, 1] (by kernel_rfl) ?_
  refine OJ.slotOf (d := 2) (op := (.box 59 (.tmp 0))) (cd := c_weirref3_Port) (u := a0) (owed := []) (by kernel_rfl) (box_run (by kernel_rfl)) (by kernel_rfl) (by kernel_rfl) (by kernel_rfl) (fun b1 => ?_)
  refine OW.nil ?_
  refine OJ.run [1] [] [1, 2] (m2 := [(1, .int .i64 a1), (2, .pointer (some (pt b1 0)))]) (by kernel_rfl) (by kernel_rfl) ?_
  refine OJ.nil ?_
  refine SJ.seq (by kernel_rfl) ?_
  refine SJ.region (id := 1) (by kernel_rfl) [0] (by kernel_rfl) ?_
  refine OJ.run [0] [] [1, 2, 5] (m2 := [(1, .int .i64 a1), (2, .pointer (some (pt b1 0))), (5, .int .i64 0)]) (by kernel_rfl) (by kernel_rfl) ?_
  refine OJ.nil ?_
  refine SJ.seq (by kernel_rfl) ?_
  refine SJ.seq (by kernel_rfl) ?_
  refine SJ.region (id := 2) (by kernel_rfl) [0] (by kernel_rfl) ?_
  refine OJ.run [0] [] [1, 2, 5, 6] (m2 := [(1, .int .i64 a1), (2, .pointer (some (pt b1 0))), (5, .int .i64 0), (6, .int .i64 0)]) (by kernel_rfl) (by kernel_rfl) ?_
  refine OJ.nil ?_
  refine SJ.block (id := 0) (by kernel_rfl) ?_
  exact SJ.loop (fun s_ : (Int × Int) => [(1, .int .i64 a1), (2, .pointer (some (pt b1 0))), (5, .int .i64 s_.1), (6, .int .i64 s_.2)]) (fun s_ : (Int × Int) => [(b1, c_weirref3_Port.enc a0)]) [1, 2, 5, 6] (by kernel_rfl) (by kernel_rfl) rfl (fun _ _ => rfl) (fun s_ => weirref3_count.L1_ok a0 a1 b1 s_.1 s_.2)

/-! ### weir/weirref3.Refill: function 70 -/
noncomputable def weirref3_Refill.B : Code := (Try.f70.body).getD .skip
noncomputable def weirref3_Refill.cx : Fx := ⟨Try.prog, 70, Try.f70⟩
noncomputable def weirref3_Refill.out (r_ : (weirref3_Port × Int)) : Value := .tuple #[c_weirref3_Port.val r_.1, .int .i64 r_.2]
noncomputable def weirref3_Refill.F0 (r_ : (weirref3_Port × Int)) : Reach := .ret (weirref3_Refill.out r_)
noncomputable def weirref3_Refill.F1 (a1 : Int) (b1 : Nat) (b2 : Nat) : (LS (Int × weirref3_Port × weirref3_Port) (weirref3_Port × Int)) → Reach := loopF [.inLoop (c1 (c1 (c1 (c2 (c2 weirref3_Refill.B))))), .inBlock 0, .code (c2 (c2 (c2 weirref3_Refill.B)))] (fun s_ : (Int × weirref3_Port × weirref3_Port) => [(1, .int .i64 a1), (2, .pointer (some (pt b1 0))), (4, .pointer (some (pt b2 0))), (6, .int .i64 s_.1)]) (fun s_ : (Int × weirref3_Port × weirref3_Port) => [(b2, c_weirref3_Port.enc s_.2.1), (b1, c_weirref3_Port.enc s_.2.2)]) weirref3_Refill.F0
noncomputable def weirref3_Refill.L1 (a1 : Int) (s3 : Int) (s4 : weirref3_Port) (s5 : weirref3_Port) : M (LS (Int × weirref3_Port × weirref3_Port) (weirref3_Port × Int)) :=
  if s3 < a1 then
    weirref3_first s5 1 >>= fun r13 =>
    draw >>= fun _ =>
    (if r13 < 0 then
        pure true
      else
        weirref3_count s5 2 >>= fun r14 =>
        weirref3_count s5 3 >>= fun r15 =>
        pure (decide ((IntKind.wrap .i64 (r14 + r15)) ≥ s5.Rx))) >>= fun y16 =>
    if y16 = true then
      pure (LS.done (s5, s3))
    else
      weirref3_moved s5 r13 2 >>= fun r17 =>
      pure (LS.next (IntKind.wrap .i64 (s3 + 1), s4, r17))
  else
    pure (LS.done (s5, s3))
theorem weirref3_Refill.L1_ok (a1 : Int) (b1 : Nat) (b2 : Nat) (s3 : Int) (s4 : weirref3_Port) (s5 : weirref3_Port) :
    SJ weirref3_Refill.cx [.code (c1 (c1 (c1 (c2 (c2 weirref3_Refill.B))))), .inLoop (c1 (c1 (c1 (c2 (c2 weirref3_Refill.B))))), .inBlock 0, .code (c2 (c2 (c2 weirref3_Refill.B)))] [(1, .int .i64 a1), (2, .pointer (some (pt b1 0))), (4, .pointer (some (pt b2 0))), (6, .int .i64 s3)] [(b2, c_weirref3_Port.enc s4), (b1, c_weirref3_Port.enc s5)] (weirref3_Refill.L1 a1 s3 s4 s5) (weirref3_Refill.F1 a1 b1 b2) := by
  unfold weirref3_Refill.L1
  refine SJ.seq (by kernel_rfl) ?_
  refine SJ.seq (by kernel_rfl) ?_
  refine SJ.region (id := 2) (by kernel_rfl) [0, 1, 2] (by kernel_rfl) ?_
  refine OJ.run [0, 1, 2] [] [1, 2, 4, 6, 10] (m2 := [(1, .int .i64 a1), (2, .pointer (some (pt b1 0))), (4, .pointer (some (pt b2 0))), (6, .int .i64 s3), (10, .bool (decide (s3 < a1)))]) (by kernel_rfl) (by kernel_rfl) ?_
  refine OJ.nil ?_
  refine SJ.cond (t := (.tmp 10)) (b := decide (s3 < a1)) (by kernel_rfl) (by kernel_rfl) decide_eq_true_iff (fun hc19 => ?_) (fun hc19 => ?_)
  · refine SJ.skip (by kernel_rfl) ?_
    refine SJ.block (id := 1) (by kernel_rfl) ?_
    refine SJ.seq (by kernel_rfl) ?_
    refine SJ.region (id := 3) (by kernel_rfl) [0, 1, 2] (by kernel_rfl) ?_
    refine OJ.kld (d := 11) (T := 59) (y := .tmp 2) (cd := c_weirref3_Port) (j := 1) (b := b1) (o := 0) s5 (pend2 := []) (by kernel_rfl) (by kernel_rfl) Ty59 (by kernel_rfl) rfl (At.whole _) (by kernel_rfl) rfl ?_
    refine OJ.call (d := 12) (g := 77) (ats := #[59, 3]) (args := [.tmp 11, .const (.int .i64 1)]) (vals := [c_weirref3_Port.val s5, .int .i64 1]) (owed := []) (by kernel_rfl) F77 (by kernel_rfl) (weirref3_first_ok s5 1) (by kernel_rfl) (by kernel_rfl) (by kernel_rfl) (fun r13 => ?_)
    refine OW.nil ?_
    refine OJ.run [2] [] [1, 2, 4, 6, 7] (m2 := [(1, .int .i64 a1), (2, .pointer (some (pt b1 0))), (4, .pointer (some (pt b2 0))), (6, .int .i64 s3), (7, .int .i64 r13)]) (by kernel_rfl) (by kernel_rfl) ?_
    refine OJ.nil ?_
    refine SJ.seq (by kernel_rfl) ?_
    refine SJ.seq (by kernel_rfl) ?_
    refine SJ.draw (id := 4) (kd := [0, 0, 0, 1, 2, 1, 2, 0, 0, 1, 0, 0]) (bef := [0, 1, 3, 7, 15, 7, 63, 127, 7, 263, 1023, 2047]) (ord := [0, 1, 2, 3, 5, 8, 9, 4, 6, 7, 10, 11]) (by kernel_rfl) mixed (by kernel_rfl) ?_
    refine OJ.run [0, 1, 2] [3, 5, 8, 9, 4, 6, 7, 10, 11] [1, 2, 4, 6, 7, 15] (m2 := [(1, .int .i64 a1), (2, .pointer (some (pt b1 0))), (4, .pointer (some (pt b2 0))), (6, .int .i64 s3), (7, .int .i64 r13), (15, .bool (decide (r13 < 0)))]) (by kernel_rfl) (by kernel_rfl) ?_
    refine OJ.join (b := decide (r13 < 0)) [3, 5, 8, 9, 4, 6, 7, 10, 11] [] [1, 2, 4, 6, 7, 24] (fun y16 => [(1, .int .i64 a1), (2, .pointer (some (pt b1 0))), (4, .pointer (some (pt b2 0))), (6, .int .i64 s3), (7, .int .i64 r13), (24, .bool y16)]) [⟨9, 3, (pt b1 0), (cI .i64).val s5.Rx⟩, ⟨5, 59, (pt b1 0), c_weirref3_Port.val s5⟩, ⟨3, 59, (pt b1 0), c_weirref3_Port.val s5⟩] [] (by kernel_rfl) (t := 15) (by kernel_rfl) decide_eq_true_iff (fun hp_ => ?_) (fun hp_ => ?_) (by kernel_rfl) (fun _ _ _ _ _ _ h_ => h_) (fun y16 => ?_)
    · refine OJ.run [3, 5, 8, 9, 4, 6, 7, 10, 11] [] [1, 2, 4, 6, 7, 24] (m2 := [(1, .int .i64 a1), (2, .pointer (some (pt b1 0))), (4, .pointer (some (pt b2 0))), (6, .int .i64 s3), (7, .int .i64 r13), (24, .bool true)]) (by kernel_rfl) (by kernel_rfl) ?_
      exact OJ.nil ⟨(Cov.mem Cov.nil), rfl, _, rfl, by kernel_rfl⟩
    · refine OJ.kld (d := 16) (T := 59) (y := .tmp 2) (cd := c_weirref3_Port) (j := 1) (b := b1) (o := 0) s5 (pend2 := [⟨3, 59, (pt b1 0), c_weirref3_Port.val s5⟩]) (by kernel_rfl) (by kernel_rfl) Ty59 (by kernel_rfl) rfl (At.whole _) (by kernel_rfl) rfl ?_
      refine OJ.kld (d := 18) (T := 59) (y := .tmp 2) (cd := c_weirref3_Port) (j := 1) (b := b1) (o := 0) s5 (pend2 := [⟨5, 59, (pt b1 0), c_weirref3_Port.val s5⟩, ⟨3, 59, (pt b1 0), c_weirref3_Port.val s5⟩]) (by kernel_rfl) (by kernel_rfl) Ty59 (by kernel_rfl) rfl (At.whole _) (by kernel_rfl) rfl ?_
      refine OJ.run [8] [9, 4, 6, 7, 10, 11] [1, 2, 4, 6, 7, 15, 16, 18, 21] (m2 := [(1, .int .i64 a1), (2, .pointer (some (pt b1 0))), (4, .pointer (some (pt b2 0))), (6, .int .i64 s3), (7, .int .i64 r13), (15, .bool false), (16, c_weirref3_Port.val s5), (18, c_weirref3_Port.val s5), (21, .pointer (some (pt b1 0)))]) (by kernel_rfl) (by kernel_rfl) ?_
      refine OJ.kld (d := 22) (T := 3) (y := .tmp 21) (cd := (cI .i64)) (j := 1) (b := b1) (o := 0) s5.Rx (pend2 := [⟨9, 3, (pt b1 0), (cI .i64).val s5.Rx⟩, ⟨5, 59, (pt b1 0), c_weirref3_Port.val s5⟩, ⟨3, 59, (pt b1 0), c_weirref3_Port.val s5⟩]) (by kernel_rfl) (by kernel_rfl) Ty3 (by kernel_rfl) rfl (At_weirref3_Port_Rx s5) (by kernel_rfl) rfl ?_
      refine OJ.call (d := 17) (g := 63) (ats := #[59, 3]) (args := [.tmp 16, .const (.int .i64 2)]) (vals := [c_weirref3_Port.val s5, .int .i64 2]) (owed := [⟨9, 3, (pt b1 0), (cI .i64).val s5.Rx⟩, ⟨5, 59, (pt b1 0), c_weirref3_Port.val s5⟩]) (by kernel_rfl) F63 (by kernel_rfl) (weirref3_count_ok s5 2) (by kernel_rfl) (by kernel_rfl) (by kernel_rfl) (fun r14 => ?_)
      refine OW.known (j := 1) (q := s5.Rx) Ty3 rfl (At_weirref3_Port_Rx s5) ?_
      refine OW.known (j := 1) (q := s5) Ty59 rfl (At.whole _) ?_
      refine OW.nil ?_
      refine OJ.call (d := 19) (g := 63) (ats := #[59, 3]) (args := [.tmp 18, .const (.int .i64 3)]) (vals := [c_weirref3_Port.val s5, .int .i64 3]) (owed := [⟨9, 3, (pt b1 0), (cI .i64).val s5.Rx⟩]) (by kernel_rfl) F63 (by kernel_rfl) (weirref3_count_ok s5 3) (by kernel_rfl) (by kernel_rfl) (by kernel_rfl) (fun r15 => ?_)
      refine OW.known (j := 1) (q := s5.Rx) Ty3 rfl (At_weirref3_Port_Rx s5) ?_
      refine OW.nil ?_
      refine OJ.run [7, 10, 11] [] [1, 2, 4, 6, 7, 24] (m2 := [(1, .int .i64 a1), (2, .pointer (some (pt b1 0))), (4, .pointer (some (pt b2 0))), (6, .int .i64 s3), (7, .int .i64 r13), (24, .bool (decide ((IntKind.wrap .i64 (r14 + r15)) ≥ s5.Rx)))]) (by kernel_rfl) (by kernel_rfl) ?_
      exact OJ.nil ⟨(Cov.mem (Cov.keep (List.mem_of_getElem? (i := 0) rfl) (Cov.keep (List.mem_of_getElem? (i := 1) rfl) (Cov.keep (List.mem_of_getElem? (i := 2) rfl) Cov.nil)))), rfl, _, rfl, by kernel_rfl⟩
    · refine OJ.nil ?_
      refine SJ.cond (t := (.tmp 24)) (b := y16) (by kernel_rfl) (by kernel_rfl) Iff.rfl (fun hc18 => ?_) (fun hc18 => ?_)
      · refine SJ.seq (by kernel_rfl) ?_
        refine SJ.region (id := 5) (by kernel_rfl) [0, 1, 2, 3] (by kernel_rfl) ?_
        refine OJ.kld (d := 25) (T := 59) (y := .tmp 2) (cd := c_weirref3_Port) (j := 1) (b := b1) (o := 0) s5 (pend2 := []) (by kernel_rfl) (by kernel_rfl) Ty59 (by kernel_rfl) rfl (At.whole _) (by kernel_rfl) rfl ?_
        refine OJ.run [1] [2, 3] [4, 25, 26] (m2 := [(4, .pointer (some (pt b2 0))), (25, c_weirref3_Port.val s5), (26, .int .i64 s3)]) (by kernel_rfl) (by kernel_rfl) ?_
        refine OJ.kst (T := 59) (y := .tmp 4) (z := .tmp 25) (cd := c_weirref3_Port) (u := s5) (j := 0) (b := b2) (o := 0) (c_weirref3_Port.enc s5) (h2 := [(b2, c_weirref3_Port.enc s5), (b1, c_weirref3_Port.enc s5)]) (owed := []) (by kernel_rfl) (by kernel_rfl) (by kernel_rfl) Ty59 rfl (Upd.whole ((Cod.len _ _).trans (Cod.len _ _).symm)) (by kernel_rfl) (by kernel_rfl) rfl ?_
        refine OW.nil ?_
        refine OJ.run [3] [] [4, 5] (m2 := [(4, .pointer (some (pt b2 0))), (5, .int .i64 s3)]) (by kernel_rfl) (by kernel_rfl) ?_
        refine OJ.nil ?_
        exact SJ.ret (by kernel_rfl) rfl (Res.run (ys := [c_weirref3_Port.val s5, .int .i64 s3]) (.cell (j := 0) (b := b2) (cd := c_weirref3_Port) (q := s5) (by kernel_rfl) rfl Ty59 (At.whole _) (.tmp (by kernel_rfl) .nil)) rfl)
      · refine SJ.skip (by kernel_rfl) ?_
        refine SJ.seq (by kernel_rfl) ?_
        refine SJ.region (id := 6) (by kernel_rfl) [0, 1, 2, 3] (by kernel_rfl) ?_
        refine OJ.kld (d := 27) (T := 59) (y := .tmp 2) (cd := c_weirref3_Port) (j := 1) (b := b1) (o := 0) s5 (pend2 := []) (by kernel_rfl) (by kernel_rfl) Ty59 (by kernel_rfl) rfl (At.whole _) (by kernel_rfl) rfl ?_
        refine OJ.run [1] [2, 3] [1, 2, 4, 6, 27, 28] (m2 := [(1, .int .i64 a1), (2, .pointer (some (pt b1 0))), (4, .pointer (some (pt b2 0))), (6, .int .i64 s3), (27, c_weirref3_Port.val s5), (28, .int .i64 r13)]) (by kernel_rfl) (by kernel_rfl) ?_
        refine OJ.call (d := 29) (g := 80) (ats := #[59, 3, 3]) (args := [.tmp 27, .tmp 28, .const (.int .i64 2)]) (vals := [c_weirref3_Port.val s5, .int .i64 r13, .int .i64 2]) (owed := []) (by kernel_rfl) F80 (by kernel_rfl) (weirref3_moved_ok s5 r13 2) (by kernel_rfl) (by kernel_rfl) (by kernel_rfl) (fun r17 => ?_)
        refine OW.nil ?_
        refine OJ.kst (T := 59) (y := .tmp 2) (z := .tmp 29) (cd := c_weirref3_Port) (u := r17) (j := 1) (b := b1) (o := 0) (c_weirref3_Port.enc r17) (h2 := [(b2, c_weirref3_Port.enc s4), (b1, c_weirref3_Port.enc r17)]) (owed := []) (by kernel_rfl) (by kernel_rfl) (by kernel_rfl) Ty59 rfl (Upd.whole ((Cod.len _ _).trans (Cod.len _ _).symm)) (by kernel_rfl) (by kernel_rfl) rfl ?_
        refine OW.nil ?_
        refine OJ.nil ?_
        refine SJ.region (id := 7) (by kernel_rfl) [0, 1, 2] (by kernel_rfl) ?_
        refine OJ.run [0, 1, 2] [] [1, 2, 4, 6] (m2 := [(1, .int .i64 a1), (2, .pointer (some (pt b1 0))), (4, .pointer (some (pt b2 0))), (6, .int .i64 (IntKind.wrap .i64 (s3 + 1)))]) (by kernel_rfl) (by kernel_rfl) ?_
        refine OJ.nil ?_
        refine SJ.inBlock ?_
        exact SJ.at_ [1, 2, 4, 6] rfl (by kernel_rfl)
  · refine SJ.exit (id := 0) (by kernel_rfl) (by rfl) ?_
    refine SJ.seq (by kernel_rfl) ?_
    refine SJ.region (id := 8) (by kernel_rfl) [0, 1, 2, 3] (by kernel_rfl) ?_
    refine OJ.kld (d := 32) (T := 59) (y := .tmp 2) (cd := c_weirref3_Port) (j := 1) (b := b1) (o := 0) s5 (pend2 := []) (by kernel_rfl) (by kernel_rfl) Ty59 (by kernel_rfl) rfl (At.whole _) (by kernel_rfl) rfl ?_
    refine OJ.run [1] [2, 3] [4, 32, 33] (m2 := [(4, .pointer (some (pt b2 0))), (32, c_weirref3_Port.val s5), (33, .int .i64 s3)]) (by kernel_rfl) (by kernel_rfl) ?_
    refine OJ.kst (T := 59) (y := .tmp 4) (z := .tmp 32) (cd := c_weirref3_Port) (u := s5) (j := 0) (b := b2) (o := 0) (c_weirref3_Port.enc s5) (h2 := [(b2, c_weirref3_Port.enc s5), (b1, c_weirref3_Port.enc s5)]) (owed := []) (by kernel_rfl) (by kernel_rfl) (by kernel_rfl) Ty59 rfl (Upd.whole ((Cod.len _ _).trans (Cod.len _ _).symm)) (by kernel_rfl) (by kernel_rfl) rfl ?_
    refine OW.nil ?_
    refine OJ.run [3] [] [4, 5] (m2 := [(4, .pointer (some (pt b2 0))), (5, .int .i64 s3)]) (by kernel_rfl) (by kernel_rfl) ?_
    refine OJ.nil ?_
    exact SJ.ret (by kernel_rfl) rfl (Res.run (ys := [c_weirref3_Port.val s5, .int .i64 s3]) (.cell (j := 0) (b := b2) (cd := c_weirref3_Port) (q := s5) (by kernel_rfl) rfl Ty59 (At.whole _) (.tmp (by kernel_rfl) .nil)) rfl)
noncomputable def weirref3_Refill (a0 : weirref3_Port) (a1 : Int) : M (weirref3_Port × Int) :=
  slot 59 >>= fun b1 =>
  slot 59 >>= fun b2 =>
  loopM (fun s_ : (Int × weirref3_Port × weirref3_Port) => weirref3_Refill.L1 a1 s_.1 s_.2.1 s_.2.2) (0, z_weirref3_Port, a0)
theorem weirref3_Refill_ok (a0 : weirref3_Port) (a1 : Int) : Ref Try.prog 70 [c_weirref3_Port.val a0, .int .i64 a1] (weirref3_Refill a0 a1) weirref3_Refill.out := by
  refine Ref.of (cd := weirref3_Refill.B) Try.func70 (by kernel_rfl) (by kernel_rfl) ?_
  show SJ weirref3_Refill.cx [.code weirref3_Refill.B] [(0, c_weirref3_Port.val a0), (1, .int .i64 a1)] [] (weirref3_Refill a0 a1) weirref3_Refill.F0
  unfold weirref3_Refill
  refine SJ.seq (by kernel_rfl) ?_
  refine SJ.region (id := 0) (by kernel_rfl) [0, 1, 2] (by kernel_rfl) ?_
  refine OJ.slotOf (d := 2) (op := (.box 59 (.tmp 0))) (cd := c_weirref3_Port) (u := a0) (owed := []) (by kernel_rfl) (box_run (by kernel_rfl)) (by kernel_rfl) (by kernel_rfl) (by kernel_rfl) (fun b1 => ?_)
  refine OW.nil ?_
  refine OJ.slotOf (d := 4) (op := (.alloc 59)) (cd := c_weirref3_Port) (u := z_weirref3_Port) (owed := []) (by kernel_rfl) (alloc_run Ty59) (by kernel_rfl) (by kernel_rfl) (by kernel_rfl) (fun b2 => ?_)
  refine OW.nil ?_
  refine OJ.run [2] [] [1, 2, 4] (m2 := [(1, .int .i64 a1), (2, .pointer (some (pt b1 0))), (4, .pointer (some (pt b2 0)))]) (by kernel_rfl) (by kernel_rfl) ?_
  refine OJ.nil ?_
  refine SJ.seq (by kernel_rfl) ?_
  refine SJ.region (id := 1) (by kernel_rfl) [0] (by kernel_rfl) ?_
  refine OJ.run [0] [] [1, 2, 4, 6] (m2 := [(1, .int .i64 a1), (2, .pointer (some (pt b1 0))), (4, .pointer (some (pt b2 0))), (6, .int .i64 0)]) (by kernel_rfl) (by kernel_rfl) ?_
  refine OJ.nil ?_
  refine SJ.seq (by kernel_rfl) ?_
  refine SJ.block (id := 0) (by kernel_rfl) ?_
  exact SJ.loop (fun s_ : (Int × weirref3_Port × weirref3_Port) => [(1, .int .i64 a1), (2, .pointer (some (pt b1 0))), (4, .pointer (some (pt b2 0))), (6, .int .i64 s_.1)]) (fun s_ : (Int × weirref3_Port × weirref3_Port) => [(b2, c_weirref3_Port.enc s_.2.1), (b1, c_weirref3_Port.enc s_.2.2)]) [1, 2, 4, 6] (by kernel_rfl) (by kernel_rfl) rfl (fun _ _ => rfl) (fun s_ => weirref3_Refill.L1_ok a1 b1 b2 s_.1 s_.2.1 s_.2.2)

/-! ### weir/weirref3.Release: function 71 -/
noncomputable def weirref3_Release.B : Code := (Try.f71.body).getD .skip
noncomputable def weirref3_Release.cx : Fx := ⟨Try.prog, 71, Try.f71⟩
noncomputable def weirref3_Release.out (r_ : (weirref3_Port × Int)) : Value := .tuple #[c_weirref3_Port.val r_.1, .int .i64 r_.2]
noncomputable def weirref3_Release.F0 (r_ : (weirref3_Port × Int)) : Reach := .ret (weirref3_Release.out r_)
noncomputable def weirref3_Release (a0 : weirref3_Port) (a1 : Int) : M (weirref3_Port × Int) :=
  slot 59 >>= fun b1 =>
  slot 59 >>= fun b2 =>
  weirref3_Buffer a0 a1 >>= fun r3 =>
  if r3 ≠ 0 then
    pure (a0, r3)
  else
    weirref3_moved a0 a1 1 >>= fun r4 =>
    pure (r4, 0)
theorem weirref3_Release_ok (a0 : weirref3_Port) (a1 : Int) : Ref Try.prog 71 [c_weirref3_Port.val a0, .int .i64 a1] (weirref3_Release a0 a1) weirref3_Release.out := by
  refine Ref.of (cd := weirref3_Release.B) Try.func71 (by kernel_rfl) (by kernel_rfl) ?_
  show SJ weirref3_Release.cx [.code weirref3_Release.B] [(0, c_weirref3_Port.val a0), (1, .int .i64 a1)] [] (weirref3_Release a0 a1) weirref3_Release.F0
  unfold weirref3_Release
  refine SJ.seq (by kernel_rfl) ?_
  refine SJ.region (id := 0) (by kernel_rfl) [0, 1, 2] (by kernel_rfl) ?_
  refine OJ.slotOf (d := 2) (op := (.box 59 (.tmp 0))) (cd := c_weirref3_Port) (u := a0) (owed := []) (by kernel_rfl) (box_run (by kernel_rfl)) (by kernel_rfl) (by kernel_rfl) (by kernel_rfl) (fun b1 => ?_)
  refine OW.nil ?_
  refine OJ.slotOf (d := 4) (op := (.alloc 59)) (cd := c_weirref3_Port) (u := z_weirref3_Port) (owed := []) (by kernel_rfl) (alloc_run Ty59) (by kernel_rfl) (by kernel_rfl) (by kernel_rfl) (fun b2 => ?_)
  refine OW.nil ?_
  refine OJ.run [2] [] [1, 2, 4] (m2 := [(1, .int .i64 a1), (2, .pointer (some (pt b1 0))), (4, .pointer (some (pt b2 0)))]) (by kernel_rfl) (by kernel_rfl) ?_
  refine OJ.nil ?_
  refine SJ.seq (by kernel_rfl) ?_
  refine SJ.region (id := 1) (by kernel_rfl) [0, 1, 2, 3] (by kernel_rfl) ?_
  refine OJ.kld (d := 7) (T := 59) (y := .tmp 2) (cd := c_weirref3_Port) (j := 1) (b := b1) (o := 0) a0 (pend2 := []) (by kernel_rfl) (by kernel_rfl) Ty59 (by kernel_rfl) rfl (At.whole _) (by kernel_rfl) rfl ?_
  refine OJ.run [1] [2, 3] [1, 2, 4, 7, 8] (m2 := [(1, .int .i64 a1), (2, .pointer (some (pt b1 0))), (4, .pointer (some (pt b2 0))), (7, c_weirref3_Port.val a0), (8, .int .i64 a1)]) (by kernel_rfl) (by kernel_rfl) ?_
  refine OJ.call (d := 9) (g := 69) (ats := #[59, 3]) (args := [.tmp 7, .tmp 8]) (vals := [c_weirref3_Port.val a0, .int .i64 a1]) (owed := []) (by kernel_rfl) F69 (by kernel_rfl) (weirref3_Buffer_ok a0 a1) (by kernel_rfl) (by kernel_rfl) (by kernel_rfl) (fun r3 => ?_)
  refine OW.nil ?_
  refine OJ.run [3] [] [1, 2, 4, 6] (m2 := [(1, .int .i64 a1), (2, .pointer (some (pt b1 0))), (4, .pointer (some (pt b2 0))), (6, .int .i64 r3)]) (by kernel_rfl) (by kernel_rfl) ?_
  refine OJ.nil ?_
  refine SJ.seq (by kernel_rfl) ?_
  refine SJ.seq (by kernel_rfl) ?_
  refine SJ.region (id := 2) (by kernel_rfl) [0, 1] (by kernel_rfl) ?_
  refine OJ.run [0, 1] [] [1, 2, 4, 6, 11] (m2 := [(1, .int .i64 a1), (2, .pointer (some (pt b1 0))), (4, .pointer (some (pt b2 0))), (6, .int .i64 r3), (11, .bool (r3 != 0))]) (by kernel_rfl) (by kernel_rfl) ?_
  refine OJ.nil ?_
  refine SJ.cond (t := (.tmp 11)) (b := (r3 != 0)) (by kernel_rfl) (by kernel_rfl) bne_iff_ne (fun hc5 => ?_) (fun hc5 => ?_)
  · refine SJ.seq (by kernel_rfl) ?_
    refine SJ.region (id := 3) (by kernel_rfl) [0, 1, 2, 3] (by kernel_rfl) ?_
    refine OJ.kld (d := 12) (T := 59) (y := .tmp 2) (cd := c_weirref3_Port) (j := 1) (b := b1) (o := 0) a0 (pend2 := []) (by kernel_rfl) (by kernel_rfl) Ty59 (by kernel_rfl) rfl (At.whole _) (by kernel_rfl) rfl ?_
    refine OJ.run [1] [2, 3] [4, 12, 13] (m2 := [(4, .pointer (some (pt b2 0))), (12, c_weirref3_Port.val a0), (13, .int .i64 r3)]) (by kernel_rfl) (by kernel_rfl) ?_
    refine OJ.kst (T := 59) (y := .tmp 4) (z := .tmp 12) (cd := c_weirref3_Port) (u := a0) (j := 0) (b := b2) (o := 0) (c_weirref3_Port.enc a0) (h2 := [(b2, c_weirref3_Port.enc a0), (b1, c_weirref3_Port.enc a0)]) (owed := []) (by kernel_rfl) (by kernel_rfl) (by kernel_rfl) Ty59 rfl (Upd.whole ((Cod.len _ _).trans (Cod.len _ _).symm)) (by kernel_rfl) (by kernel_rfl) rfl ?_
    refine OW.nil ?_
    refine OJ.run [3] [] [4, 5] (m2 := [(4, .pointer (some (pt b2 0))), (5, .int .i64 r3)]) (by kernel_rfl) (by kernel_rfl) ?_
    refine OJ.nil ?_
    exact SJ.ret (by kernel_rfl) rfl (Res.run (ys := [c_weirref3_Port.val a0, .int .i64 r3]) (.cell (j := 0) (b := b2) (cd := c_weirref3_Port) (q := a0) (by kernel_rfl) rfl Ty59 (At.whole _) (.tmp (by kernel_rfl) .nil)) rfl)
  · refine SJ.skip (by kernel_rfl) ?_
    refine SJ.seq (by kernel_rfl) ?_
    refine SJ.region (id := 4) (by kernel_rfl) [0, 1, 2, 3, 4] (by kernel_rfl) ?_
    refine OJ.kld (d := 14) (T := 59) (y := .tmp 2) (cd := c_weirref3_Port) (j := 1) (b := b1) (o := 0) a0 (pend2 := []) (by kernel_rfl) (by kernel_rfl) Ty59 (by kernel_rfl) rfl (At.whole _) (by kernel_rfl) rfl ?_
    refine OJ.run [1] [2, 3, 4] [4, 14, 15] (m2 := [(4, .pointer (some (pt b2 0))), (14, c_weirref3_Port.val a0), (15, .int .i64 a1)]) (by kernel_rfl) (by kernel_rfl) ?_
    refine OJ.call (d := 16) (g := 80) (ats := #[59, 3, 3]) (args := [.tmp 14, .tmp 15, .const (.int .i64 1)]) (vals := [c_weirref3_Port.val a0, .int .i64 a1, .int .i64 1]) (owed := []) (by kernel_rfl) F80 (by kernel_rfl) (weirref3_moved_ok a0 a1 1) (by kernel_rfl) (by kernel_rfl) (by kernel_rfl) (fun r4 => ?_)
    refine OW.nil ?_
    refine OJ.kst (T := 59) (y := .tmp 4) (z := .tmp 16) (cd := c_weirref3_Port) (u := r4) (j := 0) (b := b2) (o := 0) (c_weirref3_Port.enc r4) (h2 := [(b2, c_weirref3_Port.enc r4), (b1, c_weirref3_Port.enc a0)]) (owed := []) (by kernel_rfl) (by kernel_rfl) (by kernel_rfl) Ty59 rfl (Upd.whole ((Cod.len _ _).trans (Cod.len _ _).symm)) (by kernel_rfl) (by kernel_rfl) rfl ?_
    refine OW.nil ?_
    refine OJ.run [4] [] [4, 5] (m2 := [(4, .pointer (some (pt b2 0))), (5, .int .i64 0)]) (by kernel_rfl) (by kernel_rfl) ?_
    refine OJ.nil ?_
    exact SJ.ret (by kernel_rfl) rfl (Res.run (ys := [c_weirref3_Port.val r4, .int .i64 0]) (.cell (j := 0) (b := b2) (cd := c_weirref3_Port) (q := r4) (by kernel_rfl) rfl Ty59 (At.whole _) (.tmp (by kernel_rfl) .nil)) rfl)
end Go.Proofs.Ytoddkagehbcfjaa.Lx
