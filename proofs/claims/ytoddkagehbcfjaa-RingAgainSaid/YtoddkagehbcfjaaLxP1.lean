/- Programs of the M-world for Go functions, each with the proof that the Go text does what it says. Printed by lxgen.py. -/
import Derived.Test.YtoddkagehbcfjaaLxT
import Derived.Test.YtoddkagehbcfjaaLxP0
set_option linter.unusedVariables false
set_option linter.unusedSimpArgs false
namespace Go.Proofs.Ytoddkagehbcfjaa.Lx
open Go Go.Proofs
/-! ### weir/weirref3.Poll: function 66 -/
noncomputable def weirref3_Poll.B : Code := (Try.f66.body).getD .skip
noncomputable def weirref3_Poll.cx : Fx := ⟨Try.prog, 66, Try.f66⟩
noncomputable def weirref3_Poll.out (r_ : (weirref3_Port × Int × Int × Bool)) : Value := .tuple #[c_weirref3_Port.val r_.1, .int .i64 r_.2.1, .int .i64 r_.2.2.1, .bool r_.2.2.2]
noncomputable def weirref3_Poll.F0 (r_ : (weirref3_Port × Int × Int × Bool)) : Reach := .ret (weirref3_Poll.out r_)
noncomputable def weirref3_Poll (a0 : weirref3_Port) : M (weirref3_Port × Int × Int × Bool) :=
  slot 59 >>= fun b1 =>
  slot 59 >>= fun b2 =>
  weirref3_first a0 3 >>= fun r3 =>
  if r3 < 0 then
    pure (a0, 0, 0, false)
  else
    draw >>= fun _ =>
    idx a0.L.a a0.L.len r3 4 >>= fun p4 =>
    ld (cI .i64) (Addr.add p4 2) >>= fun x5 =>
    weirref3_moved a0 r3 4 >>= fun r6 =>
    same (cI .i64) (Addr.add p4 2) x5 >>= fun _ =>
    same (cI .i64) (Addr.add p4 2) x5 >>= fun _ =>
    pure (r6, r3, x5, true)
theorem weirref3_Poll_ok (a0 : weirref3_Port) : Ref Try.prog 66 [c_weirref3_Port.val a0] (weirref3_Poll a0) weirref3_Poll.out := by
  refine Ref.of (cd := weirref3_Poll.B) Try.func66 ?_
  show SJ weirref3_Poll.cx [.code weirref3_Poll.B] [(0, c_weirref3_Port.val a0)] [] (weirref3_Poll a0) weirref3_Poll.F0
  unfold weirref3_Poll
  refine SJ.sr 5 ?_
  refine OJ.slotOf (d := 1) (op := (.box 59 (.tmp 0))) (cd := c_weirref3_Port) (u := a0) (owed := []) (box_run (by kernel_rfl)) (fun b1 => ?_)
  refine OW.nil ?_
  refine OJ.slotOf (d := 2) (op := (.alloc 59)) (cd := c_weirref3_Port) (u := z_weirref3_Port) (owed := []) (alloc_run Ty59) (fun b2 => ?_)
  refine OW.nil ?_
  refine OJ.go 3 [(5, .bool false), (4, .int .i64 0), (3, .int .i64 0)] ?_
  refine OJ.nil ?_
  refine SJ.sr 3 ?_
  refine OJ.kld (d := 7) (y := .tmp 1) (cd := c_weirref3_Port) (j := 1) (b := b1) (o := 0) a0 (pend2 := []) Ty59 rfl (At.whole _) rfl ?_
  refine OJ.call (d := 8) (g := 77) (ats := #[59, 3]) (args := [.tmp 7, .const (.int .i64 3)]) (owed := []) F77 (weirref3_first_ok a0 3) (fun r3 => ?_)
  refine OW.nil ?_
  refine OJ.go 1 [(6, .int .i64 r3)] ?_
  refine OJ.nil ?_
  refine SJ.seq ?_
  refine SJ.sr 2 ?_
  refine OJ.go 2 [(10, .bool (decide (r3 < 0))), (9, .int .i64 r3)] ?_
  refine OJ.nil ?_
  refine SJ.cond (t := (.tmp 10)) (b := decide (r3 < 0)) decide_eq_true_iff (fun hc7 => ?_) (fun hc7 => ?_)
  · refine SJ.sr 5 ?_
    refine OJ.kld (d := 11) (y := .tmp 1) (cd := c_weirref3_Port) (j := 1) (b := b1) (o := 0) a0 (pend2 := []) Ty59 rfl (At.whole _) rfl ?_
    refine OJ.kst (y := .tmp 2) (z := .tmp 11) (cd := c_weirref3_Port) (u := a0) (j := 0) (b := b2) (o := 0) (c_weirref3_Port.enc a0) (owed := []) Ty59 rfl (Upd.whole ((Cod.len _ _).trans (Cod.len _ _).symm)) rfl ?_
    refine OW.nil ?_
    refine OJ.go 3 [(5, .bool false), (4, .int .i64 0), (3, .int .i64 0)] ?_
    refine OJ.nil ?_
    exact SJ.ret rfl (Res.run (ys := [c_weirref3_Port.val a0, .int .i64 0, .int .i64 0, .bool false]) (.cell (j := 0) (b := b2) (cd := c_weirref3_Port) (q := a0) (by kernel_rfl) rfl Ty59 (At.whole _) (.tmp (by kernel_rfl) (.tmp (by kernel_rfl) (.tmp (by kernel_rfl) .nil)))) rfl)
  · refine SJ.skip ?_
    refine SJ.seq ?_
    refine SJ.draw (id := 4) (kd := [1, 0, 2, 0, 0, 1, 0, 0, 0, 1, 2, 0, 0, 0]) (bef := [0, 0, 3, 0, 0, 16, 0, 112, 240, 496, 7, 1039, 4095, 8191]) (ord := [0, 1, 4, 5, 6, 7, 8, 9, 2, 3, 10, 11, 12, 13]) mixed ?_
    refine OJ.kld (d := 12) (y := .tmp 1) (cd := c_weirref3_Port) (j := 1) (b := b1) (o := 0) a0 (pend2 := [⟨0, 59, (pt b1 0), c_weirref3_Port.val a0⟩]) Ty59 rfl (At.whole _) rfl ?_
    refine OJ.go 2 [(16, .pointer (some (pt b1 3))), (13, .int .i64 r3)] ?_
    refine OJ.kld (d := 17) (y := .tmp 16) (cd := cL) (j := 1) (b := b1) (o := 3) a0.L (pend2 := [⟨5, 57, (pt b1 3), cL.val a0.L⟩, ⟨0, 59, (pt b1 0), c_weirref3_Port.val a0⟩]) Ty57 rfl (At_weirref3_Port_L a0) rfl ?_
    refine OJ.go 1 [(18, .int .i64 r3)] ?_
    refine OJ.idxS (d := 19) (T := 57) (y := .tmp 17) (j := .tmp 18) (E := 110) (cap := a0.L.cap) (k := .i64) (fun p4 => ?_)
    refine OJ.go 1 [(20, .pointer (some (Addr.add p4 2)))] ?_
    refine OJ.ld (d := 21) (y := .tmp 20) (pend2 := fun x5 => [⟨9, 3, (Addr.add p4 2), (cI .i64).val x5⟩, ⟨5, 57, (pt b1 3), cL.val a0.L⟩, ⟨0, 59, (pt b1 0), c_weirref3_Port.val a0⟩]) Ty3 (fun _ => rfl) (fun x5 => ?_)
    refine OJ.call (d := 14) (g := 80) (ats := #[59, 3, 3]) (args := [.tmp 12, .tmp 13, .const (.int .i64 4)]) (owed := [⟨9, 3, (Addr.add p4 2), (cI .i64).val x5⟩, ⟨5, 57, (pt b1 3), cL.val a0.L⟩]) F80 (weirref3_moved_ok a0 r3 4) (fun r6 => ?_)
    refine OW.same Ty3 ?_
    refine OW.known (j := 1) (q := a0.L) Ty57 rfl (At_weirref3_Port_L a0) ?_
    refine OW.nil ?_
    refine OJ.go 1 [(15, .int .i64 r3)] ?_
    refine OJ.kst (y := .tmp 2) (z := .tmp 14) (cd := c_weirref3_Port) (u := r6) (j := 0) (b := b2) (o := 0) (c_weirref3_Port.enc r6) (owed := [⟨9, 3, (Addr.add p4 2), (cI .i64).val x5⟩, ⟨5, 57, (pt b1 3), cL.val a0.L⟩]) Ty59 rfl (Upd.whole ((Cod.len _ _).trans (Cod.len _ _).symm)) rfl ?_
    refine OW.same Ty3 ?_
    refine OW.known (j := 1) (q := a0.L) Ty57 rfl (At_weirref3_Port_L a0) ?_
    refine OW.nil ?_
    refine OJ.go 3 [(5, .bool true), (4, .int .i64 x5), (3, .int .i64 r3)] ?_
    refine OJ.nil ?_
    exact SJ.ret rfl (Res.run (ys := [c_weirref3_Port.val r6, .int .i64 r3, .int .i64 x5, .bool true]) (.cell (j := 0) (b := b2) (cd := c_weirref3_Port) (q := r6) (by kernel_rfl) rfl Ty59 (At.whole _) (.tmp (by kernel_rfl) (.tmp (by kernel_rfl) (.tmp (by kernel_rfl) .nil)))) rfl)

/-! ### weir/weirref3.Bytes: function 76 -/
noncomputable def weirref3_Bytes.B : Code := (Try.f76.body).getD .skip
noncomputable def weirref3_Bytes.cx : Fx := ⟨Try.prog, 76, Try.f76⟩
noncomputable def weirref3_Bytes.out (r_ : Sl) : Value := Sl.v r_
noncomputable def weirref3_Bytes.F0 (r_ : Sl) : Reach := .ret (weirref3_Bytes.out r_)
noncomputable def weirref3_Bytes.F1 (a0 : weirref3_Port) (a1 : Int) (a2 : Int) (b1 : Nat) : (LS (Sl × Int) Sl) → Reach := loopF [.inLoop (c1 (c1 (c2 (c1 (c2 (c2 weirref3_Bytes.B)))))), .inBlock 0, .code (c2 (c2 (c2 weirref3_Bytes.B)))] (fun s_ : (Sl × Int) => [(1, .int .i64 a1), (2, .int .i64 a2), (3, .pointer (some (pt b1 0))), (7, Sl.v s_.1), (8, .int .i64 s_.2)]) (fun s_ : (Sl × Int) => [(b1, c_weirref3_Port.enc a0)]) weirref3_Bytes.F0
noncomputable def weirref3_Bytes.L1 (a0 : weirref3_Port) (a1 : Int) (a2 : Int) (s2 : Sl) (s3 : Int) : M (LS (Sl × Int) Sl) :=
  if s3 < a2 then
    idx a0.L.a a0.L.len a1 4 >>= fun p20 =>
    ld cL (Addr.add p20 3) >>= fun x21 =>
    if s3 < (x21.len : Int) then
      idx a0.L.a a0.L.len a1 4 >>= fun p26 =>
      ld cL (Addr.add p26 3) >>= fun x27 =>
      idx x27.a x27.len s3 1 >>= fun p28 =>
      ld (cI .u8) p28 >>= fun x29 =>
      slot 5 >>= fun b30 =>
      appl (cI .u8) 5 1 0 s2 [x29] >>= fun r31 =>
      pure (LS.next (r31, IntKind.wrap .i64 (s3 + 1)))
    else
      slot 5 >>= fun b32 =>
      appl (cI .u8) 5 1 0 s2 [0] >>= fun r33 =>
      pure (LS.next (r33, IntKind.wrap .i64 (s3 + 1)))
  else
    pure (LS.done s2)
theorem weirref3_Bytes.L1_ok (a0 : weirref3_Port) (a1 : Int) (a2 : Int) (b1 : Nat) (s2 : Sl) (s3 : Int) :
    SJ weirref3_Bytes.cx [.code (c1 (c1 (c2 (c1 (c2 (c2 weirref3_Bytes.B)))))), .inLoop (c1 (c1 (c2 (c1 (c2 (c2 weirref3_Bytes.B)))))), .inBlock 0, .code (c2 (c2 (c2 weirref3_Bytes.B)))] [(1, .int .i64 a1), (2, .int .i64 a2), (3, .pointer (some (pt b1 0))), (7, Sl.v s2), (8, .int .i64 s3)] [(b1, c_weirref3_Port.enc a0)] (weirref3_Bytes.L1 a0 a1 a2 s2 s3) (weirref3_Bytes.F1 a0 a1 a2 b1) := by
  unfold weirref3_Bytes.L1
  refine SJ.seq ?_
  refine SJ.sr 3 ?_
  refine OJ.go 3 [(12, .bool (decide (s3 < a2))), (11, .int .i64 a2), (10, .int .i64 s3)] ?_
  refine OJ.nil ?_
  refine SJ.cond (t := (.tmp 12)) (b := decide (s3 < a2)) decide_eq_true_iff (fun hc35 => ?_) (fun hc35 => ?_)
  · refine SJ.skip ?_
    refine SJ.seq ?_
    refine SJ.block (id := 1) ?_
    refine SJ.sr 1 ?_
    refine OJ.go 1 [(9, .int .u8 0)] ?_
    refine OJ.nil ?_
    refine SJ.seq ?_
    refine SJ.sr 9 ?_
    refine OJ.go 2 [(16, .pointer (some (pt b1 3))), (15, .int .i64 s3)] ?_
    refine OJ.kld (d := 17) (y := .tmp 16) (cd := cL) (j := 0) (b := b1) (o := 3) a0.L (pend2 := []) Ty57 rfl (At_weirref3_Port_L a0) rfl ?_
    refine OJ.go 1 [(18, .int .i64 a1)] ?_
    refine OJ.idxS (d := 19) (T := 57) (y := .tmp 17) (j := .tmp 18) (E := 110) (cap := a0.L.cap) (k := .i64) (fun p20 => ?_)
    refine OJ.go 1 [(20, .pointer (some (Addr.add p20 3)))] ?_
    refine OJ.ld (d := 21) (y := .tmp 20) (pend2 := fun x21 => []) Ty22 (fun _ => rfl) (fun x21 => ?_)
    refine OJ.go 2 [(23, .bool (decide (s3 < (x21.len : Int)))), (22, .int .i64 (x21.len : Int))] ?_
    refine OJ.nil ?_
    refine SJ.cond (t := (.tmp 23)) (b := decide (s3 < (x21.len : Int))) decide_eq_true_iff (fun hc34 => ?_) (fun hc34 => ?_)
    · refine SJ.rg 10 ?_
      refine OJ.go 1 [(24, .pointer (some (pt b1 3)))] ?_
      refine OJ.kld (d := 25) (y := .tmp 24) (cd := cL) (j := 0) (b := b1) (o := 3) a0.L (pend2 := []) Ty57 rfl (At_weirref3_Port_L a0) rfl ?_
      refine OJ.go 1 [(26, .int .i64 a1)] ?_
      refine OJ.idxS (d := 27) (T := 57) (y := .tmp 25) (j := .tmp 26) (E := 110) (cap := a0.L.cap) (k := .i64) (fun p26 => ?_)
      refine OJ.go 1 [(28, .pointer (some (Addr.add p26 3)))] ?_
      refine OJ.ld (d := 29) (y := .tmp 28) (pend2 := fun x27 => []) Ty22 (fun _ => rfl) (fun x27 => ?_)
      refine OJ.go 1 [(30, .int .i64 s3)] ?_
      refine OJ.idxS (d := 31) (T := 22) (y := .tmp 29) (j := .tmp 30) (E := 5) (cap := x27.cap) (k := .i64) (fun p28 => ?_)
      refine OJ.ld (d := 32) (y := .tmp 31) (pend2 := fun x29 => []) Ty5 (fun _ => rfl) (fun x29 => ?_)
      refine OJ.go 1 [(9, .int .u8 x29)] ?_
      refine OJ.nil ?_
      refine SJ.rg 5 ?_
      refine OJ.go 2 [(34, .int .u8 x29), (33, Sl.v s2)] ?_
      refine OJ.rowSlot (d := 35) (t := 22) (parts := [(0, .tmp 34)]) (ps := [(0, (cI .u8).val x29)]) (cd := (cI .u8)) (⟨[x29], rfl⟩ : Vec Int 1) (owed := []) Ty5 (Filled.cons (cd := (cI .u8)) (q := x29) (o := 0) rfl (Upd.arr (i := 0) (by decide) (by decide)) Filled.nil) (fun b30 => ?_)
      refine OW.nil ?_
      refine OJ.appl (d := 36) (t := 22) (u := 22) (so := .tmp 33) (xo := .tmp 35) (j := 0) (b := b30) (l := ((cI .u8).arr 1).enc (⟨[x29], rfl⟩ : Vec Int 1)) (n := 1) (k := 1) [x29] (owed := []) Ty5 (by rfl) (Cod.arr_enc _ _ _) (by rfl) (fun r31 => ?_)
      refine OW.nil ?_
      refine OJ.go 1 [(7, Sl.v r31)] ?_
      refine OJ.nil ?_
      refine SJ.inBlock ?_
      refine SJ.rg 3 ?_
      refine OJ.go 3 [(8, .int .i64 (IntKind.wrap .i64 (s3 + 1))), (14, .int .i64 (IntKind.wrap .i64 (s3 + 1))), (13, .int .i64 s3)] ?_
      refine OJ.nil ?_
      refine SJ.forget (List.Sublist.cons _ (List.Sublist.cons_cons _ List.Sublist.slnil)) ?_
      exact SJ.at_ [1, 2, 3, 7, 8] rfl
    · refine SJ.skip ?_
      refine SJ.rg 5 ?_
      refine OJ.go 2 [(34, .int .u8 0), (33, Sl.v s2)] ?_
      refine OJ.rowSlot (d := 35) (t := 22) (parts := [(0, .tmp 34)]) (ps := [(0, (cI .u8).val 0)]) (cd := (cI .u8)) (⟨[0], rfl⟩ : Vec Int 1) (owed := []) Ty5 (Filled.cons (cd := (cI .u8)) (q := 0) (o := 0) rfl (Upd.arr (i := 0) (by decide) (by decide)) Filled.nil) (fun b32 => ?_)
      refine OW.nil ?_
      refine OJ.appl (d := 36) (t := 22) (u := 22) (so := .tmp 33) (xo := .tmp 35) (j := 0) (b := b32) (l := ((cI .u8).arr 1).enc (⟨[0], rfl⟩ : Vec Int 1)) (n := 1) (k := 1) [0] (owed := []) Ty5 (by rfl) (Cod.arr_enc _ _ _) (by rfl) (fun r33 => ?_)
      refine OW.nil ?_
      refine OJ.go 1 [(7, Sl.v r33)] ?_
      refine OJ.nil ?_
      refine SJ.inBlock ?_
      refine SJ.rg 3 ?_
      refine OJ.go 3 [(8, .int .i64 (IntKind.wrap .i64 (s3 + 1))), (14, .int .i64 (IntKind.wrap .i64 (s3 + 1))), (13, .int .i64 s3)] ?_
      refine OJ.nil ?_
      refine SJ.forget (List.Sublist.cons _ (List.Sublist.cons_cons _ List.Sublist.slnil)) ?_
      exact SJ.at_ [1, 2, 3, 7, 8] rfl
  · refine SJ.exit (id := 0) (by rfl) ?_
    refine SJ.sr 2 ?_
    refine OJ.go 2 [(6, Sl.v s2), (37, Sl.v s2)] ?_
    refine OJ.nil ?_
    exact SJ.ret rfl (Res.run (ys := [Sl.v s2]) (.tmp (by kernel_rfl) .nil) rfl)
noncomputable def weirref3_Bytes (a0 : weirref3_Port) (a1 : Int) (a2 : Int) : M Sl :=
  slot 59 >>= fun b1 =>
  loopM (fun s_ : (Sl × Int) => weirref3_Bytes.L1 a0 a1 a2 s_.1 s_.2) (Sl.nil, 0)
theorem weirref3_Bytes_ok (a0 : weirref3_Port) (a1 : Int) (a2 : Int) : Ref Try.prog 76 [c_weirref3_Port.val a0, .int .i64 a1, .int .i64 a2] (weirref3_Bytes a0 a1 a2) weirref3_Bytes.out := by
  refine Ref.of (cd := weirref3_Bytes.B) Try.func76 ?_
  show SJ weirref3_Bytes.cx [.code weirref3_Bytes.B] [(0, c_weirref3_Port.val a0), (1, .int .i64 a1), (2, .int .i64 a2)] [] (weirref3_Bytes a0 a1 a2) weirref3_Bytes.F0
  unfold weirref3_Bytes
  refine SJ.sr 2 ?_
  refine OJ.slotOf (d := 3) (op := (.box 59 (.tmp 0))) (cd := c_weirref3_Port) (u := a0) (owed := []) (box_run (by kernel_rfl)) (fun b1 => ?_)
  refine OW.nil ?_
  refine OJ.go 1 [(6, Sl.v Sl.nil)] ?_
  refine OJ.nil ?_
  refine SJ.sr 1 ?_
  refine OJ.go 1 [(7, Sl.v Sl.nil)] ?_
  refine OJ.nil ?_
  refine SJ.seq ?_
  refine SJ.sr 1 ?_
  refine OJ.go 1 [(8, .int .i64 0)] ?_
  refine OJ.nil ?_
  refine SJ.block (id := 0) ?_
  exact SJ.loop (fun s_ : (Sl × Int) => [(1, .int .i64 a1), (2, .int .i64 a2), (3, .pointer (some (pt b1 0))), (7, Sl.v s_.1), (8, .int .i64 s_.2)]) (fun s_ : (Sl × Int) => [(b1, c_weirref3_Port.enc a0)]) [1, 2, 3, 7, 8] rfl (fun _ _ => rfl) (fun s_ => weirref3_Bytes.L1_ok a0 a1 a2 b1 s_.1 s_.2)

/-! ### weir/weirlaw3.right: function 67 -/
noncomputable def weirlaw3_right.B : Code := (Try.f67.body).getD .skip
noncomputable def weirlaw3_right.cx : Fx := ⟨Try.prog, 67, Try.f67⟩
noncomputable def weirlaw3_right.out (r_ : Bool) : Value := .bool r_
noncomputable def weirlaw3_right.F0 (r_ : Bool) : Reach := .ret (weirlaw3_right.out r_)
noncomputable def weirlaw3_right (a0 : weirlaw3_Side) (a1 : Sl) (a2 : Int) (a3 : Int) : M Bool :=
  slot 62 >>= fun b1 =>
  slot 5 >>= fun b2 =>
  appl (cI .u8) 5 1 0 a1 [81, 82, 83] >>= fun r3 =>
  (if (a1.len : Int) = a3 then
      pure ((r3.len : Int) == (IntKind.wrap .i64 (a3 + 3)))
    else
      pure false) >>= fun y4 =>
  (if y4 = true then
      weirref3_Bytes a0.R a2 a3 >>= fun r5 =>
      weirlaw3_alike a1 r5 >>= fun r6 =>
      pure r6
    else
      pure false) >>= fun y7 =>
  pure y7
theorem weirlaw3_right_ok (a0 : weirlaw3_Side) (a1 : Sl) (a2 : Int) (a3 : Int) : Ref Try.prog 67 [c_weirlaw3_Side.val a0, Sl.v a1, .int .i64 a2, .int .i64 a3] (weirlaw3_right a0 a1 a2 a3) weirlaw3_right.out := by
  refine Ref.of (cd := weirlaw3_right.B) Try.func67 ?_
  show SJ weirlaw3_right.cx [.code weirlaw3_right.B] [(0, c_weirlaw3_Side.val a0), (1, Sl.v a1), (2, .int .i64 a2), (3, .int .i64 a3)] [] (weirlaw3_right a0 a1 a2 a3) weirlaw3_right.F0
  unfold weirlaw3_right
  refine SJ.sr 2 ?_
  refine OJ.slotOf (d := 4) (op := (.box 62 (.tmp 0))) (cd := c_weirlaw3_Side) (u := a0) (owed := []) (box_run (by kernel_rfl)) (fun b1 => ?_)
  refine OW.nil ?_
  refine OJ.go 1 [(8, .bool false)] ?_
  refine OJ.nil ?_
  refine SJ.sr 4 ?_
  refine OJ.go 1 [(10, Sl.v a1)] ?_
  refine OJ.rowSlot (d := 11) (t := 22) (parts := [(0, .const (.int .u8 81)), (1, .const (.int .u8 82)), (2, .const (.int .u8 83))]) (ps := [(0, (cI .u8).val 81), (1, (cI .u8).val 82), (2, (cI .u8).val 83)]) (cd := (cI .u8)) (⟨[81, 82, 83], rfl⟩ : Vec Int 3) (owed := []) Ty5 (Filled.cons (cd := (cI .u8)) (q := 81) (o := 0) rfl (Upd.arr (i := 0) (by decide) (by decide)) (Filled.cons (cd := (cI .u8)) (q := 82) (o := 1) rfl (Upd.arr (i := 1) (by decide) (by decide)) (Filled.cons (cd := (cI .u8)) (q := 83) (o := 2) rfl (Upd.arr (i := 2) (by decide) (by decide)) Filled.nil))) (fun b2 => ?_)
  refine OW.nil ?_
  refine OJ.appl (d := 12) (t := 22) (u := 22) (so := .tmp 10) (xo := .tmp 11) (j := 0) (b := b2) (l := ((cI .u8).arr 3).enc (⟨[81, 82, 83], rfl⟩ : Vec Int 3)) (n := 3) (k := 3) [81, 82, 83] (owed := []) Ty5 (by rfl) (Cod.arr_enc _ _ _) (by rfl) (fun r3 => ?_)
  refine OW.nil ?_
  refine OJ.go 1 [(9, Sl.v r3)] ?_
  refine OJ.nil ?_
  refine SJ.sr 21 ?_
  refine OJ.go 5 [(17, .bool ((a1.len : Int) == a3)), (16, .bool ((a1.len : Int) == a3)), (15, .int .i64 a3), (14, .int .i64 (a1.len : Int)), (13, Sl.v a1)] ?_
  refine OJ.join (b := ((a1.len : Int) == a3)) [5, 6, 7, 8, 9, 10] [11, 12, 13, 14, 15, 16, 17, 18, 19, 20] [1, 2, 3, 4, 23] (fun y4 => [(1, Sl.v a1), (2, .int .i64 a2), (3, .int .i64 a3), (4, .pointer (some (pt b1 0))), (23, .bool y4)]) [] [] (t := 17) beq_iff_eq (fun hp_ => ?_) (fun hp_ => ?_) (fun _ _ _ _ _ _ h_ => h_) (fun y4 => ?_)
  · refine OJ.go 6 [(23, .bool ((r3.len : Int) == (IntKind.wrap .i64 (a3 + 3)))), (22, .bool ((r3.len : Int) == (IntKind.wrap .i64 (a3 + 3)))), (21, .int .i64 (IntKind.wrap .i64 (a3 + 3))), (20, .int .i64 a3), (19, .int .i64 (r3.len : Int)), (18, Sl.v r3)] ?_
    exact OJ.nil ⟨(Cov.mem Cov.nil), rfl, _, rfl, by kernel_rfl⟩
  · refine OJ.go 6 [(23, .bool false), (22, undef), (21, undef), (20, undef), (19, undef), (18, undef)] ?_
    exact OJ.nil ⟨(Cov.mem Cov.nil), rfl, _, rfl, by kernel_rfl⟩
  · refine OJ.go 1 [(24, .bool y4)] ?_
    refine OJ.join (b := y4) [12, 13, 14, 15, 16, 17, 18, 19] [20] [32] (fun y7 => [(32, .bool y7)]) [] [] (t := 24) Iff.rfl (fun hp_ => ?_) (fun hp_ => ?_) (fun _ _ _ _ _ _ h_ => h_) (fun y7 => ?_)
    · refine OJ.go 2 [(26, .pointer (some (pt b1 1))), (25, Sl.v a1)] ?_
      refine OJ.kld (d := 27) (y := .tmp 26) (cd := c_weirref3_Port) (j := 1) (b := b1) (o := 1) a0.R (pend2 := []) Ty59 rfl (At_weirlaw3_Side_R a0) rfl ?_
      refine OJ.go 2 [(29, .int .i64 a3), (28, .int .i64 a2)] ?_
      refine OJ.call (d := 30) (g := 76) (ats := #[59, 3, 3]) (args := [.tmp 27, .tmp 28, .tmp 29]) (owed := []) F76 (weirref3_Bytes_ok a0.R a2 a3) (fun r5 => ?_)
      refine OW.nil ?_
      refine OJ.call (d := 31) (g := 19) (ats := #[22, 22]) (args := [.tmp 25, .tmp 30]) (owed := []) F19 (weirlaw3_alike_ok a1 r5) (fun r6 => ?_)
      refine OW.nil ?_
      refine OJ.go 1 [(32, .bool r6)] ?_
      exact OJ.nil ⟨(Cov.mem Cov.nil), rfl, _, rfl, by kernel_rfl⟩
    · refine OJ.go 8 [(32, .bool false), (31, undef), (30, undef), (29, undef), (28, undef), (27, undef), (26, undef), (25, undef)] ?_
      exact OJ.nil ⟨(Cov.mem Cov.nil), rfl, _, rfl, by kernel_rfl⟩
    · refine OJ.go 1 [(8, .bool y7)] ?_
      refine OJ.nil ?_
      exact SJ.ret rfl (Res.run (ys := [.bool y7]) (.tmp (by kernel_rfl) .nil) rfl)

/-! ### (*weir/ring.Port).Take: function 25 -/
noncomputable def ring_Port_Take.B : Code := (Try.f25.body).getD .skip
noncomputable def ring_Port_Take.cx : Fx := ⟨Try.prog, 25, Try.f25⟩
noncomputable def ring_Port_Take.out (r_ : (Int × Sl × Int)) : Value := .tuple #[.int .i64 r_.1, Sl.v r_.2.1, .int .i64 r_.2.2]
noncomputable def ring_Port_Take.F0 (r_ : (Int × Sl × Int)) : Reach := .ret (ring_Port_Take.out r_)
noncomputable def ring_Port_Take (a0 : (Option Addr)) : M (Int × Sl × Int) :=
  nilck a0 >>= fun p1 =>
  ld (cI .i64) (Addr.add (Addr.add p1 6) 2) >>= fun x2 =>
  if x2 = 0 then
    pure (0, Sl.nil, 33)
  else
    nilck a0 >>= fun p3 =>
    ring_line_leave (some (Addr.add p3 6)) >>= fun r4 =>
    nilck a0 >>= fun p5 =>
    ld cL (Addr.add p5 4) >>= fun x6 =>
    idx x6.a x6.len r4 1 >>= fun p7 =>
    st (cI .i64) p7 4 >>= fun _ =>
    nilck a0 >>= fun p8 =>
    ld (cI .i64) p8 >>= fun x9 =>
    ring_Port_window a0 r4 x9 >>= fun r10 =>
    clrS (cI .u8) 0 r10 >>= fun _ =>
    pure (r4, r10, 0)
theorem ring_Port_Take_ok (a0 : (Option Addr)) : Ref Try.prog 25 [.pointer a0] (ring_Port_Take a0) ring_Port_Take.out := by
  refine Ref.of (cd := ring_Port_Take.B) Try.func25 ?_
  show SJ ring_Port_Take.cx [.code ring_Port_Take.B] [(0, .pointer a0)] [] (ring_Port_Take a0) ring_Port_Take.F0
  unfold ring_Port_Take
  refine SJ.sr 3 ?_
  refine OJ.go 3 [(4, .int .i64 0), (3, Sl.v Sl.nil), (2, .int .i64 0)] ?_
  refine OJ.nil ?_
  refine SJ.seq ?_
  refine SJ.sr 6 ?_
  refine OJ.go 1 [(7, .pointer a0)] ?_
  refine OJ.nilck (d := 8) (y := .tmp 7) (fun p1 => ?_)
  refine OJ.go 2 [(10, .pointer (some (Addr.add (Addr.add p1 6) 2))), (9, .pointer (some (Addr.add p1 6)))] ?_
  refine OJ.ld (d := 11) (y := .tmp 10) (pend2 := fun x2 => []) Ty3 (fun _ => rfl) (fun x2 => ?_)
  refine OJ.go 1 [(12, .bool (x2 == 0))] ?_
  refine OJ.nil ?_
  refine SJ.cond (t := (.tmp 12)) (b := (x2 == 0)) beq_iff_eq (fun hc11 => ?_) (fun hc11 => ?_)
  · refine SJ.sr 3 ?_
    refine OJ.go 3 [(4, .int .i64 33), (3, Sl.v Sl.nil), (2, .int .i64 0)] ?_
    refine OJ.nil ?_
    exact SJ.ret rfl (Res.run (ys := [.int .i64 0, Sl.v Sl.nil, .int .i64 33]) (.tmp (by kernel_rfl) (.tmp (by kernel_rfl) (.tmp (by kernel_rfl) .nil))) rfl)
  · refine SJ.skip ?_
    refine SJ.sr 5 ?_
    refine OJ.go 1 [(13, .pointer a0)] ?_
    refine OJ.nilck (d := 14) (y := .tmp 13) (fun p3 => ?_)
    refine OJ.go 1 [(15, .pointer (some (Addr.add p3 6)))] ?_
    refine OJ.call (d := 16) (g := 46) (ats := #[86]) (args := [.tmp 15]) (owed := []) F46 (ring_line_leave_ok (some (Addr.add p3 6))) (fun r4 => ?_)
    refine OW.nil ?_
    refine OJ.go 1 [(5, .int .i64 r4)] ?_
    refine OJ.nil ?_
    refine SJ.sr 7 ?_
    refine OJ.go 1 [(17, .pointer a0)] ?_
    refine OJ.nilck (d := 18) (y := .tmp 17) (fun p5 => ?_)
    refine OJ.go 1 [(19, .pointer (some (Addr.add p5 4)))] ?_
    refine OJ.ld (d := 20) (y := .tmp 19) (pend2 := fun x6 => []) Ty67 (fun _ => rfl) (fun x6 => ?_)
    refine OJ.go 1 [(21, .int .i64 r4)] ?_
    refine OJ.idxS (d := 22) (T := 67) (y := .tmp 20) (j := .tmp 21) (E := 3) (cap := x6.cap) (k := .i64) (fun p7 => ?_)
    refine OJ.st (y := .tmp 22) (z := .const (.int .i64 4)) (owed := []) Ty3 ?_
    refine OW.nil ?_
    refine OJ.nil ?_
    refine SJ.sr 8 ?_
    refine OJ.go 3 [(25, .pointer a0), (24, .int .i64 r4), (23, .pointer a0)] ?_
    refine OJ.nilck (d := 26) (y := .tmp 25) (fun p8 => ?_)
    refine OJ.go 1 [(27, .pointer (some p8))] ?_
    refine OJ.ld (d := 28) (y := .tmp 27) (pend2 := fun x9 => []) Ty3 (fun _ => rfl) (fun x9 => ?_)
    refine OJ.call (d := 29) (g := 48) (ats := #[23, 3, 3]) (args := [.tmp 23, .tmp 24, .tmp 28]) (owed := []) F48 (ring_Port_window_ok a0 r4 x9) (fun r10 => ?_)
    refine OW.nil ?_
    refine OJ.go 1 [(6, Sl.v r10)] ?_
    refine OJ.nil ?_
    refine SJ.sr 2 ?_
    refine OJ.go 1 [(30, Sl.v r10)] ?_
    refine OJ.clr0 (t := 22) (so := .tmp 30) (owed := []) Ty5 ?_
    refine OW.nil ?_
    refine OJ.nil ?_
    refine SJ.sr 5 ?_
    refine OJ.go 5 [(4, .int .i64 0), (3, Sl.v r10), (2, .int .i64 r4), (32, Sl.v r10), (31, .int .i64 r4)] ?_
    refine OJ.nil ?_
    exact SJ.ret rfl (Res.run (ys := [.int .i64 r4, Sl.v r10, .int .i64 0]) (.tmp (by kernel_rfl) (.tmp (by kernel_rfl) (.tmp (by kernel_rfl) .nil))) rfl)

/-! ### weir/weirref3.Take: function 68 -/
noncomputable def weirref3_Take.B : Code := (Try.f68.body).getD .skip
noncomputable def weirref3_Take.cx : Fx := ⟨Try.prog, 68, Try.f68⟩
noncomputable def weirref3_Take.out (r_ : (weirref3_Port × Int × Int)) : Value := .tuple #[c_weirref3_Port.val r_.1, .int .i64 r_.2.1, .int .i64 r_.2.2]
noncomputable def weirref3_Take.F0 (r_ : (weirref3_Port × Int × Int)) : Reach := .ret (weirref3_Take.out r_)
noncomputable def weirref3_Take (a0 : weirref3_Port) : M (weirref3_Port × Int × Int) :=
  slot 59 >>= fun b1 =>
  slot 59 >>= fun b2 =>
  weirref3_first a0 1 >>= fun r3 =>
  if r3 < 0 then
    pure (a0, 0, 33)
  else
    idx a0.L.a a0.L.len r3 4 >>= fun p4 =>
    ld c_weirref3_Buf p4 >>= fun x5 =>
    slot 110 >>= fun b6 =>
    weirref3_put a0 r3 (⟨x5.Place, x5.Since, x5.N, Sl.nil⟩ : weirref3_Buf) >>= fun r7 =>
    weirref3_moved r7 r3 4 >>= fun r8 =>
    pure (r8, r3, 0)
theorem weirref3_Take_ok (a0 : weirref3_Port) : Ref Try.prog 68 [c_weirref3_Port.val a0] (weirref3_Take a0) weirref3_Take.out := by
  refine Ref.of (cd := weirref3_Take.B) Try.func68 ?_
  show SJ weirref3_Take.cx [.code weirref3_Take.B] [(0, c_weirref3_Port.val a0)] [] (weirref3_Take a0) weirref3_Take.F0
  unfold weirref3_Take
  refine SJ.sr 4 ?_
  refine OJ.slotOf (d := 1) (op := (.box 59 (.tmp 0))) (cd := c_weirref3_Port) (u := a0) (owed := []) (box_run (by kernel_rfl)) (fun b1 => ?_)
  refine OW.nil ?_
  refine OJ.slotOf (d := 2) (op := (.alloc 59)) (cd := c_weirref3_Port) (u := z_weirref3_Port) (owed := []) (alloc_run Ty59) (fun b2 => ?_)
  refine OW.nil ?_
  refine OJ.go 2 [(4, .int .i64 0), (3, .int .i64 0)] ?_
  refine OJ.nil ?_
  refine SJ.sr 3 ?_
  refine OJ.kld (d := 7) (y := .tmp 1) (cd := c_weirref3_Port) (j := 1) (b := b1) (o := 0) a0 (pend2 := []) Ty59 rfl (At.whole _) rfl ?_
  refine OJ.call (d := 8) (g := 77) (ats := #[59, 3]) (args := [.tmp 7, .const (.int .i64 1)]) (owed := []) F77 (weirref3_first_ok a0 1) (fun r3 => ?_)
  refine OW.nil ?_
  refine OJ.go 1 [(5, .int .i64 r3)] ?_
  refine OJ.nil ?_
  refine SJ.seq ?_
  refine SJ.sr 2 ?_
  refine OJ.go 2 [(10, .bool (decide (r3 < 0))), (9, .int .i64 r3)] ?_
  refine OJ.nil ?_
  refine SJ.cond (t := (.tmp 10)) (b := decide (r3 < 0)) decide_eq_true_iff (fun hc9 => ?_) (fun hc9 => ?_)
  · refine SJ.sr 4 ?_
    refine OJ.kld (d := 11) (y := .tmp 1) (cd := c_weirref3_Port) (j := 1) (b := b1) (o := 0) a0 (pend2 := []) Ty59 rfl (At.whole _) rfl ?_
    refine OJ.kst (y := .tmp 2) (z := .tmp 11) (cd := c_weirref3_Port) (u := a0) (j := 0) (b := b2) (o := 0) (c_weirref3_Port.enc a0) (owed := []) Ty59 rfl (Upd.whole ((Cod.len _ _).trans (Cod.len _ _).symm)) rfl ?_
    refine OW.nil ?_
    refine OJ.go 2 [(4, .int .i64 33), (3, .int .i64 0)] ?_
    refine OJ.nil ?_
    exact SJ.ret rfl (Res.run (ys := [c_weirref3_Port.val a0, .int .i64 0, .int .i64 33]) (.cell (j := 0) (b := b2) (cd := c_weirref3_Port) (q := a0) (by kernel_rfl) rfl Ty59 (At.whole _) (.tmp (by kernel_rfl) (.tmp (by kernel_rfl) .nil))) rfl)
  · refine SJ.skip ?_
    refine SJ.sr 7 ?_
    refine OJ.go 1 [(12, .pointer (some (pt b1 3)))] ?_
    refine OJ.kld (d := 13) (y := .tmp 12) (cd := cL) (j := 1) (b := b1) (o := 3) a0.L (pend2 := []) Ty57 rfl (At_weirref3_Port_L a0) rfl ?_
    refine OJ.go 1 [(14, .int .i64 r3)] ?_
    refine OJ.idxS (d := 15) (T := 57) (y := .tmp 13) (j := .tmp 14) (E := 110) (cap := a0.L.cap) (k := .i64) (fun p4 => ?_)
    refine OJ.ld (d := 16) (y := .tmp 15) (pend2 := fun x5 => []) Ty110 (fun _ => rfl) (fun x5 => ?_)
    refine OJ.slotOf (d := 6) (op := (.alloc 110)) (cd := c_weirref3_Buf) (u := z_weirref3_Buf) (owed := []) (alloc_run Ty110) (fun b6 => ?_)
    refine OW.nil ?_
    refine OJ.kst (y := .tmp 6) (z := .tmp 16) (cd := c_weirref3_Buf) (u := x5) (j := 0) (b := b6) (o := 0) (c_weirref3_Buf.enc x5) (owed := []) Ty110 rfl (Upd.whole ((Cod.len _ _).trans (Cod.len _ _).symm)) rfl ?_
    refine OW.nil ?_
    refine OJ.nil ?_
    refine SJ.sr 2 ?_
    refine OJ.go 1 [(17, .pointer (some (pt b6 3)))] ?_
    refine OJ.kst (y := .tmp 17) (z := .const (.slice none 0 0)) (cd := cL) (u := Sl.nil) (j := 0) (b := b6) (o := 3) (c_weirref3_Buf.enc (⟨x5.Place, x5.Since, x5.N, Sl.nil⟩ : weirref3_Buf)) (owed := []) Ty22 rfl (Up_weirref3_Buf_Data x5 Sl.nil) rfl ?_
    refine OW.nil ?_
    refine OJ.nil ?_
    refine SJ.sr 5 ?_
    refine OJ.kld (d := 18) (y := .tmp 1) (cd := c_weirref3_Port) (j := 2) (b := b1) (o := 0) a0 (pend2 := []) Ty59 rfl (At.whole _) rfl ?_
    refine OJ.go 1 [(19, .int .i64 r3)] ?_
    refine OJ.kld (d := 20) (y := .tmp 6) (cd := c_weirref3_Buf) (j := 0) (b := b6) (o := 0) (⟨x5.Place, x5.Since, x5.N, Sl.nil⟩ : weirref3_Buf) (pend2 := []) Ty110 rfl (At.whole _) rfl ?_
    refine OJ.call (d := 21) (g := 79) (ats := #[59, 3, 110]) (args := [.tmp 18, .tmp 19, .tmp 20]) (owed := []) F79 (weirref3_put_ok a0 r3 (⟨x5.Place, x5.Since, x5.N, Sl.nil⟩ : weirref3_Buf)) (fun r7 => ?_)
    refine OW.nil ?_
    refine OJ.kst (y := .tmp 1) (z := .tmp 21) (cd := c_weirref3_Port) (u := r7) (j := 2) (b := b1) (o := 0) (c_weirref3_Port.enc r7) (owed := []) Ty59 rfl (Upd.whole ((Cod.len _ _).trans (Cod.len _ _).symm)) rfl ?_
    refine OW.nil ?_
    refine OJ.nil ?_
    refine SJ.sr 7 ?_
    refine OJ.kld (d := 22) (y := .tmp 1) (cd := c_weirref3_Port) (j := 2) (b := b1) (o := 0) r7 (pend2 := []) Ty59 rfl (At.whole _) rfl ?_
    refine OJ.go 1 [(23, .int .i64 r3)] ?_
    refine OJ.call (d := 24) (g := 80) (ats := #[59, 3, 3]) (args := [.tmp 22, .tmp 23, .const (.int .i64 4)]) (owed := []) F80 (weirref3_moved_ok r7 r3 4) (fun r8 => ?_)
    refine OW.nil ?_
    refine OJ.go 1 [(25, .int .i64 r3)] ?_
    refine OJ.kst (y := .tmp 2) (z := .tmp 24) (cd := c_weirref3_Port) (u := r8) (j := 1) (b := b2) (o := 0) (c_weirref3_Port.enc r8) (owed := []) Ty59 rfl (Upd.whole ((Cod.len _ _).trans (Cod.len _ _).symm)) rfl ?_
    refine OW.nil ?_
    refine OJ.go 2 [(4, .int .i64 0), (3, .int .i64 r3)] ?_
    refine OJ.nil ?_
    exact SJ.ret rfl (Res.run (ys := [c_weirref3_Port.val r8, .int .i64 r3, .int .i64 0]) (.cell (j := 1) (b := b2) (cd := c_weirref3_Port) (q := r8) (by kernel_rfl) rfl Ty59 (At.whole _) (.tmp (by kernel_rfl) (.tmp (by kernel_rfl) .nil))) rfl)

/-! ### (*weir/ring.Port).held: function 49 -/
noncomputable def ring_Port_held.B : Code := (Try.f49.body).getD .skip
noncomputable def ring_Port_held.cx : Fx := ⟨Try.prog, 49, Try.f49⟩
noncomputable def ring_Port_held.out (r_ : Int) : Value := .int .i64 r_
noncomputable def ring_Port_held.F0 (r_ : Int) : Reach := .ret (ring_Port_held.out r_)
noncomputable def ring_Port_held (a0 : (Option Addr)) (a1 : Int) : M Int :=
  (if a1 < 0 then
      pure true
    else
      nilck a0 >>= fun p1 =>
      ld cL (Addr.add p1 4) >>= fun x2 =>
      pure (decide (a1 ≥ (x2.len : Int)))) >>= fun y3 =>
  if y3 = true then
    pure 1
  else
    nilck a0 >>= fun p9 =>
    ld cL (Addr.add p9 4) >>= fun x10 =>
    idx x10.a x10.len a1 1 >>= fun p11 =>
    ld (cI .i64) p11 >>= fun x12 =>
    if x12 ≠ 4 then
      pure 34
    else
      pure 0
theorem ring_Port_held_ok (a0 : (Option Addr)) (a1 : Int) : Ref Try.prog 49 [.pointer a0, .int .i64 a1] (ring_Port_held a0 a1) ring_Port_held.out := by
  refine Ref.of (cd := ring_Port_held.B) Try.func49 ?_
  show SJ ring_Port_held.cx [.code ring_Port_held.B] [(0, .pointer a0), (1, .int .i64 a1)] [] (ring_Port_held a0 a1) ring_Port_held.F0
  unfold ring_Port_held
  refine SJ.sr 1 ?_
  refine OJ.go 1 [(4, .int .i64 0)] ?_
  refine OJ.nil ?_
  refine SJ.seq ?_
  refine SJ.block (id := 0) ?_
  refine SJ.sr 12 ?_
  refine OJ.go 3 [(8, .bool (decide (a1 < 0))), (7, .bool (decide (a1 < 0))), (6, .int .i64 a1)] ?_
  refine OJ.join (b := decide (a1 < 0)) [3, 4, 5, 6, 7, 8, 9, 10] [11] [0, 1, 16] (fun y3 => [(0, .pointer a0), (1, .int .i64 a1), (16, .bool y3)]) [] [] (t := 8) decide_eq_true_iff (fun hp_ => ?_) (fun hp_ => ?_) (fun _ _ _ _ _ _ h_ => h_) (fun y3 => ?_)
  · refine OJ.go 8 [(16, .bool true), (15, undef), (14, undef), (13, undef), (12, undef), (11, undef), (10, undef), (9, undef)] ?_
    exact OJ.nil ⟨(Cov.mem Cov.nil), rfl, _, rfl, by kernel_rfl⟩
  · refine OJ.go 2 [(10, .pointer a0), (9, .int .i64 a1)] ?_
    refine OJ.nilck (d := 11) (y := .tmp 10) (fun p1 => ?_)
    refine OJ.go 1 [(12, .pointer (some (Addr.add p1 4)))] ?_
    refine OJ.ld (d := 13) (y := .tmp 12) (pend2 := fun x2 => []) Ty67 (fun _ => rfl) (fun x2 => ?_)
    refine OJ.go 3 [(16, .bool (decide (a1 ≥ (x2.len : Int)))), (15, .bool (decide (a1 ≥ (x2.len : Int)))), (14, .int .i64 (x2.len : Int))] ?_
    exact OJ.nil ⟨(Cov.mem Cov.nil), rfl, _, rfl, by kernel_rfl⟩
  · refine OJ.go 1 [(5, .bool y3)] ?_
    refine OJ.nil ?_
    refine SJ.cond (t := (.tmp 5)) (b := y3) Iff.rfl (fun hc14 => ?_) (fun hc14 => ?_)
    · refine SJ.sr 1 ?_
      refine OJ.go 1 [(4, .int .i64 1)] ?_
      refine OJ.nil ?_
      exact SJ.ret rfl (Res.run (ys := [.int .i64 1]) (.tmp (by kernel_rfl) .nil) rfl)
    · refine SJ.sr 9 ?_
      refine OJ.go 1 [(18, .pointer a0)] ?_
      refine OJ.nilck (d := 19) (y := .tmp 18) (fun p9 => ?_)
      refine OJ.go 1 [(20, .pointer (some (Addr.add p9 4)))] ?_
      refine OJ.ld (d := 21) (y := .tmp 20) (pend2 := fun x10 => []) Ty67 (fun _ => rfl) (fun x10 => ?_)
      refine OJ.go 1 [(22, .int .i64 a1)] ?_
      refine OJ.idxS (d := 23) (T := 67) (y := .tmp 21) (j := .tmp 22) (E := 3) (cap := x10.cap) (k := .i64) (fun p11 => ?_)
      refine OJ.ld (d := 24) (y := .tmp 23) (pend2 := fun x12 => []) Ty3 (fun _ => rfl) (fun x12 => ?_)
      refine OJ.go 2 [(17, .bool (x12 != 4)), (25, .bool (x12 != 4))] ?_
      refine OJ.nil ?_
      refine SJ.cond (t := (.tmp 17)) (b := (x12 != 4)) bne_iff_ne (fun hc13 => ?_) (fun hc13 => ?_)
      · refine SJ.sr 1 ?_
        refine OJ.go 1 [(4, .int .i64 34)] ?_
        refine OJ.nil ?_
        exact SJ.ret rfl (Res.run (ys := [.int .i64 34]) (.tmp (by kernel_rfl) .nil) rfl)
      · refine SJ.skip ?_
        refine SJ.inBlock ?_
        refine SJ.sr 1 ?_
        refine OJ.go 1 [(4, .int .i64 0)] ?_
        refine OJ.nil ?_
        exact SJ.ret rfl (Res.run (ys := [.int .i64 0]) (.tmp (by kernel_rfl) .nil) rfl)

/-! ### (*weir/ring.Port).Buffer: function 18 -/
noncomputable def ring_Port_Buffer.B : Code := (Try.f18.body).getD .skip
noncomputable def ring_Port_Buffer.cx : Fx := ⟨Try.prog, 18, Try.f18⟩
noncomputable def ring_Port_Buffer.out (r_ : (Sl × Int)) : Value := .tuple #[Sl.v r_.1, .int .i64 r_.2]
noncomputable def ring_Port_Buffer.F0 (r_ : (Sl × Int)) : Reach := .ret (ring_Port_Buffer.out r_)
noncomputable def ring_Port_Buffer (a0 : (Option Addr)) (a1 : Int) : M (Sl × Int) :=
  ring_Port_held a0 a1 >>= fun r1 =>
  if r1 ≠ 0 then
    pure (Sl.nil, r1)
  else
    nilck a0 >>= fun p2 =>
    ld (cI .i64) p2 >>= fun x3 =>
    ring_Port_window a0 a1 x3 >>= fun r4 =>
    pure (r4, 0)
theorem ring_Port_Buffer_ok (a0 : (Option Addr)) (a1 : Int) : Ref Try.prog 18 [.pointer a0, .int .i64 a1] (ring_Port_Buffer a0 a1) ring_Port_Buffer.out := by
  refine Ref.of (cd := ring_Port_Buffer.B) Try.func18 ?_
  show SJ ring_Port_Buffer.cx [.code ring_Port_Buffer.B] [(0, .pointer a0), (1, .int .i64 a1)] [] (ring_Port_Buffer a0 a1) ring_Port_Buffer.F0
  unfold ring_Port_Buffer
  refine SJ.sr 2 ?_
  refine OJ.go 2 [(5, .int .i64 0), (4, Sl.v Sl.nil)] ?_
  refine OJ.nil ?_
  refine SJ.seq ?_
  refine SJ.sr 4 ?_
  refine OJ.go 2 [(8, .int .i64 a1), (7, .pointer a0)] ?_
  refine OJ.call (d := 9) (g := 49) (ats := #[23, 3]) (args := [.tmp 7, .tmp 8]) (owed := []) F49 (ring_Port_held_ok a0 a1) (fun r1 => ?_)
  refine OW.nil ?_
  refine OJ.go 1 [(6, .int .i64 r1)] ?_
  refine OJ.nil ?_
  refine SJ.sr 2 ?_
  refine OJ.go 2 [(11, .bool (r1 != 0)), (10, .int .i64 r1)] ?_
  refine OJ.nil ?_
  refine SJ.cond (t := (.tmp 11)) (b := (r1 != 0)) bne_iff_ne (fun hc5 => ?_) (fun hc5 => ?_)
  · refine SJ.sr 3 ?_
    refine OJ.go 3 [(5, .int .i64 r1), (4, Sl.v Sl.nil), (12, .int .i64 r1)] ?_
    refine OJ.nil ?_
    exact SJ.ret rfl (Res.run (ys := [Sl.v Sl.nil, .int .i64 r1]) (.tmp (by kernel_rfl) (.tmp (by kernel_rfl) .nil)) rfl)
  · refine SJ.skip ?_
    refine SJ.sr 9 ?_
    refine OJ.go 3 [(15, .pointer a0), (14, .int .i64 a1), (13, .pointer a0)] ?_
    refine OJ.nilck (d := 16) (y := .tmp 15) (fun p2 => ?_)
    refine OJ.go 1 [(17, .pointer (some p2))] ?_
    refine OJ.ld (d := 18) (y := .tmp 17) (pend2 := fun x3 => []) Ty3 (fun _ => rfl) (fun x3 => ?_)
    refine OJ.call (d := 19) (g := 48) (ats := #[23, 3, 3]) (args := [.tmp 13, .tmp 14, .tmp 18]) (owed := []) F48 (ring_Port_window_ok a0 a1 x3) (fun r4 => ?_)
    refine OW.nil ?_
    refine OJ.go 2 [(5, .int .i64 0), (4, Sl.v r4)] ?_
    refine OJ.nil ?_
    exact SJ.ret rfl (Res.run (ys := [Sl.v r4, .int .i64 0]) (.tmp (by kernel_rfl) (.tmp (by kernel_rfl) .nil)) rfl)

/-! ### weir/weirref3.Buffer: function 69 -/
noncomputable def weirref3_Buffer.B : Code := (Try.f69.body).getD .skip
noncomputable def weirref3_Buffer.cx : Fx := ⟨Try.prog, 69, Try.f69⟩
noncomputable def weirref3_Buffer.out (r_ : Int) : Value := .int .i64 r_
noncomputable def weirref3_Buffer.F0 (r_ : Int) : Reach := .ret (weirref3_Buffer.out r_)
noncomputable def weirref3_Buffer (a0 : weirref3_Port) (a1 : Int) : M Int :=
  slot 59 >>= fun b1 =>
  weirref3_out a1 0 (IntKind.wrap .i64 ((a0.L.len : Int) - 1)) >>= fun r2 =>
  if r2 = true then
    pure 1
  else
    idx a0.L.a a0.L.len a1 4 >>= fun p3 =>
    ld (cI .i64) p3 >>= fun x4 =>
    if x4 ≠ 4 then
      pure 34
    else
      pure 0
theorem weirref3_Buffer_ok (a0 : weirref3_Port) (a1 : Int) : Ref Try.prog 69 [c_weirref3_Port.val a0, .int .i64 a1] (weirref3_Buffer a0 a1) weirref3_Buffer.out := by
  refine Ref.of (cd := weirref3_Buffer.B) Try.func69 ?_
  show SJ weirref3_Buffer.cx [.code weirref3_Buffer.B] [(0, c_weirref3_Port.val a0), (1, .int .i64 a1)] [] (weirref3_Buffer a0 a1) weirref3_Buffer.F0
  unfold weirref3_Buffer
  refine SJ.sr 2 ?_
  refine OJ.slotOf (d := 2) (op := (.box 59 (.tmp 0))) (cd := c_weirref3_Port) (u := a0) (owed := []) (box_run (by kernel_rfl)) (fun b1 => ?_)
  refine OW.nil ?_
  refine OJ.go 1 [(4, .int .i64 0)] ?_
  refine OJ.nil ?_
  refine SJ.seq ?_
  refine SJ.sr 6 ?_
  refine OJ.go 2 [(6, .pointer (some (pt b1 3))), (5, .int .i64 a1)] ?_
  refine OJ.kld (d := 7) (y := .tmp 6) (cd := cL) (j := 0) (b := b1) (o := 3) a0.L (pend2 := []) Ty57 rfl (At_weirref3_Port_L a0) rfl ?_
  refine OJ.go 2 [(9, .int .i64 (IntKind.wrap .i64 ((a0.L.len : Int) - 1))), (8, .int .i64 (a0.L.len : Int))] ?_
  refine OJ.call (d := 10) (g := 62) (ats := #[3, 3, 3]) (args := [.tmp 5, .const (.int .i64 0), .tmp 9]) (owed := []) F62 (weirref3_out_ok a1 0 (IntKind.wrap .i64 ((a0.L.len : Int) - 1))) (fun r2 => ?_)
  refine OW.nil ?_
  refine OJ.nil ?_
  refine SJ.cond (t := (.tmp 10)) (b := r2) Iff.rfl (fun hc6 => ?_) (fun hc6 => ?_)
  · refine SJ.sr 1 ?_
    refine OJ.go 1 [(4, .int .i64 1)] ?_
    refine OJ.nil ?_
    exact SJ.ret rfl (Res.run (ys := [.int .i64 1]) (.tmp (by kernel_rfl) .nil) rfl)
  · refine SJ.skip ?_
    refine SJ.seq ?_
    refine SJ.sr 7 ?_
    refine OJ.go 1 [(11, .pointer (some (pt b1 3)))] ?_
    refine OJ.kld (d := 12) (y := .tmp 11) (cd := cL) (j := 0) (b := b1) (o := 3) a0.L (pend2 := []) Ty57 rfl (At_weirref3_Port_L a0) rfl ?_
    refine OJ.go 1 [(13, .int .i64 a1)] ?_
    refine OJ.idxS (d := 14) (T := 57) (y := .tmp 12) (j := .tmp 13) (E := 110) (cap := a0.L.cap) (k := .i64) (fun p3 => ?_)
    refine OJ.go 1 [(15, .pointer (some p3))] ?_
    refine OJ.ld (d := 16) (y := .tmp 15) (pend2 := fun x4 => []) Ty3 (fun _ => rfl) (fun x4 => ?_)
    refine OJ.go 1 [(17, .bool (x4 != 4))] ?_
    refine OJ.nil ?_
    refine SJ.cond (t := (.tmp 17)) (b := (x4 != 4)) bne_iff_ne (fun hc5 => ?_) (fun hc5 => ?_)
    · refine SJ.sr 1 ?_
      refine OJ.go 1 [(4, .int .i64 34)] ?_
      refine OJ.nil ?_
      exact SJ.ret rfl (Res.run (ys := [.int .i64 34]) (.tmp (by kernel_rfl) .nil) rfl)
    · refine SJ.skip ?_
      refine SJ.sr 1 ?_
      refine OJ.go 1 [(4, .int .i64 0)] ?_
      refine OJ.nil ?_
      exact SJ.ret rfl (Res.run (ys := [.int .i64 0]) (.tmp (by kernel_rfl) .nil) rfl)

/-! ### weir/weirlaw3.answered: function 58 -/
noncomputable def weirlaw3_answered.B : Code := (Try.f58.body).getD .skip
noncomputable def weirlaw3_answered.cx : Fx := ⟨Try.prog, 58, Try.f58⟩
noncomputable def weirlaw3_answered.out (r_ : (weirlaw3_Side × Bool)) : Value := .tuple #[c_weirlaw3_Side.val r_.1, .bool r_.2]
noncomputable def weirlaw3_answered.F0 (r_ : (weirlaw3_Side × Bool)) : Reach := .ret (weirlaw3_answered.out r_)
noncomputable def weirlaw3_answered (a0 : weirlaw3_Side) (a1 : weirlaw3_Op) : M (weirlaw3_Side × Bool) :=
  slot 62 >>= fun b1 =>
  slot 45 >>= fun b2 =>
  slot 62 >>= fun b3 =>
  if a1.Kind = 3 then
    ring_Port_Poll a0.P >>= fun r50 =>
    weirref3_Poll a0.R >>= fun r51 =>
    slot 59 >>= fun b52 =>
    (if ¬ (r51.2.2.2 = true) then
        pure true
      else
        pure (!r50.2.2)) >>= fun y53 =>
    if y53 = true then
      (if r50.2.2 = r51.2.2.2 then
          pure (r50.1 == 0)
        else
          pure false) >>= fun y56 =>
      (if y56 = true then
          pure ((r50.2.1.len : Int) == 0)
        else
          pure false) >>= fun y57 =>
      pure ((⟨a0.P, r51.1, a0.W⟩ : weirlaw3_Side), y57)
    else
      if r50.1 ≠ r51.2.1 then
        pure ((⟨a0.P, r51.1, a0.W⟩ : weirlaw3_Side), false)
      else
        slot 116 >>= fun b58 =>
        appl c_weirlaw3_Win 116 32 z_weirlaw3_Win a0.W [(⟨r50.2.1, r50.1⟩ : weirlaw3_Win)] >>= fun r59 =>
        draw >>= fun _ =>
        weirlaw3_right (⟨a0.P, r51.1, r59⟩ : weirlaw3_Side) r50.2.1 r50.1 r51.2.2.1 >>= fun r60 =>
        pure ((⟨a0.P, r51.1, r59⟩ : weirlaw3_Side), r60)
  else
    if a1.Kind = 4 then
      ring_Port_Take a0.P >>= fun r79 =>
      weirref3_Take a0.R >>= fun r80 =>
      slot 59 >>= fun b81 =>
      weirlaw3_num r79.2.2 >>= fun r82 =>
      (if r82 ≠ 0 then
          pure true
        else
          pure (r80.2.2 != 0)) >>= fun y83 =>
      if y83 = true then
        draw >>= fun _ =>
        weirlaw3_num r79.2.2 >>= fun r87 =>
        (if r87 = r80.2.2 then
            pure (r79.1 == 0)
          else
            pure false) >>= fun y88 =>
        (if y88 = true then
            pure ((r79.2.1.len : Int) == 0)
          else
            pure false) >>= fun y89 =>
        pure ((⟨a0.P, r80.1, a0.W⟩ : weirlaw3_Side), y89)
      else
        if r79.1 ≠ r80.2.1 then
          pure ((⟨a0.P, r80.1, a0.W⟩ : weirlaw3_Side), false)
        else
          slot 116 >>= fun b90 =>
          appl c_weirlaw3_Win 116 32 z_weirlaw3_Win a0.W [(⟨r79.2.1, r79.1⟩ : weirlaw3_Win)] >>= fun r91 =>
          draw >>= fun _ =>
          weirlaw3_right (⟨a0.P, r80.1, r91⟩ : weirlaw3_Side) r79.2.1 r79.1 r80.1.Size >>= fun r92 =>
          pure ((⟨a0.P, r80.1, r91⟩ : weirlaw3_Side), r92)
    else
      ring_Port_Buffer a0.P a1.I >>= fun r95 =>
      weirref3_Buffer a0.R a1.I >>= fun r96 =>
      weirlaw3_num r95.2 >>= fun r97 =>
      (if r97 ≠ r96 then
          pure true
        else
          pure (r96 != 0)) >>= fun y98 =>
      if y98 = true then
        draw >>= fun _ =>
        weirlaw3_num r95.2 >>= fun r101 =>
        (if r101 = r96 then
            pure ((r95.1.len : Int) == 0)
          else
            pure false) >>= fun y102 =>
        pure (a0, y102)
      else
        slot 116 >>= fun b103 =>
        appl c_weirlaw3_Win 116 32 z_weirlaw3_Win a0.W [(⟨r95.1, a1.I⟩ : weirlaw3_Win)] >>= fun r104 =>
        draw >>= fun _ =>
        weirlaw3_right (⟨a0.P, a0.R, r104⟩ : weirlaw3_Side) r95.1 a1.I a0.R.Size >>= fun r105 =>
        pure ((⟨a0.P, a0.R, r104⟩ : weirlaw3_Side), r105)
theorem weirlaw3_answered_ok (a0 : weirlaw3_Side) (a1 : weirlaw3_Op) : Ref Try.prog 58 [c_weirlaw3_Side.val a0, c_weirlaw3_Op.val a1] (weirlaw3_answered a0 a1) weirlaw3_answered.out := by
  refine Ref.of (cd := weirlaw3_answered.B) Try.func58 ?_
  show SJ weirlaw3_answered.cx [.code weirlaw3_answered.B] [(0, c_weirlaw3_Side.val a0), (1, c_weirlaw3_Op.val a1)] [] (weirlaw3_answered a0 a1) weirlaw3_answered.F0
  unfold weirlaw3_answered
  refine SJ.sr 4 ?_
  refine OJ.slotOf (d := 2) (op := (.box 62 (.tmp 0))) (cd := c_weirlaw3_Side) (u := a0) (owed := []) (box_run (by kernel_rfl)) (fun b1 => ?_)
  refine OW.nil ?_
  refine OJ.slotOf (d := 3) (op := (.box 45 (.tmp 1))) (cd := c_weirlaw3_Op) (u := a1) (owed := []) (box_run (by kernel_rfl)) (fun b2 => ?_)
  refine OW.nil ?_
  refine OJ.slotOf (d := 4) (op := (.alloc 62)) (cd := c_weirlaw3_Side) (u := z_weirlaw3_Side) (owed := []) (alloc_run Ty62) (fun b3 => ?_)
  refine OW.nil ?_
  refine OJ.go 1 [(5, .bool false)] ?_
  refine OJ.nil ?_
  refine SJ.seq ?_
  refine SJ.sr 2 ?_
  refine OJ.go 1 [(22, .pointer (some (pt b2 0)))] ?_
  refine OJ.kld (d := 23) (y := .tmp 22) (cd := (cI .i64)) (j := 1) (b := b2) (o := 0) a1.Kind (pend2 := []) Ty3 rfl (At_weirlaw3_Op_Kind a1) rfl ?_
  refine OJ.nil ?_
  refine SJ.block (id := 0) ?_
  refine SJ.sr 2 ?_
  refine OJ.go 2 [(24, .bool (a1.Kind == 3)), (25, .bool (a1.Kind == 3))] ?_
  refine OJ.nil ?_
  refine SJ.cond (t := (.tmp 24)) (b := (a1.Kind == 3)) beq_iff_eq (fun hc108 => ?_) (fun hc108 => ?_)
  · refine SJ.sr 10 ?_
    refine OJ.go 1 [(27, .pointer (some (pt b1 0)))] ?_
    refine OJ.kld (d := 28) (y := .tmp 27) (cd := cP) (j := 2) (b := b1) (o := 0) a0.P (pend2 := []) Ty23 rfl (At_weirlaw3_Side_P a0) rfl ?_
    refine OJ.call (d := 29) (g := 17) (ats := #[23]) (args := [.tmp 28]) (owed := []) F17 (ring_Port_Poll_ok a0.P) (fun r50 => ?_)
    refine OW.nil ?_
    refine OJ.go 7 [(8, .bool r50.2.2), (7, Sl.v r50.2.1), (6, .int .i64 r50.1), (32, .bool r50.2.2), (31, Sl.v r50.2.1), (30, .int .i64 r50.1), (26, .tuple #[.int .i64 r50.1, Sl.v r50.2.1, .bool r50.2.2])] ?_
    refine OJ.nil ?_
    refine SJ.sr 13 ?_
    refine OJ.go 1 [(34, .pointer (some (pt b1 1)))] ?_
    refine OJ.kld (d := 35) (y := .tmp 34) (cd := c_weirref3_Port) (j := 2) (b := b1) (o := 1) a0.R (pend2 := []) Ty59 rfl (At_weirlaw3_Side_R a0) rfl ?_
    refine OJ.call (d := 36) (g := 66) (ats := #[59]) (args := [.tmp 35]) (owed := []) F66 (weirref3_Poll_ok a0.R) (fun r51 => ?_)
    refine OW.nil ?_
    refine OJ.go 5 [(40, .bool r51.2.2.2), (39, .int .i64 r51.2.2.1), (38, .int .i64 r51.2.1), (37, c_weirref3_Port.val r51.1), (33, .tuple #[c_weirref3_Port.val r51.1, .int .i64 r51.2.1, .int .i64 r51.2.2.1, .bool r51.2.2.2])] ?_
    refine OJ.slotOf (d := 9) (op := (.alloc 59)) (cd := c_weirref3_Port) (u := z_weirref3_Port) (owed := []) (alloc_run Ty59) (fun b52 => ?_)
    refine OW.nil ?_
    refine OJ.kst (y := .tmp 9) (z := .tmp 37) (cd := c_weirref3_Port) (u := r51.1) (j := 0) (b := b52) (o := 0) (c_weirref3_Port.enc r51.1) (owed := []) Ty59 rfl (Upd.whole ((Cod.len _ _).trans (Cod.len _ _).symm)) rfl ?_
    refine OW.nil ?_
    refine OJ.go 3 [(12, .bool r51.2.2.2), (11, .int .i64 r51.2.2.1), (10, .int .i64 r51.2.1)] ?_
    refine OJ.nil ?_
    refine SJ.sr 3 ?_
    refine OJ.kld (d := 41) (y := .tmp 9) (cd := c_weirref3_Port) (j := 0) (b := b52) (o := 0) r51.1 (pend2 := []) Ty59 rfl (At.whole _) rfl ?_
    refine OJ.go 1 [(42, .pointer (some (pt b1 1)))] ?_
    refine OJ.kst (y := .tmp 42) (z := .tmp 41) (cd := c_weirref3_Port) (u := r51.1) (j := 3) (b := b1) (o := 1) (c_weirlaw3_Side.enc (⟨a0.P, r51.1, a0.W⟩ : weirlaw3_Side)) (owed := []) Ty59 rfl (Up_weirlaw3_Side_R a0 r51.1) rfl ?_
    refine OW.nil ?_
    refine OJ.nil ?_
    refine SJ.seq ?_
    refine SJ.sr 6 ?_
    refine OJ.go 3 [(45, .bool (!r51.2.2.2)), (44, .bool (!r51.2.2.2)), (43, .bool r51.2.2.2)] ?_
    refine OJ.join (b := (!r51.2.2.2)) [3, 4, 5] [] [2, 4, 6, 7, 8, 10, 11, 12, 48] (fun y53 => [(2, .pointer (some (pt b1 0))), (4, .pointer (some (pt b3 0))), (6, .int .i64 r50.1), (7, Sl.v r50.2.1), (8, .bool r50.2.2), (10, .int .i64 r51.2.1), (11, .int .i64 r51.2.2.1), (12, .bool r51.2.2.2), (48, .bool y53)]) [] [] (t := 45) (bnot_iff Iff.rfl) (fun hp_ => ?_) (fun hp_ => ?_) (fun _ _ _ _ _ _ h_ => h_) (fun y53 => ?_)
    · refine OJ.go 3 [(48, .bool true), (47, undef), (46, undef)] ?_
      exact OJ.nil ⟨(Cov.mem Cov.nil), rfl, _, rfl, by kernel_rfl⟩
    · refine OJ.go 3 [(48, .bool (!r50.2.2)), (47, .bool (!r50.2.2)), (46, .bool r50.2.2)] ?_
      exact OJ.nil ⟨(Cov.mem Cov.nil), rfl, _, rfl, by kernel_rfl⟩
    · refine OJ.nil ?_
      refine SJ.cond (t := (.tmp 48)) (b := y53) Iff.rfl (fun hc62 => ?_) (fun hc62 => ?_)
      · refine SJ.sr 15 ?_
        refine OJ.kld (d := 49) (y := .tmp 2) (cd := c_weirlaw3_Side) (j := 3) (b := b1) (o := 0) (⟨a0.P, r51.1, a0.W⟩ : weirlaw3_Side) (pend2 := []) Ty62 rfl (At.whole _) rfl ?_
        refine OJ.go 4 [(53, .bool (r50.2.2 == r51.2.2.2)), (52, .bool (r50.2.2 == r51.2.2.2)), (51, .bool r51.2.2.2), (50, .bool r50.2.2)] ?_
        refine OJ.join (b := (r50.2.2 == r51.2.2.2)) [5, 6, 7] [8, 9, 10, 11, 12, 13, 14] [4, 7, 49, 56] (fun y56 => [(4, .pointer (some (pt b3 0))), (7, Sl.v r50.2.1), (49, c_weirlaw3_Side.val (⟨a0.P, r51.1, a0.W⟩ : weirlaw3_Side)), (56, .bool y56)]) [] [] (t := 53) beq_iff_eq (fun hp_ => ?_) (fun hp_ => ?_) (fun _ _ _ _ _ _ h_ => h_) (fun y56 => ?_)
        · refine OJ.go 3 [(56, .bool (r50.1 == 0)), (55, .bool (r50.1 == 0)), (54, .int .i64 r50.1)] ?_
          exact OJ.nil ⟨(Cov.mem Cov.nil), rfl, _, rfl, by kernel_rfl⟩
        · refine OJ.go 3 [(56, .bool false), (55, undef), (54, undef)] ?_
          exact OJ.nil ⟨(Cov.mem Cov.nil), rfl, _, rfl, by kernel_rfl⟩
        · refine OJ.go 1 [(57, .bool y56)] ?_
          refine OJ.join (b := y56) [9, 10, 11, 12] [13, 14] [4, 49, 61] (fun y57 => [(4, .pointer (some (pt b3 0))), (49, c_weirlaw3_Side.val (⟨a0.P, r51.1, a0.W⟩ : weirlaw3_Side)), (61, .bool y57)]) [] [] (t := 57) Iff.rfl (fun hp_ => ?_) (fun hp_ => ?_) (fun _ _ _ _ _ _ h_ => h_) (fun y57 => ?_)
          · refine OJ.go 4 [(61, .bool ((r50.2.1.len : Int) == 0)), (60, .bool ((r50.2.1.len : Int) == 0)), (59, .int .i64 (r50.2.1.len : Int)), (58, Sl.v r50.2.1)] ?_
            exact OJ.nil ⟨(Cov.mem Cov.nil), rfl, _, rfl, by kernel_rfl⟩
          · refine OJ.go 4 [(61, .bool false), (60, undef), (59, undef), (58, undef)] ?_
            exact OJ.nil ⟨(Cov.mem Cov.nil), rfl, _, rfl, by kernel_rfl⟩
          · refine OJ.kst (y := .tmp 4) (z := .tmp 49) (cd := c_weirlaw3_Side) (u := (⟨a0.P, r51.1, a0.W⟩ : weirlaw3_Side)) (j := 1) (b := b3) (o := 0) (c_weirlaw3_Side.enc (⟨a0.P, r51.1, a0.W⟩ : weirlaw3_Side)) (owed := []) Ty62 rfl (Upd.whole ((Cod.len _ _).trans (Cod.len _ _).symm)) rfl ?_
            refine OW.nil ?_
            refine OJ.go 1 [(5, .bool y57)] ?_
            refine OJ.nil ?_
            exact SJ.ret rfl (Res.run (ys := [c_weirlaw3_Side.val (⟨a0.P, r51.1, a0.W⟩ : weirlaw3_Side), .bool y57]) (.cell (j := 1) (b := b3) (cd := c_weirlaw3_Side) (q := (⟨a0.P, r51.1, a0.W⟩ : weirlaw3_Side)) (by kernel_rfl) rfl Ty62 (At.whole _) (.tmp (by kernel_rfl) .nil)) rfl)
      · refine SJ.skip ?_
        refine SJ.seq ?_
        refine SJ.sr 3 ?_
        refine OJ.go 3 [(64, .bool (r50.1 != r51.2.1)), (63, .int .i64 r51.2.1), (62, .int .i64 r50.1)] ?_
        refine OJ.nil ?_
        refine SJ.cond (t := (.tmp 64)) (b := (r50.1 != r51.2.1)) bne_iff_ne (fun hc61 => ?_) (fun hc61 => ?_)
        · refine SJ.sr 3 ?_
          refine OJ.kld (d := 65) (y := .tmp 2) (cd := c_weirlaw3_Side) (j := 3) (b := b1) (o := 0) (⟨a0.P, r51.1, a0.W⟩ : weirlaw3_Side) (pend2 := []) Ty62 rfl (At.whole _) rfl ?_
          refine OJ.kst (y := .tmp 4) (z := .tmp 65) (cd := c_weirlaw3_Side) (u := (⟨a0.P, r51.1, a0.W⟩ : weirlaw3_Side)) (j := 1) (b := b3) (o := 0) (c_weirlaw3_Side.enc (⟨a0.P, r51.1, a0.W⟩ : weirlaw3_Side)) (owed := []) Ty62 rfl (Upd.whole ((Cod.len _ _).trans (Cod.len _ _).symm)) rfl ?_
          refine OW.nil ?_
          refine OJ.go 1 [(5, .bool false)] ?_
          refine OJ.nil ?_
          exact SJ.ret rfl (Res.run (ys := [c_weirlaw3_Side.val (⟨a0.P, r51.1, a0.W⟩ : weirlaw3_Side), .bool false]) (.cell (j := 1) (b := b3) (cd := c_weirlaw3_Side) (q := (⟨a0.P, r51.1, a0.W⟩ : weirlaw3_Side)) (by kernel_rfl) rfl Ty62 (At.whole _) (.tmp (by kernel_rfl) .nil)) rfl)
        · refine SJ.skip ?_
          refine SJ.sr 9 ?_
          refine OJ.go 1 [(66, .pointer (some (pt b1 6)))] ?_
          refine OJ.kld (d := 67) (y := .tmp 66) (cd := cL) (j := 3) (b := b1) (o := 6) a0.W (pend2 := []) Ty60 rfl (At_weirlaw3_Side_W (⟨a0.P, r51.1, a0.W⟩ : weirlaw3_Side)) rfl ?_
          refine OJ.go 2 [(69, .int .i64 r50.1), (68, Sl.v r50.2.1)] ?_
          refine OJ.build (d := 70) (T := 116) (parts := [(0, .tmp 68), (1, .tmp 69)]) (ps := [(0, cL.val r50.2.1), (1, (cI .i64).val r50.1)]) (cd := c_weirlaw3_Win) (z0 := z_weirlaw3_Win) (⟨r50.2.1, r50.1⟩ : weirlaw3_Win) Ty116 rfl (Filled.cons (cd := cL) (q := r50.2.1) (o := 0) (by kernel_rfl) (Up_weirlaw3_Win_B z_weirlaw3_Win r50.2.1) (Filled.cons (cd := (cI .i64)) (q := r50.1) (o := 1) (by kernel_rfl) (Up_weirlaw3_Win_I (⟨r50.2.1, z_weirlaw3_Win.I⟩ : weirlaw3_Win) r50.1) Filled.nil)) ?_
          refine OJ.rowSlot (d := 71) (t := 60) (parts := [(0, .tmp 70)]) (ps := [(0, c_weirlaw3_Win.val (⟨r50.2.1, r50.1⟩ : weirlaw3_Win))]) (cd := c_weirlaw3_Win) (⟨[(⟨r50.2.1, r50.1⟩ : weirlaw3_Win)], rfl⟩ : Vec weirlaw3_Win 1) (owed := []) Ty116 (Filled.cons (cd := c_weirlaw3_Win) (q := (⟨r50.2.1, r50.1⟩ : weirlaw3_Win)) (o := 0) rfl (Upd.arr (i := 0) (by decide) (by decide)) Filled.nil) (fun b58 => ?_)
          refine OW.nil ?_
          refine OJ.appl (d := 72) (t := 60) (u := 60) (so := .tmp 67) (xo := .tmp 71) (j := 0) (b := b58) (l := (c_weirlaw3_Win.arr 1).enc (⟨[(⟨r50.2.1, r50.1⟩ : weirlaw3_Win)], rfl⟩ : Vec weirlaw3_Win 1)) (n := 1) (k := 1) [(⟨r50.2.1, r50.1⟩ : weirlaw3_Win)] (owed := []) Ty116 (by rfl) (Cod.arr_enc _ _ _) (by rfl) (fun r59 => ?_)
          refine OW.nil ?_
          refine OJ.go 1 [(73, .pointer (some (pt b1 6)))] ?_
          refine OJ.kst (y := .tmp 73) (z := .tmp 72) (cd := cL) (u := r59) (j := 4) (b := b1) (o := 6) (c_weirlaw3_Side.enc (⟨a0.P, r51.1, r59⟩ : weirlaw3_Side)) (owed := []) Ty60 rfl (Up_weirlaw3_Side_W (⟨a0.P, r51.1, a0.W⟩ : weirlaw3_Side) r59) rfl ?_
          refine OW.nil ?_
          refine OJ.nil ?_
          refine SJ.seq ?_
          refine SJ.draw (id := 11) (kd := [1, 1, 0, 0, 0, 2, 2, 0]) (bef := [0, 0, 0, 0, 0, 30, 63, 127]) (ord := [0, 1, 2, 3, 4, 5, 6, 7]) mixed ?_
          refine OJ.kld (d := 74) (y := .tmp 2) (cd := c_weirlaw3_Side) (j := 4) (b := b1) (o := 0) (⟨a0.P, r51.1, r59⟩ : weirlaw3_Side) (pend2 := [⟨0, 62, (pt b1 0), c_weirlaw3_Side.val (⟨a0.P, r51.1, r59⟩ : weirlaw3_Side)⟩]) Ty62 rfl (At.whole _) rfl ?_
          refine OJ.kld (d := 75) (y := .tmp 2) (cd := c_weirlaw3_Side) (j := 4) (b := b1) (o := 0) (⟨a0.P, r51.1, r59⟩ : weirlaw3_Side) (pend2 := [⟨1, 62, (pt b1 0), c_weirlaw3_Side.val (⟨a0.P, r51.1, r59⟩ : weirlaw3_Side)⟩, ⟨0, 62, (pt b1 0), c_weirlaw3_Side.val (⟨a0.P, r51.1, r59⟩ : weirlaw3_Side)⟩]) Ty62 rfl (At.whole _) rfl ?_
          refine OJ.go 3 [(78, .int .i64 r51.2.2.1), (77, .int .i64 r50.1), (76, Sl.v r50.2.1)] ?_
          refine OJ.call (d := 79) (g := 67) (ats := #[62, 22, 3, 3]) (args := [.tmp 75, .tmp 76, .tmp 77, .tmp 78]) (owed := [⟨0, 62, (pt b1 0), c_weirlaw3_Side.val (⟨a0.P, r51.1, r59⟩ : weirlaw3_Side)⟩]) F67 (weirlaw3_right_ok (⟨a0.P, r51.1, r59⟩ : weirlaw3_Side) r50.2.1 r50.1 r51.2.2.1) (fun r60 => ?_)
          refine OW.known (j := 4) (q := (⟨a0.P, r51.1, r59⟩ : weirlaw3_Side)) Ty62 rfl (At.whole _) ?_
          refine OW.nil ?_
          refine OJ.kst (y := .tmp 4) (z := .tmp 74) (cd := c_weirlaw3_Side) (u := (⟨a0.P, r51.1, r59⟩ : weirlaw3_Side)) (j := 2) (b := b3) (o := 0) (c_weirlaw3_Side.enc (⟨a0.P, r51.1, r59⟩ : weirlaw3_Side)) (owed := []) Ty62 rfl (Upd.whole ((Cod.len _ _).trans (Cod.len _ _).symm)) rfl ?_
          refine OW.nil ?_
          refine OJ.go 1 [(5, .bool r60)] ?_
          refine OJ.nil ?_
          exact SJ.ret rfl (Res.run (ys := [c_weirlaw3_Side.val (⟨a0.P, r51.1, r59⟩ : weirlaw3_Side), .bool r60]) (.cell (j := 2) (b := b3) (cd := c_weirlaw3_Side) (q := (⟨a0.P, r51.1, r59⟩ : weirlaw3_Side)) (by kernel_rfl) rfl Ty62 (At.whole _) (.tmp (by kernel_rfl) .nil)) rfl)
  · refine SJ.sr 2 ?_
    refine OJ.go 2 [(80, .bool (a1.Kind == 4)), (81, .bool (a1.Kind == 4))] ?_
    refine OJ.nil ?_
    refine SJ.cond (t := (.tmp 80)) (b := (a1.Kind == 4)) beq_iff_eq (fun hc107 => ?_) (fun hc107 => ?_)
    · refine SJ.sr 10 ?_
      refine OJ.go 1 [(83, .pointer (some (pt b1 0)))] ?_
      refine OJ.kld (d := 84) (y := .tmp 83) (cd := cP) (j := 2) (b := b1) (o := 0) a0.P (pend2 := []) Ty23 rfl (At_weirlaw3_Side_P a0) rfl ?_
      refine OJ.call (d := 85) (g := 25) (ats := #[23]) (args := [.tmp 84]) (owed := []) F25 (ring_Port_Take_ok a0.P) (fun r79 => ?_)
      refine OW.nil ?_
      refine OJ.go 7 [(15, .int .i64 r79.2.2), (14, Sl.v r79.2.1), (13, .int .i64 r79.1), (88, .int .i64 r79.2.2), (87, Sl.v r79.2.1), (86, .int .i64 r79.1), (82, .tuple #[.int .i64 r79.1, Sl.v r79.2.1, .int .i64 r79.2.2])] ?_
      refine OJ.nil ?_
      refine SJ.sr 11 ?_
      refine OJ.go 1 [(90, .pointer (some (pt b1 1)))] ?_
      refine OJ.kld (d := 91) (y := .tmp 90) (cd := c_weirref3_Port) (j := 2) (b := b1) (o := 1) a0.R (pend2 := []) Ty59 rfl (At_weirlaw3_Side_R a0) rfl ?_
      refine OJ.call (d := 92) (g := 68) (ats := #[59]) (args := [.tmp 91]) (owed := []) F68 (weirref3_Take_ok a0.R) (fun r80 => ?_)
      refine OW.nil ?_
      refine OJ.go 4 [(95, .int .i64 r80.2.2), (94, .int .i64 r80.2.1), (93, c_weirref3_Port.val r80.1), (89, .tuple #[c_weirref3_Port.val r80.1, .int .i64 r80.2.1, .int .i64 r80.2.2])] ?_
      refine OJ.slotOf (d := 16) (op := (.alloc 59)) (cd := c_weirref3_Port) (u := z_weirref3_Port) (owed := []) (alloc_run Ty59) (fun b81 => ?_)
      refine OW.nil ?_
      refine OJ.kst (y := .tmp 16) (z := .tmp 93) (cd := c_weirref3_Port) (u := r80.1) (j := 0) (b := b81) (o := 0) (c_weirref3_Port.enc r80.1) (owed := []) Ty59 rfl (Upd.whole ((Cod.len _ _).trans (Cod.len _ _).symm)) rfl ?_
      refine OW.nil ?_
      refine OJ.go 2 [(18, .int .i64 r80.2.2), (17, .int .i64 r80.2.1)] ?_
      refine OJ.nil ?_
      refine SJ.sr 3 ?_
      refine OJ.kld (d := 96) (y := .tmp 16) (cd := c_weirref3_Port) (j := 0) (b := b81) (o := 0) r80.1 (pend2 := []) Ty59 rfl (At.whole _) rfl ?_
      refine OJ.go 1 [(97, .pointer (some (pt b1 1)))] ?_
      refine OJ.kst (y := .tmp 97) (z := .tmp 96) (cd := c_weirref3_Port) (u := r80.1) (j := 3) (b := b1) (o := 1) (c_weirlaw3_Side.enc (⟨a0.P, r80.1, a0.W⟩ : weirlaw3_Side)) (owed := []) Ty59 rfl (Up_weirlaw3_Side_R a0 r80.1) rfl ?_
      refine OW.nil ?_
      refine OJ.nil ?_
      refine SJ.seq ?_
      refine SJ.sr 7 ?_
      refine OJ.go 1 [(98, .int .i64 r79.2.2)] ?_
      refine OJ.call (d := 99) (g := 14) (ats := #[24]) (args := [.tmp 98]) (owed := []) F14 (weirlaw3_num_ok r79.2.2) (fun r82 => ?_)
      refine OW.nil ?_
      refine OJ.go 2 [(101, .bool (r82 != 0)), (100, .bool (r82 != 0))] ?_
      refine OJ.join (b := (r82 != 0)) [4, 5, 6] [] [2, 4, 13, 14, 15, 17, 18, 104] (fun y83 => [(2, .pointer (some (pt b1 0))), (4, .pointer (some (pt b3 0))), (13, .int .i64 r79.1), (14, Sl.v r79.2.1), (15, .int .i64 r79.2.2), (17, .int .i64 r80.2.1), (18, .int .i64 r80.2.2), (104, .bool y83)]) [] [] (t := 101) bne_iff_ne (fun hp_ => ?_) (fun hp_ => ?_) (fun _ _ _ _ _ _ h_ => h_) (fun y83 => ?_)
      · refine OJ.go 3 [(104, .bool true), (103, undef), (102, undef)] ?_
        exact OJ.nil ⟨(Cov.mem Cov.nil), rfl, _, rfl, by kernel_rfl⟩
      · refine OJ.go 3 [(104, .bool (r80.2.2 != 0)), (103, .bool (r80.2.2 != 0)), (102, .int .i64 r80.2.2)] ?_
        exact OJ.nil ⟨(Cov.mem Cov.nil), rfl, _, rfl, by kernel_rfl⟩
      · refine OJ.nil ?_
        refine SJ.cond (t := (.tmp 104)) (b := y83) Iff.rfl (fun hc94 => ?_) (fun hc94 => ?_)
        · refine SJ.seq ?_
          refine SJ.draw (id := 17) (kd := [1, 0, 2, 0, 0, 0, 0, 0, 0, 0, 0, 0, 0, 0, 2, 0]) (bef := [0, 0, 2, 0, 14, 30, 62, 126, 254, 510, 1022, 2046, 4094, 8190, 1023, 32767]) (ord := [0, 1, 2, 3, 4, 5, 6, 7, 8, 9, 10, 11, 12, 13, 14, 15]) mixed ?_
          refine OJ.kld (d := 105) (y := .tmp 2) (cd := c_weirlaw3_Side) (j := 3) (b := b1) (o := 0) (⟨a0.P, r80.1, a0.W⟩ : weirlaw3_Side) (pend2 := [⟨0, 62, (pt b1 0), c_weirlaw3_Side.val (⟨a0.P, r80.1, a0.W⟩ : weirlaw3_Side)⟩]) Ty62 rfl (At.whole _) rfl ?_
          refine OJ.go 1 [(106, .int .i64 r79.2.2)] ?_
          refine OJ.call (d := 107) (g := 14) (ats := #[24]) (args := [.tmp 106]) (owed := [⟨0, 62, (pt b1 0), c_weirlaw3_Side.val (⟨a0.P, r80.1, a0.W⟩ : weirlaw3_Side)⟩]) F14 (weirlaw3_num_ok r79.2.2) (fun r87 => ?_)
          refine OW.known (j := 3) (q := (⟨a0.P, r80.1, a0.W⟩ : weirlaw3_Side)) Ty62 rfl (At.whole _) ?_
          refine OW.nil ?_
          refine OJ.go 3 [(110, .bool (r87 == r80.2.2)), (109, .bool (r87 == r80.2.2)), (108, .int .i64 r80.2.2)] ?_
          refine OJ.join (b := (r87 == r80.2.2)) [6, 7, 8] [9, 10, 11, 12, 13, 14, 15] [4, 14, 105, 113] (fun y88 => [(4, .pointer (some (pt b3 0))), (14, Sl.v r79.2.1), (105, c_weirlaw3_Side.val (⟨a0.P, r80.1, a0.W⟩ : weirlaw3_Side)), (113, .bool y88)]) [⟨0, 62, (pt b1 0), c_weirlaw3_Side.val (⟨a0.P, r80.1, a0.W⟩ : weirlaw3_Side)⟩] [] (t := 110) beq_iff_eq (fun hp_ => ?_) (fun hp_ => ?_) (fun _ _ _ _ _ _ h_ => h_) (fun y88 => ?_)
          · refine OJ.go 3 [(113, .bool (r79.1 == 0)), (112, .bool (r79.1 == 0)), (111, .int .i64 r79.1)] ?_
            exact OJ.nil ⟨(Cov.mem (Cov.keep (List.mem_of_getElem? (i := 0) rfl) Cov.nil)), rfl, _, rfl, by kernel_rfl⟩
          · refine OJ.go 3 [(113, .bool false), (112, undef), (111, undef)] ?_
            exact OJ.nil ⟨(Cov.mem (Cov.keep (List.mem_of_getElem? (i := 0) rfl) Cov.nil)), rfl, _, rfl, by kernel_rfl⟩
          · refine OJ.go 1 [(114, .bool y88)] ?_
            refine OJ.join (b := y88) [10, 11, 12, 13] [14, 15] [4, 105, 118] (fun y89 => [(4, .pointer (some (pt b3 0))), (105, c_weirlaw3_Side.val (⟨a0.P, r80.1, a0.W⟩ : weirlaw3_Side)), (118, .bool y89)]) [⟨0, 62, (pt b1 0), c_weirlaw3_Side.val (⟨a0.P, r80.1, a0.W⟩ : weirlaw3_Side)⟩] [] (t := 114) Iff.rfl (fun hp_ => ?_) (fun hp_ => ?_) (fun _ _ _ _ _ _ h_ => h_) (fun y89 => ?_)
            · refine OJ.go 4 [(118, .bool ((r79.2.1.len : Int) == 0)), (117, .bool ((r79.2.1.len : Int) == 0)), (116, .int .i64 (r79.2.1.len : Int)), (115, Sl.v r79.2.1)] ?_
              exact OJ.nil ⟨(Cov.mem (Cov.keep (List.mem_of_getElem? (i := 0) rfl) Cov.nil)), rfl, _, rfl, by kernel_rfl⟩
            · refine OJ.go 4 [(118, .bool false), (117, undef), (116, undef), (115, undef)] ?_
              exact OJ.nil ⟨(Cov.mem (Cov.keep (List.mem_of_getElem? (i := 0) rfl) Cov.nil)), rfl, _, rfl, by kernel_rfl⟩
            · refine OJ.kst (y := .tmp 4) (z := .tmp 105) (cd := c_weirlaw3_Side) (u := (⟨a0.P, r80.1, a0.W⟩ : weirlaw3_Side)) (j := 1) (b := b3) (o := 0) (c_weirlaw3_Side.enc (⟨a0.P, r80.1, a0.W⟩ : weirlaw3_Side)) (owed := []) Ty62 rfl (Upd.whole ((Cod.len _ _).trans (Cod.len _ _).symm)) rfl ?_
              refine OW.nil ?_
              refine OJ.go 1 [(5, .bool y89)] ?_
              refine OJ.nil ?_
              exact SJ.ret rfl (Res.run (ys := [c_weirlaw3_Side.val (⟨a0.P, r80.1, a0.W⟩ : weirlaw3_Side), .bool y89]) (.cell (j := 1) (b := b3) (cd := c_weirlaw3_Side) (q := (⟨a0.P, r80.1, a0.W⟩ : weirlaw3_Side)) (by kernel_rfl) rfl Ty62 (At.whole _) (.tmp (by kernel_rfl) .nil)) rfl)
        · refine SJ.skip ?_
          refine SJ.seq ?_
          refine SJ.sr 3 ?_
          refine OJ.go 3 [(121, .bool (r79.1 != r80.2.1)), (120, .int .i64 r80.2.1), (119, .int .i64 r79.1)] ?_
          refine OJ.nil ?_
          refine SJ.cond (t := (.tmp 121)) (b := (r79.1 != r80.2.1)) bne_iff_ne (fun hc93 => ?_) (fun hc93 => ?_)
          · refine SJ.sr 3 ?_
            refine OJ.kld (d := 122) (y := .tmp 2) (cd := c_weirlaw3_Side) (j := 3) (b := b1) (o := 0) (⟨a0.P, r80.1, a0.W⟩ : weirlaw3_Side) (pend2 := []) Ty62 rfl (At.whole _) rfl ?_
            refine OJ.kst (y := .tmp 4) (z := .tmp 122) (cd := c_weirlaw3_Side) (u := (⟨a0.P, r80.1, a0.W⟩ : weirlaw3_Side)) (j := 1) (b := b3) (o := 0) (c_weirlaw3_Side.enc (⟨a0.P, r80.1, a0.W⟩ : weirlaw3_Side)) (owed := []) Ty62 rfl (Upd.whole ((Cod.len _ _).trans (Cod.len _ _).symm)) rfl ?_
            refine OW.nil ?_
            refine OJ.go 1 [(5, .bool false)] ?_
            refine OJ.nil ?_
            exact SJ.ret rfl (Res.run (ys := [c_weirlaw3_Side.val (⟨a0.P, r80.1, a0.W⟩ : weirlaw3_Side), .bool false]) (.cell (j := 1) (b := b3) (cd := c_weirlaw3_Side) (q := (⟨a0.P, r80.1, a0.W⟩ : weirlaw3_Side)) (by kernel_rfl) rfl Ty62 (At.whole _) (.tmp (by kernel_rfl) .nil)) rfl)
          · refine SJ.skip ?_
            refine SJ.sr 9 ?_
            refine OJ.go 1 [(123, .pointer (some (pt b1 6)))] ?_
            refine OJ.kld (d := 124) (y := .tmp 123) (cd := cL) (j := 3) (b := b1) (o := 6) a0.W (pend2 := []) Ty60 rfl (At_weirlaw3_Side_W (⟨a0.P, r80.1, a0.W⟩ : weirlaw3_Side)) rfl ?_
            refine OJ.go 2 [(126, .int .i64 r79.1), (125, Sl.v r79.2.1)] ?_
            refine OJ.build (d := 127) (T := 116) (parts := [(0, .tmp 125), (1, .tmp 126)]) (ps := [(0, cL.val r79.2.1), (1, (cI .i64).val r79.1)]) (cd := c_weirlaw3_Win) (z0 := z_weirlaw3_Win) (⟨r79.2.1, r79.1⟩ : weirlaw3_Win) Ty116 rfl (Filled.cons (cd := cL) (q := r79.2.1) (o := 0) (by kernel_rfl) (Up_weirlaw3_Win_B z_weirlaw3_Win r79.2.1) (Filled.cons (cd := (cI .i64)) (q := r79.1) (o := 1) (by kernel_rfl) (Up_weirlaw3_Win_I (⟨r79.2.1, z_weirlaw3_Win.I⟩ : weirlaw3_Win) r79.1) Filled.nil)) ?_
            refine OJ.rowSlot (d := 128) (t := 60) (parts := [(0, .tmp 127)]) (ps := [(0, c_weirlaw3_Win.val (⟨r79.2.1, r79.1⟩ : weirlaw3_Win))]) (cd := c_weirlaw3_Win) (⟨[(⟨r79.2.1, r79.1⟩ : weirlaw3_Win)], rfl⟩ : Vec weirlaw3_Win 1) (owed := []) Ty116 (Filled.cons (cd := c_weirlaw3_Win) (q := (⟨r79.2.1, r79.1⟩ : weirlaw3_Win)) (o := 0) rfl (Upd.arr (i := 0) (by decide) (by decide)) Filled.nil) (fun b90 => ?_)
            refine OW.nil ?_
            refine OJ.appl (d := 129) (t := 60) (u := 60) (so := .tmp 124) (xo := .tmp 128) (j := 0) (b := b90) (l := (c_weirlaw3_Win.arr 1).enc (⟨[(⟨r79.2.1, r79.1⟩ : weirlaw3_Win)], rfl⟩ : Vec weirlaw3_Win 1)) (n := 1) (k := 1) [(⟨r79.2.1, r79.1⟩ : weirlaw3_Win)] (owed := []) Ty116 (by rfl) (Cod.arr_enc _ _ _) (by rfl) (fun r91 => ?_)
            refine OW.nil ?_
            refine OJ.go 1 [(130, .pointer (some (pt b1 6)))] ?_
            refine OJ.kst (y := .tmp 130) (z := .tmp 129) (cd := cL) (u := r91) (j := 4) (b := b1) (o := 6) (c_weirlaw3_Side.enc (⟨a0.P, r80.1, r91⟩ : weirlaw3_Side)) (owed := []) Ty60 rfl (Up_weirlaw3_Side_W (⟨a0.P, r80.1, a0.W⟩ : weirlaw3_Side) r91) rfl ?_
            refine OW.nil ?_
            refine OJ.nil ?_
            refine SJ.seq ?_
            refine SJ.draw (id := 21) (kd := [1, 1, 0, 0, 0, 0, 1, 2, 2, 0]) (bef := [0, 0, 0, 0, 0, 16, 48, 126, 255, 511]) (ord := [0, 1, 2, 3, 4, 5, 6, 7, 8, 9]) mixed ?_
            refine OJ.kld (d := 131) (y := .tmp 2) (cd := c_weirlaw3_Side) (j := 4) (b := b1) (o := 0) (⟨a0.P, r80.1, r91⟩ : weirlaw3_Side) (pend2 := [⟨0, 62, (pt b1 0), c_weirlaw3_Side.val (⟨a0.P, r80.1, r91⟩ : weirlaw3_Side)⟩]) Ty62 rfl (At.whole _) rfl ?_
            refine OJ.kld (d := 132) (y := .tmp 2) (cd := c_weirlaw3_Side) (j := 4) (b := b1) (o := 0) (⟨a0.P, r80.1, r91⟩ : weirlaw3_Side) (pend2 := [⟨1, 62, (pt b1 0), c_weirlaw3_Side.val (⟨a0.P, r80.1, r91⟩ : weirlaw3_Side)⟩, ⟨0, 62, (pt b1 0), c_weirlaw3_Side.val (⟨a0.P, r80.1, r91⟩ : weirlaw3_Side)⟩]) Ty62 rfl (At.whole _) rfl ?_
            refine OJ.go 4 [(136, .pointer (some (pt b1 3))), (135, .pointer (some (pt b1 1))), (134, .int .i64 r79.1), (133, Sl.v r79.2.1)] ?_
            refine OJ.kld (d := 137) (y := .tmp 136) (cd := (cI .i64)) (j := 4) (b := b1) (o := 3) r80.1.Size (pend2 := [⟨6, 3, (pt b1 3), (cI .i64).val r80.1.Size⟩, ⟨1, 62, (pt b1 0), c_weirlaw3_Side.val (⟨a0.P, r80.1, r91⟩ : weirlaw3_Side)⟩, ⟨0, 62, (pt b1 0), c_weirlaw3_Side.val (⟨a0.P, r80.1, r91⟩ : weirlaw3_Side)⟩]) Ty3 rfl (At.trans (At_weirlaw3_Side_R (⟨a0.P, r80.1, r91⟩ : weirlaw3_Side)) (At_weirref3_Port_Size r80.1)) rfl ?_
            refine OJ.call (d := 138) (g := 67) (ats := #[62, 22, 3, 3]) (args := [.tmp 132, .tmp 133, .tmp 134, .tmp 137]) (owed := [⟨0, 62, (pt b1 0), c_weirlaw3_Side.val (⟨a0.P, r80.1, r91⟩ : weirlaw3_Side)⟩]) F67 (weirlaw3_right_ok (⟨a0.P, r80.1, r91⟩ : weirlaw3_Side) r79.2.1 r79.1 r80.1.Size) (fun r92 => ?_)
            refine OW.known (j := 4) (q := (⟨a0.P, r80.1, r91⟩ : weirlaw3_Side)) Ty62 rfl (At.whole _) ?_
            refine OW.nil ?_
            refine OJ.kst (y := .tmp 4) (z := .tmp 131) (cd := c_weirlaw3_Side) (u := (⟨a0.P, r80.1, r91⟩ : weirlaw3_Side)) (j := 2) (b := b3) (o := 0) (c_weirlaw3_Side.enc (⟨a0.P, r80.1, r91⟩ : weirlaw3_Side)) (owed := []) Ty62 rfl (Upd.whole ((Cod.len _ _).trans (Cod.len _ _).symm)) rfl ?_
            refine OW.nil ?_
            refine OJ.go 1 [(5, .bool r92)] ?_
            refine OJ.nil ?_
            exact SJ.ret rfl (Res.run (ys := [c_weirlaw3_Side.val (⟨a0.P, r80.1, r91⟩ : weirlaw3_Side), .bool r92]) (.cell (j := 2) (b := b3) (cd := c_weirlaw3_Side) (q := (⟨a0.P, r80.1, r91⟩ : weirlaw3_Side)) (by kernel_rfl) rfl Ty62 (At.whole _) (.tmp (by kernel_rfl) .nil)) rfl)
    · refine SJ.skip ?_
      refine SJ.inBlock ?_
      refine SJ.sr 10 ?_
      refine OJ.go 1 [(140, .pointer (some (pt b1 0)))] ?_
      refine OJ.kld (d := 141) (y := .tmp 140) (cd := cP) (j := 2) (b := b1) (o := 0) a0.P (pend2 := []) Ty23 rfl (At_weirlaw3_Side_P a0) rfl ?_
      refine OJ.go 1 [(142, .pointer (some (pt b2 2)))] ?_
      refine OJ.kld (d := 143) (y := .tmp 142) (cd := (cI .i64)) (j := 1) (b := b2) (o := 2) a1.I (pend2 := []) Ty3 rfl (At_weirlaw3_Op_I a1) rfl ?_
      refine OJ.call (d := 144) (g := 18) (ats := #[23, 3]) (args := [.tmp 141, .tmp 143]) (owed := []) F18 (ring_Port_Buffer_ok a0.P a1.I) (fun r95 => ?_)
      refine OW.nil ?_
      refine OJ.go 5 [(20, .int .i64 r95.2), (19, Sl.v r95.1), (146, .int .i64 r95.2), (145, Sl.v r95.1), (139, .tuple #[Sl.v r95.1, .int .i64 r95.2])] ?_
      refine OJ.nil ?_
      refine SJ.sr 6 ?_
      refine OJ.go 1 [(147, .pointer (some (pt b1 1)))] ?_
      refine OJ.kld (d := 148) (y := .tmp 147) (cd := c_weirref3_Port) (j := 2) (b := b1) (o := 1) a0.R (pend2 := []) Ty59 rfl (At_weirlaw3_Side_R a0) rfl ?_
      refine OJ.go 1 [(149, .pointer (some (pt b2 2)))] ?_
      refine OJ.kld (d := 150) (y := .tmp 149) (cd := (cI .i64)) (j := 1) (b := b2) (o := 2) a1.I (pend2 := []) Ty3 rfl (At_weirlaw3_Op_I a1) rfl ?_
      refine OJ.call (d := 151) (g := 69) (ats := #[59, 3]) (args := [.tmp 148, .tmp 150]) (owed := []) F69 (weirref3_Buffer_ok a0.R a1.I) (fun r96 => ?_)
      refine OW.nil ?_
      refine OJ.go 1 [(21, .int .i64 r96)] ?_
      refine OJ.nil ?_
      refine SJ.seq ?_
      refine SJ.sr 8 ?_
      refine OJ.go 1 [(152, .int .i64 r95.2)] ?_
      refine OJ.call (d := 153) (g := 14) (ats := #[24]) (args := [.tmp 152]) (owed := []) F14 (weirlaw3_num_ok r95.2) (fun r97 => ?_)
      refine OW.nil ?_
      refine OJ.go 3 [(156, .bool (r97 != r96)), (155, .bool (r97 != r96)), (154, .int .i64 r96)] ?_
      refine OJ.join (b := (r97 != r96)) [5, 6, 7] [] [2, 3, 4, 19, 20, 21, 159] (fun y98 => [(2, .pointer (some (pt b1 0))), (3, .pointer (some (pt b2 0))), (4, .pointer (some (pt b3 0))), (19, Sl.v r95.1), (20, .int .i64 r95.2), (21, .int .i64 r96), (159, .bool y98)]) [] [] (t := 156) bne_iff_ne (fun hp_ => ?_) (fun hp_ => ?_) (fun _ _ _ _ _ _ h_ => h_) (fun y98 => ?_)
      · refine OJ.go 3 [(159, .bool true), (158, undef), (157, undef)] ?_
        exact OJ.nil ⟨(Cov.mem Cov.nil), rfl, _, rfl, by kernel_rfl⟩
      · refine OJ.go 3 [(159, .bool (r96 != 0)), (158, .bool (r96 != 0)), (157, .int .i64 r96)] ?_
        exact OJ.nil ⟨(Cov.mem Cov.nil), rfl, _, rfl, by kernel_rfl⟩
      · refine OJ.nil ?_
        refine SJ.cond (t := (.tmp 159)) (b := y98) Iff.rfl (fun hc106 => ?_) (fun hc106 => ?_)
        · refine SJ.seq ?_
          refine SJ.draw (id := 25) (kd := [1, 0, 2, 0, 0, 0, 0, 0, 0, 0, 2, 0]) (bef := [0, 0, 2, 0, 14, 30, 62, 126, 254, 510, 63, 2047]) (ord := [0, 1, 2, 3, 4, 5, 6, 7, 8, 9, 10, 11]) mixed ?_
          refine OJ.kld (d := 160) (y := .tmp 2) (cd := c_weirlaw3_Side) (j := 2) (b := b1) (o := 0) a0 (pend2 := [⟨0, 62, (pt b1 0), c_weirlaw3_Side.val a0⟩]) Ty62 rfl (At.whole _) rfl ?_
          refine OJ.go 1 [(161, .int .i64 r95.2)] ?_
          refine OJ.call (d := 162) (g := 14) (ats := #[24]) (args := [.tmp 161]) (owed := [⟨0, 62, (pt b1 0), c_weirlaw3_Side.val a0⟩]) F14 (weirlaw3_num_ok r95.2) (fun r101 => ?_)
          refine OW.known (j := 2) (q := a0) Ty62 rfl (At.whole _) ?_
          refine OW.nil ?_
          refine OJ.go 3 [(165, .bool (r101 == r96)), (164, .bool (r101 == r96)), (163, .int .i64 r96)] ?_
          refine OJ.join (b := (r101 == r96)) [6, 7, 8, 9] [10, 11] [4, 160, 169] (fun y102 => [(4, .pointer (some (pt b3 0))), (160, c_weirlaw3_Side.val a0), (169, .bool y102)]) [⟨0, 62, (pt b1 0), c_weirlaw3_Side.val a0⟩] [] (t := 165) beq_iff_eq (fun hp_ => ?_) (fun hp_ => ?_) (fun _ _ _ _ _ _ h_ => h_) (fun y102 => ?_)
          · refine OJ.go 4 [(169, .bool ((r95.1.len : Int) == 0)), (168, .bool ((r95.1.len : Int) == 0)), (167, .int .i64 (r95.1.len : Int)), (166, Sl.v r95.1)] ?_
            exact OJ.nil ⟨(Cov.mem (Cov.keep (List.mem_of_getElem? (i := 0) rfl) Cov.nil)), rfl, _, rfl, by kernel_rfl⟩
          · refine OJ.go 4 [(169, .bool false), (168, undef), (167, undef), (166, undef)] ?_
            exact OJ.nil ⟨(Cov.mem (Cov.keep (List.mem_of_getElem? (i := 0) rfl) Cov.nil)), rfl, _, rfl, by kernel_rfl⟩
          · refine OJ.kst (y := .tmp 4) (z := .tmp 160) (cd := c_weirlaw3_Side) (u := a0) (j := 0) (b := b3) (o := 0) (c_weirlaw3_Side.enc a0) (owed := []) Ty62 rfl (Upd.whole ((Cod.len _ _).trans (Cod.len _ _).symm)) rfl ?_
            refine OW.nil ?_
            refine OJ.go 1 [(5, .bool y102)] ?_
            refine OJ.nil ?_
            exact SJ.ret rfl (Res.run (ys := [c_weirlaw3_Side.val a0, .bool y102]) (.cell (j := 0) (b := b3) (cd := c_weirlaw3_Side) (q := a0) (by kernel_rfl) rfl Ty62 (At.whole _) (.tmp (by kernel_rfl) .nil)) rfl)
        · refine SJ.skip ?_
          refine SJ.sr 10 ?_
          refine OJ.go 1 [(170, .pointer (some (pt b1 6)))] ?_
          refine OJ.kld (d := 171) (y := .tmp 170) (cd := cL) (j := 2) (b := b1) (o := 6) a0.W (pend2 := []) Ty60 rfl (At_weirlaw3_Side_W a0) rfl ?_
          refine OJ.go 2 [(173, .pointer (some (pt b2 2))), (172, Sl.v r95.1)] ?_
          refine OJ.kld (d := 174) (y := .tmp 173) (cd := (cI .i64)) (j := 1) (b := b2) (o := 2) a1.I (pend2 := []) Ty3 rfl (At_weirlaw3_Op_I a1) rfl ?_
          refine OJ.build (d := 175) (T := 116) (parts := [(0, .tmp 172), (1, .tmp 174)]) (ps := [(0, cL.val r95.1), (1, (cI .i64).val a1.I)]) (cd := c_weirlaw3_Win) (z0 := z_weirlaw3_Win) (⟨r95.1, a1.I⟩ : weirlaw3_Win) Ty116 rfl (Filled.cons (cd := cL) (q := r95.1) (o := 0) (by kernel_rfl) (Up_weirlaw3_Win_B z_weirlaw3_Win r95.1) (Filled.cons (cd := (cI .i64)) (q := a1.I) (o := 1) (by kernel_rfl) (Up_weirlaw3_Win_I (⟨r95.1, z_weirlaw3_Win.I⟩ : weirlaw3_Win) a1.I) Filled.nil)) ?_
          refine OJ.rowSlot (d := 176) (t := 60) (parts := [(0, .tmp 175)]) (ps := [(0, c_weirlaw3_Win.val (⟨r95.1, a1.I⟩ : weirlaw3_Win))]) (cd := c_weirlaw3_Win) (⟨[(⟨r95.1, a1.I⟩ : weirlaw3_Win)], rfl⟩ : Vec weirlaw3_Win 1) (owed := []) Ty116 (Filled.cons (cd := c_weirlaw3_Win) (q := (⟨r95.1, a1.I⟩ : weirlaw3_Win)) (o := 0) rfl (Upd.arr (i := 0) (by decide) (by decide)) Filled.nil) (fun b103 => ?_)
          refine OW.nil ?_
          refine OJ.appl (d := 177) (t := 60) (u := 60) (so := .tmp 171) (xo := .tmp 176) (j := 0) (b := b103) (l := (c_weirlaw3_Win.arr 1).enc (⟨[(⟨r95.1, a1.I⟩ : weirlaw3_Win)], rfl⟩ : Vec weirlaw3_Win 1)) (n := 1) (k := 1) [(⟨r95.1, a1.I⟩ : weirlaw3_Win)] (owed := []) Ty116 (by rfl) (Cod.arr_enc _ _ _) (by rfl) (fun r104 => ?_)
          refine OW.nil ?_
          refine OJ.go 1 [(178, .pointer (some (pt b1 6)))] ?_
          refine OJ.kst (y := .tmp 178) (z := .tmp 177) (cd := cL) (u := r104) (j := 3) (b := b1) (o := 6) (c_weirlaw3_Side.enc (⟨a0.P, a0.R, r104⟩ : weirlaw3_Side)) (owed := []) Ty60 rfl (Up_weirlaw3_Side_W a0 r104) rfl ?_
          refine OW.nil ?_
          refine OJ.nil ?_
          refine SJ.seq ?_
          refine SJ.draw (id := 27) (kd := [1, 1, 0, 0, 1, 0, 0, 1, 2, 2, 0]) (bef := [0, 0, 0, 0, 8, 0, 32, 96, 254, 511, 1023]) (ord := [0, 1, 2, 3, 4, 5, 6, 7, 8, 9, 10]) mixed ?_
          refine OJ.kld (d := 179) (y := .tmp 2) (cd := c_weirlaw3_Side) (j := 3) (b := b1) (o := 0) (⟨a0.P, a0.R, r104⟩ : weirlaw3_Side) (pend2 := [⟨0, 62, (pt b1 0), c_weirlaw3_Side.val (⟨a0.P, a0.R, r104⟩ : weirlaw3_Side)⟩]) Ty62 rfl (At.whole _) rfl ?_
          refine OJ.kld (d := 180) (y := .tmp 2) (cd := c_weirlaw3_Side) (j := 3) (b := b1) (o := 0) (⟨a0.P, a0.R, r104⟩ : weirlaw3_Side) (pend2 := [⟨1, 62, (pt b1 0), c_weirlaw3_Side.val (⟨a0.P, a0.R, r104⟩ : weirlaw3_Side)⟩, ⟨0, 62, (pt b1 0), c_weirlaw3_Side.val (⟨a0.P, a0.R, r104⟩ : weirlaw3_Side)⟩]) Ty62 rfl (At.whole _) rfl ?_
          refine OJ.go 2 [(182, .pointer (some (pt b2 2))), (181, Sl.v r95.1)] ?_
          refine OJ.kld (d := 183) (y := .tmp 182) (cd := (cI .i64)) (j := 2) (b := b2) (o := 2) a1.I (pend2 := [⟨4, 3, (pt b2 2), (cI .i64).val a1.I⟩, ⟨1, 62, (pt b1 0), c_weirlaw3_Side.val (⟨a0.P, a0.R, r104⟩ : weirlaw3_Side)⟩, ⟨0, 62, (pt b1 0), c_weirlaw3_Side.val (⟨a0.P, a0.R, r104⟩ : weirlaw3_Side)⟩]) Ty3 rfl (At_weirlaw3_Op_I a1) rfl ?_
          refine OJ.go 2 [(185, .pointer (some (pt b1 3))), (184, .pointer (some (pt b1 1)))] ?_
          refine OJ.kld (d := 186) (y := .tmp 185) (cd := (cI .i64)) (j := 3) (b := b1) (o := 3) a0.R.Size (pend2 := [⟨7, 3, (pt b1 3), (cI .i64).val a0.R.Size⟩, ⟨4, 3, (pt b2 2), (cI .i64).val a1.I⟩, ⟨1, 62, (pt b1 0), c_weirlaw3_Side.val (⟨a0.P, a0.R, r104⟩ : weirlaw3_Side)⟩, ⟨0, 62, (pt b1 0), c_weirlaw3_Side.val (⟨a0.P, a0.R, r104⟩ : weirlaw3_Side)⟩]) Ty3 rfl (At.trans (At_weirlaw3_Side_R (⟨a0.P, a0.R, r104⟩ : weirlaw3_Side)) (At_weirref3_Port_Size a0.R)) rfl ?_
          refine OJ.call (d := 187) (g := 67) (ats := #[62, 22, 3, 3]) (args := [.tmp 180, .tmp 181, .tmp 183, .tmp 186]) (owed := [⟨0, 62, (pt b1 0), c_weirlaw3_Side.val (⟨a0.P, a0.R, r104⟩ : weirlaw3_Side)⟩]) F67 (weirlaw3_right_ok (⟨a0.P, a0.R, r104⟩ : weirlaw3_Side) r95.1 a1.I a0.R.Size) (fun r105 => ?_)
          refine OW.known (j := 3) (q := (⟨a0.P, a0.R, r104⟩ : weirlaw3_Side)) Ty62 rfl (At.whole _) ?_
          refine OW.nil ?_
          refine OJ.kst (y := .tmp 4) (z := .tmp 179) (cd := c_weirlaw3_Side) (u := (⟨a0.P, a0.R, r104⟩ : weirlaw3_Side)) (j := 1) (b := b3) (o := 0) (c_weirlaw3_Side.enc (⟨a0.P, a0.R, r104⟩ : weirlaw3_Side)) (owed := []) Ty62 rfl (Upd.whole ((Cod.len _ _).trans (Cod.len _ _).symm)) rfl ?_
          refine OW.nil ?_
          refine OJ.go 1 [(5, .bool r105)] ?_
          refine OJ.nil ?_
          exact SJ.ret rfl (Res.run (ys := [c_weirlaw3_Side.val (⟨a0.P, a0.R, r104⟩ : weirlaw3_Side), .bool r105]) (.cell (j := 1) (b := b3) (cd := c_weirlaw3_Side) (q := (⟨a0.P, a0.R, r104⟩ : weirlaw3_Side)) (by kernel_rfl) rfl Ty62 (At.whole _) (.tmp (by kernel_rfl) .nil)) rfl)

/-! ### (*weir/ring.Port).Refill: function 15 -/
noncomputable def ring_Port_Refill.B : Code := (Try.f15.body).getD .skip
noncomputable def ring_Port_Refill.cx : Fx := ⟨Try.prog, 15, Try.f15⟩
noncomputable def ring_Port_Refill.out (r_ : Int) : Value := .int .i64 r_
noncomputable def ring_Port_Refill.F0 (r_ : Int) : Reach := .ret (ring_Port_Refill.out r_)
noncomputable def ring_Port_Refill.F1 (a0 : (Option Addr)) (a1 : Int) : (LS Int Int) → Reach := loopF [.inLoop (c1 (c1 (c1 (c2 (c2 ring_Port_Refill.B))))), .inBlock 0, .code (c2 (c2 (c2 ring_Port_Refill.B)))] (fun s_ : Int => [(0, .pointer a0), (1, .int .i64 a1), (5, .int .i64 s_)]) (fun s_ : Int => []) ring_Port_Refill.F0
noncomputable def ring_Port_Refill.L1 (a0 : (Option Addr)) (a1 : Int) (s1 : Int) : M (LS Int Int) :=
  draw >>= fun _ =>
  (if s1 < a1 then
      nilck a0 >>= fun p20 =>
      ld (cI .i64) (Addr.add (Addr.add p20 6) 2) >>= fun x21 =>
      pure (decide (x21 > 0))
    else
      pure false) >>= fun y22 =>
  (if y22 = true then
      nilck a0 >>= fun p23 =>
      ld (cI .i64) (Addr.add (Addr.add p23 9) 2) >>= fun x24 =>
      nilck a0 >>= fun p25 =>
      ld (cI .i64) (Addr.add (Addr.add p25 12) 2) >>= fun x26 =>
      nilck a0 >>= fun p27 =>
      ld (cI .i64) (Addr.add p27 1) >>= fun x28 =>
      pure (decide ((IntKind.wrap .i64 (x24 + x26)) < x28))
    else
      pure false) >>= fun y29 =>
  if y29 = true then
    nilck a0 >>= fun p30 =>
    ring_line_leave (some (Addr.add p30 6)) >>= fun r31 =>
    nilck a0 >>= fun p32 =>
    ld cL (Addr.add p32 4) >>= fun x33 =>
    idx x33.a x33.len r31 1 >>= fun p34 =>
    st (cI .i64) p34 2 >>= fun _ =>
    nilck a0 >>= fun p35 =>
    ring_line_join (some (Addr.add p35 9)) r31 >>= fun r36 =>
    pure (LS.next (IntKind.wrap .i64 (s1 + 1)))
  else
    pure (LS.done s1)
theorem ring_Port_Refill.L1_ok (a0 : (Option Addr)) (a1 : Int) (s1 : Int) :
    SJ ring_Port_Refill.cx [.code (c1 (c1 (c1 (c2 (c2 ring_Port_Refill.B))))), .inLoop (c1 (c1 (c1 (c2 (c2 ring_Port_Refill.B))))), .inBlock 0, .code (c2 (c2 (c2 ring_Port_Refill.B)))] [(0, .pointer a0), (1, .int .i64 a1), (5, .int .i64 s1)] [] (ring_Port_Refill.L1 a0 a1 s1) (ring_Port_Refill.F1 a0 a1) := by
  unfold ring_Port_Refill.L1
  refine SJ.seq ?_
  refine SJ.seq ?_
  refine SJ.draw (id := 2) (kd := [0, 0, 0, 0, 0, 0, 0, 0, 1, 0, 0, 0, 0, 0, 0, 0, 1, 0, 0, 0, 0, 1, 0, 0, 0, 0, 1, 0, 0]) (bef := [0, 0, 3, 7, 15, 31, 63, 127, 255, 511, 1023, 2047, 4095, 8191, 16383, 32767, 65535, 4095, 135167, 397311, 921599, 1970175, 4194303, 4095, 8392703, 25169919, 58724351, 134217727, 268435455]) (ord := [0, 1, 2, 3, 4, 5, 6, 7, 8, 9, 10, 11, 12, 13, 14, 15, 16, 17, 18, 19, 20, 21, 22, 23, 24, 25, 26, 27, 28]) mixed ?_
  refine OJ.go 4 [(10, .bool (decide (s1 < a1))), (9, .bool (decide (s1 < a1))), (8, .int .i64 a1), (7, .int .i64 s1)] ?_
  refine OJ.join (b := decide (s1 < a1)) [4, 5, 6, 7, 8, 9, 10] [11, 12, 13, 14, 15, 16, 17, 18, 19, 20, 21, 22, 23, 24, 25, 26, 27, 28] [0, 1, 5, 17] (fun y22 => [(0, .pointer a0), (1, .int .i64 a1), (5, .int .i64 s1), (17, .bool y22)]) [] [8] (t := 10) decide_eq_true_iff (fun hp_ => ?_) (fun hp_ => ?_) (fun _ _ _ _ _ _ h_ => h_) (fun y22 => ?_)
  · refine OJ.go 1 [(11, .pointer a0)] ?_
    refine OJ.nilck (d := 12) (y := .tmp 11) (fun p20 => ?_)
    refine OJ.go 2 [(14, .pointer (some (Addr.add (Addr.add p20 6) 2))), (13, .pointer (some (Addr.add p20 6)))] ?_
    refine OJ.ld (d := 15) (y := .tmp 14) (pend2 := fun x21 => [⟨8, 3, (Addr.add (Addr.add p20 6) 2), (cI .i64).val x21⟩]) Ty3 (fun _ => rfl) (fun x21 => ?_)
    refine OJ.go 2 [(17, .bool (decide (x21 > 0))), (16, .bool (decide (x21 > 0)))] ?_
    exact OJ.nil ⟨(Cov.mem (Cov.drop (List.mem_of_getElem? (i := 0) rfl) Cov.nil)), rfl, _, rfl, by kernel_rfl⟩
  · refine OJ.go 7 [(17, .bool false), (16, undef), (15, undef), (14, undef), (13, undef), (12, undef), (11, undef)] ?_
    exact OJ.nil ⟨(Cov.mem Cov.nil), rfl, _, rfl, by kernel_rfl⟩
  · refine OJ.go 1 [(18, .bool y22)] ?_
    refine OJ.join (b := y22) [12, 13, 14, 15, 16, 17, 18, 19, 20, 21, 22, 23, 24, 25, 26, 27, 28] [] [0, 1, 5, 35] (fun y29 => [(0, .pointer a0), (1, .int .i64 a1), (5, .int .i64 s1), (35, .bool y29)]) [] [16, 21, 26] (t := 18) Iff.rfl (fun hp_ => ?_) (fun hp_ => ?_) (fun _ _ _ _ _ _ h_ => h_) (fun y29 => ?_)
    · refine OJ.go 1 [(19, .pointer a0)] ?_
      refine OJ.nilck (d := 20) (y := .tmp 19) (fun p23 => ?_)
      refine OJ.go 2 [(22, .pointer (some (Addr.add (Addr.add p23 9) 2))), (21, .pointer (some (Addr.add p23 9)))] ?_
      refine OJ.ld (d := 23) (y := .tmp 22) (pend2 := fun x24 => [⟨16, 3, (Addr.add (Addr.add p23 9) 2), (cI .i64).val x24⟩]) Ty3 (fun _ => rfl) (fun x24 => ?_)
      refine OJ.go 1 [(24, .pointer a0)] ?_
      refine OJ.nilck (d := 25) (y := .tmp 24) (fun p25 => ?_)
      refine OJ.go 2 [(27, .pointer (some (Addr.add (Addr.add p25 12) 2))), (26, .pointer (some (Addr.add p25 12)))] ?_
      refine OJ.ld (d := 28) (y := .tmp 27) (pend2 := fun x26 => [⟨21, 3, (Addr.add (Addr.add p25 12) 2), (cI .i64).val x26⟩, ⟨16, 3, (Addr.add (Addr.add p23 9) 2), (cI .i64).val x24⟩]) Ty3 (fun _ => rfl) (fun x26 => ?_)
      refine OJ.go 2 [(30, .pointer a0), (29, .int .i64 (IntKind.wrap .i64 (x24 + x26)))] ?_
      refine OJ.nilck (d := 31) (y := .tmp 30) (fun p27 => ?_)
      refine OJ.go 1 [(32, .pointer (some (Addr.add p27 1)))] ?_
      refine OJ.ld (d := 33) (y := .tmp 32) (pend2 := fun x28 => [⟨26, 3, (Addr.add p27 1), (cI .i64).val x28⟩, ⟨21, 3, (Addr.add (Addr.add p25 12) 2), (cI .i64).val x26⟩, ⟨16, 3, (Addr.add (Addr.add p23 9) 2), (cI .i64).val x24⟩]) Ty3 (fun _ => rfl) (fun x28 => ?_)
      refine OJ.go 2 [(35, .bool (decide ((IntKind.wrap .i64 (x24 + x26)) < x28))), (34, .bool (decide ((IntKind.wrap .i64 (x24 + x26)) < x28)))] ?_
      exact OJ.nil ⟨(Cov.mem (Cov.drop (List.mem_of_getElem? (i := 2) rfl) (Cov.drop (List.mem_of_getElem? (i := 1) rfl) (Cov.drop (List.mem_of_getElem? (i := 0) rfl) Cov.nil)))), rfl, _, rfl, by kernel_rfl⟩
    · refine OJ.go 17 [(35, .bool false), (34, undef), (33, undef), (32, undef), (31, undef), (30, undef), (29, undef), (28, undef), (27, undef), (26, undef), (25, undef), (24, undef), (23, undef), (22, undef), (21, undef), (20, undef), (19, undef)] ?_
      exact OJ.nil ⟨(Cov.mem Cov.nil), rfl, _, rfl, by kernel_rfl⟩
    · refine OJ.nil ?_
      refine SJ.cond (t := (.tmp 35)) (b := y29) Iff.rfl (fun hc37 => ?_) (fun hc37 => ?_)
      · refine SJ.skip ?_
        refine SJ.block (id := 1) ?_
        refine SJ.sr 5 ?_
        refine OJ.go 1 [(36, .pointer a0)] ?_
        refine OJ.nilck (d := 37) (y := .tmp 36) (fun p30 => ?_)
        refine OJ.go 1 [(38, .pointer (some (Addr.add p30 6)))] ?_
        refine OJ.call (d := 39) (g := 46) (ats := #[86]) (args := [.tmp 38]) (owed := []) F46 (ring_line_leave_ok (some (Addr.add p30 6))) (fun r31 => ?_)
        refine OW.nil ?_
        refine OJ.go 1 [(6, .int .i64 r31)] ?_
        refine OJ.nil ?_
        refine SJ.sr 7 ?_
        refine OJ.go 1 [(40, .pointer a0)] ?_
        refine OJ.nilck (d := 41) (y := .tmp 40) (fun p32 => ?_)
        refine OJ.go 1 [(42, .pointer (some (Addr.add p32 4)))] ?_
        refine OJ.ld (d := 43) (y := .tmp 42) (pend2 := fun x33 => []) Ty67 (fun _ => rfl) (fun x33 => ?_)
        refine OJ.go 1 [(44, .int .i64 r31)] ?_
        refine OJ.idxS (d := 45) (T := 67) (y := .tmp 43) (j := .tmp 44) (E := 3) (cap := x33.cap) (k := .i64) (fun p34 => ?_)
        refine OJ.st (y := .tmp 45) (z := .const (.int .i64 2)) (owed := []) Ty3 ?_
        refine OW.nil ?_
        refine OJ.nil ?_
        refine SJ.sr 5 ?_
        refine OJ.go 1 [(46, .pointer a0)] ?_
        refine OJ.nilck (d := 47) (y := .tmp 46) (fun p35 => ?_)
        refine OJ.go 2 [(49, .int .i64 r31), (48, .pointer (some (Addr.add p35 9)))] ?_
        refine OJ.call (d := 50) (g := 45) (ats := #[86, 3]) (args := [.tmp 48, .tmp 49]) (owed := []) F45 (ring_line_join_ok (some (Addr.add p35 9)) r31) (fun r36 => ?_)
        refine OW.nil ?_
        refine OJ.nil ?_
        refine SJ.rg 3 ?_
        refine OJ.go 3 [(5, .int .i64 (IntKind.wrap .i64 (s1 + 1))), (52, .int .i64 (IntKind.wrap .i64 (s1 + 1))), (51, .int .i64 s1)] ?_
        refine OJ.nil ?_
        refine SJ.inBlock ?_
        exact SJ.at_ [0, 1, 5] rfl
      · refine SJ.exit (id := 0) (by rfl) ?_
        refine SJ.sr 2 ?_
        refine OJ.go 2 [(4, .int .i64 s1), (53, .int .i64 s1)] ?_
        refine OJ.nil ?_
        exact SJ.ret rfl (Res.run (ys := [.int .i64 s1]) (.tmp (by kernel_rfl) .nil) rfl)
noncomputable def ring_Port_Refill (a0 : (Option Addr)) (a1 : Int) : M Int :=
  loopM (fun s_ : Int => ring_Port_Refill.L1 a0 a1 s_) 0
theorem ring_Port_Refill_ok (a0 : (Option Addr)) (a1 : Int) : Ref Try.prog 15 [.pointer a0, .int .i64 a1] (ring_Port_Refill a0 a1) ring_Port_Refill.out := by
  refine Ref.of (cd := ring_Port_Refill.B) Try.func15 ?_
  show SJ ring_Port_Refill.cx [.code ring_Port_Refill.B] [(0, .pointer a0), (1, .int .i64 a1)] [] (ring_Port_Refill a0 a1) ring_Port_Refill.F0
  unfold ring_Port_Refill
  refine SJ.sr 1 ?_
  refine OJ.go 1 [(4, .int .i64 0)] ?_
  refine OJ.nil ?_
  refine SJ.sr 1 ?_
  refine OJ.go 1 [(5, .int .i64 0)] ?_
  refine OJ.nil ?_
  refine SJ.seq ?_
  refine SJ.block (id := 0) ?_
  exact SJ.loop (fun s_ : Int => [(0, .pointer a0), (1, .int .i64 a1), (5, .int .i64 s_)]) (fun s_ : Int => []) [0, 1, 5] rfl (fun _ _ => rfl) (fun s_ => ring_Port_Refill.L1_ok a0 a1 s_)

/-! ### weir/weirref3.count: function 63 -/
noncomputable def weirref3_count.B : Code := (Try.f63.body).getD .skip
noncomputable def weirref3_count.cx : Fx := ⟨Try.prog, 63, Try.f63⟩
noncomputable def weirref3_count.out (r_ : Int) : Value := .int .i64 r_
noncomputable def weirref3_count.F0 (r_ : Int) : Reach := .ret (weirref3_count.out r_)
noncomputable def weirref3_count.F1 (a0 : weirref3_Port) (a1 : Int) (b1 : Nat) : (LS (Int × Int) Int) → Reach := loopF [.inLoop (c1 (c1 (c2 (c1 (c2 (c2 weirref3_count.B)))))), .inBlock 0, .code (c2 (c2 (c2 weirref3_count.B)))] (fun s_ : (Int × Int) => [(1, .int .i64 a1), (2, .pointer (some (pt b1 0))), (5, .int .i64 s_.1), (6, .int .i64 s_.2)]) (fun s_ : (Int × Int) => [(b1, c_weirref3_Port.enc a0)]) weirref3_count.F0
noncomputable def weirref3_count.L1 (a0 : weirref3_Port) (a1 : Int) (s2 : Int) (s3 : Int) : M (LS (Int × Int) Int) :=
  if s3 < (a0.L.len : Int) then
    idx a0.L.a a0.L.len s3 4 >>= fun p8 =>
    ld (cI .i64) p8 >>= fun x9 =>
    if x9 = a1 then
      pure (LS.next (IntKind.wrap .i64 (s2 + 1), IntKind.wrap .i64 (s3 + 1)))
    else
      pure (LS.next (s2, IntKind.wrap .i64 (s3 + 1)))
  else
    pure (LS.done s2)
theorem weirref3_count.L1_ok (a0 : weirref3_Port) (a1 : Int) (b1 : Nat) (s2 : Int) (s3 : Int) :
    SJ weirref3_count.cx [.code (c1 (c1 (c2 (c1 (c2 (c2 weirref3_count.B)))))), .inLoop (c1 (c1 (c2 (c1 (c2 (c2 weirref3_count.B)))))), .inBlock 0, .code (c2 (c2 (c2 weirref3_count.B)))] [(1, .int .i64 a1), (2, .pointer (some (pt b1 0))), (5, .int .i64 s2), (6, .int .i64 s3)] [(b1, c_weirref3_Port.enc a0)] (weirref3_count.L1 a0 a1 s2 s3) (weirref3_count.F1 a0 a1 b1) := by
  unfold weirref3_count.L1
  refine SJ.seq ?_
  refine SJ.sr 5 ?_
  refine OJ.go 2 [(8, .pointer (some (pt b1 3))), (7, .int .i64 s3)] ?_
  refine OJ.kld (d := 9) (y := .tmp 8) (cd := cL) (j := 0) (b := b1) (o := 3) a0.L (pend2 := []) Ty57 rfl (At_weirref3_Port_L a0) rfl ?_
  refine OJ.go 2 [(11, .bool (decide (s3 < (a0.L.len : Int)))), (10, .int .i64 (a0.L.len : Int))] ?_
  refine OJ.nil ?_
  refine SJ.cond (t := (.tmp 11)) (b := decide (s3 < (a0.L.len : Int))) decide_eq_true_iff (fun hc11 => ?_) (fun hc11 => ?_)
  · refine SJ.skip ?_
    refine SJ.seq ?_
    refine SJ.block (id := 1) ?_
    refine SJ.sr 8 ?_
    refine OJ.go 1 [(14, .pointer (some (pt b1 3)))] ?_
    refine OJ.kld (d := 15) (y := .tmp 14) (cd := cL) (j := 0) (b := b1) (o := 3) a0.L (pend2 := []) Ty57 rfl (At_weirref3_Port_L a0) rfl ?_
    refine OJ.go 1 [(16, .int .i64 s3)] ?_
    refine OJ.idxS (d := 17) (T := 57) (y := .tmp 15) (j := .tmp 16) (E := 110) (cap := a0.L.cap) (k := .i64) (fun p8 => ?_)
    refine OJ.go 1 [(18, .pointer (some p8))] ?_
    refine OJ.ld (d := 19) (y := .tmp 18) (pend2 := fun x9 => []) Ty3 (fun _ => rfl) (fun x9 => ?_)
    refine OJ.go 2 [(21, .bool (x9 == a1)), (20, .int .i64 a1)] ?_
    refine OJ.nil ?_
    refine SJ.cond (t := (.tmp 21)) (b := (x9 == a1)) beq_iff_eq (fun hc10 => ?_) (fun hc10 => ?_)
    · refine SJ.rg 3 ?_
      refine OJ.go 3 [(5, .int .i64 (IntKind.wrap .i64 (s2 + 1))), (23, .int .i64 (IntKind.wrap .i64 (s2 + 1))), (22, .int .i64 s2)] ?_
      refine OJ.nil ?_
      refine SJ.inBlock ?_
      refine SJ.rg 3 ?_
      refine OJ.go 3 [(6, .int .i64 (IntKind.wrap .i64 (s3 + 1))), (13, .int .i64 (IntKind.wrap .i64 (s3 + 1))), (12, .int .i64 s3)] ?_
      refine OJ.nil ?_
      exact SJ.at_ [1, 2, 5, 6] rfl
    · refine SJ.skip ?_
      refine SJ.inBlock ?_
      refine SJ.rg 3 ?_
      refine OJ.go 3 [(6, .int .i64 (IntKind.wrap .i64 (s3 + 1))), (13, .int .i64 (IntKind.wrap .i64 (s3 + 1))), (12, .int .i64 s3)] ?_
      refine OJ.nil ?_
      exact SJ.at_ [1, 2, 5, 6] rfl
  · refine SJ.exit (id := 0) (by rfl) ?_
    refine SJ.sr 2 ?_
    refine OJ.go 2 [(4, .int .i64 s2), (24, .int .i64 s2)] ?_
    refine OJ.nil ?_
    exact SJ.ret rfl (Res.run (ys := [.int .i64 s2]) (.tmp (by kernel_rfl) .nil) rfl)
noncomputable def weirref3_count (a0 : weirref3_Port) (a1 : Int) : M Int :=
  slot 59 >>= fun b1 =>
  loopM (fun s_ : (Int × Int) => weirref3_count.L1 a0 a1 s_.1 s_.2) (0, 0)
theorem weirref3_count_ok (a0 : weirref3_Port) (a1 : Int) : Ref Try.prog 63 [c_weirref3_Port.val a0, .int .i64 a1] (weirref3_count a0 a1) weirref3_count.out := by
  refine Ref.of (cd := weirref3_count.B) Try.func63 ?_
  show SJ weirref3_count.cx [.code weirref3_count.B] [(0, c_weirref3_Port.val a0), (1, .int .i64 a1)] [] (weirref3_count a0 a1) weirref3_count.F0
  unfold weirref3_count
  refine SJ.sr 2 ?_
  refine OJ.slotOf (d := 2) (op := (.box 59 (.tmp 0))) (cd := c_weirref3_Port) (u := a0) (owed := []) (box_run (by kernel_rfl)) (fun b1 => ?_)
  refine OW.nil ?_
  refine OJ.go 1 [(4, .int .i64 0)] ?_
  refine OJ.nil ?_
  refine SJ.sr 1 ?_
  refine OJ.go 1 [(5, .int .i64 0)] ?_
  refine OJ.nil ?_
  refine SJ.seq ?_
  refine SJ.sr 1 ?_
  refine OJ.go 1 [(6, .int .i64 0)] ?_
  refine OJ.nil ?_
  refine SJ.block (id := 0) ?_
  exact SJ.loop (fun s_ : (Int × Int) => [(1, .int .i64 a1), (2, .pointer (some (pt b1 0))), (5, .int .i64 s_.1), (6, .int .i64 s_.2)]) (fun s_ : (Int × Int) => [(b1, c_weirref3_Port.enc a0)]) [1, 2, 5, 6] rfl (fun _ _ => rfl) (fun s_ => weirref3_count.L1_ok a0 a1 b1 s_.1 s_.2)

/-! ### weir/weirref3.Refill: function 70 -/
noncomputable def weirref3_Refill.B : Code := (Try.f70.body).getD .skip
noncomputable def weirref3_Refill.cx : Fx := ⟨Try.prog, 70, Try.f70⟩
noncomputable def weirref3_Refill.out (r_ : (weirref3_Port × Int)) : Value := .tuple #[c_weirref3_Port.val r_.1, .int .i64 r_.2]
noncomputable def weirref3_Refill.F0 (r_ : (weirref3_Port × Int)) : Reach := .ret (weirref3_Refill.out r_)
noncomputable def weirref3_Refill.F1 (a1 : Int) (b1 : Nat) (b2 : Nat) : (LS (Int × weirref3_Port × weirref3_Port) (weirref3_Port × Int)) → Reach := loopF [.inLoop (c1 (c1 (c1 (c2 (c2 weirref3_Refill.B))))), .inBlock 0, .code (c2 (c2 (c2 weirref3_Refill.B)))] (fun s_ : (Int × weirref3_Port × weirref3_Port) => [(1, .int .i64 a1), (2, .pointer (some (pt b1 0))), (4, .pointer (some (pt b2 0))), (6, .int .i64 s_.1)]) (fun s_ : (Int × weirref3_Port × weirref3_Port) => [(b2, c_weirref3_Port.enc s_.2.1), (b1, c_weirref3_Port.enc s_.2.2)]) weirref3_Refill.F0
noncomputable def weirref3_Refill.L1 (a1 : Int) (s3 : Int) (s4 : weirref3_Port) (s5 : weirref3_Port) : M (LS (Int × weirref3_Port × weirref3_Port) (weirref3_Port × Int)) :=
  if s3 < a1 then
    weirref3_first s5 1 >>= fun r13 =>
    draw >>= fun _ =>
    (if r13 < 0 then
        pure true
      else
        weirref3_count s5 2 >>= fun r14 =>
        weirref3_count s5 3 >>= fun r15 =>
        pure (decide ((IntKind.wrap .i64 (r14 + r15)) ≥ s5.Rx))) >>= fun y16 =>
    if y16 = true then
      pure (LS.done (s5, s3))
    else
      weirref3_moved s5 r13 2 >>= fun r17 =>
      pure (LS.next (IntKind.wrap .i64 (s3 + 1), s4, r17))
  else
    pure (LS.done (s5, s3))
theorem weirref3_Refill.L1_ok (a1 : Int) (b1 : Nat) (b2 : Nat) (s3 : Int) (s4 : weirref3_Port) (s5 : weirref3_Port) :
    SJ weirref3_Refill.cx [.code (c1 (c1 (c1 (c2 (c2 weirref3_Refill.B))))), .inLoop (c1 (c1 (c1 (c2 (c2 weirref3_Refill.B))))), .inBlock 0, .code (c2 (c2 (c2 weirref3_Refill.B)))] [(1, .int .i64 a1), (2, .pointer (some (pt b1 0))), (4, .pointer (some (pt b2 0))), (6, .int .i64 s3)] [(b2, c_weirref3_Port.enc s4), (b1, c_weirref3_Port.enc s5)] (weirref3_Refill.L1 a1 s3 s4 s5) (weirref3_Refill.F1 a1 b1 b2) := by
  unfold weirref3_Refill.L1
  refine SJ.seq ?_
  refine SJ.sr 3 ?_
  refine OJ.go 3 [(10, .bool (decide (s3 < a1))), (9, .int .i64 a1), (8, .int .i64 s3)] ?_
  refine OJ.nil ?_
  refine SJ.cond (t := (.tmp 10)) (b := decide (s3 < a1)) decide_eq_true_iff (fun hc19 => ?_) (fun hc19 => ?_)
  · refine SJ.skip ?_
    refine SJ.block (id := 1) ?_
    refine SJ.sr 3 ?_
    refine OJ.kld (d := 11) (y := .tmp 2) (cd := c_weirref3_Port) (j := 1) (b := b1) (o := 0) s5 (pend2 := []) Ty59 rfl (At.whole _) rfl ?_
    refine OJ.call (d := 12) (g := 77) (ats := #[59, 3]) (args := [.tmp 11, .const (.int .i64 1)]) (owed := []) F77 (weirref3_first_ok s5 1) (fun r13 => ?_)
    refine OW.nil ?_
    refine OJ.go 1 [(7, .int .i64 r13)] ?_
    refine OJ.nil ?_
    refine SJ.seq ?_
    refine SJ.seq ?_
    refine SJ.draw (id := 4) (kd := [0, 0, 0, 1, 2, 1, 2, 0, 0, 1, 0, 0]) (bef := [0, 1, 3, 7, 15, 7, 63, 127, 7, 263, 1023, 2047]) (ord := [0, 1, 2, 3, 5, 8, 9, 4, 6, 7, 10, 11]) mixed ?_
    refine OJ.go 3 [(15, .bool (decide (r13 < 0))), (14, .bool (decide (r13 < 0))), (13, .int .i64 r13)] ?_
    refine OJ.join (b := decide (r13 < 0)) [3, 5, 8, 9, 4, 6, 7, 10, 11] [] [1, 2, 4, 6, 7, 24] (fun y16 => [(1, .int .i64 a1), (2, .pointer (some (pt b1 0))), (4, .pointer (some (pt b2 0))), (6, .int .i64 s3), (7, .int .i64 r13), (24, .bool y16)]) [⟨9, 3, (pt b1 0), (cI .i64).val s5.Rx⟩, ⟨5, 59, (pt b1 0), c_weirref3_Port.val s5⟩, ⟨3, 59, (pt b1 0), c_weirref3_Port.val s5⟩] [] (t := 15) decide_eq_true_iff (fun hp_ => ?_) (fun hp_ => ?_) (fun _ _ _ _ _ _ h_ => h_) (fun y16 => ?_)
    · refine OJ.go 9 [(24, .bool true), (23, undef), (20, undef), (19, undef), (17, undef), (22, undef), (21, undef), (18, undef), (16, undef)] ?_
      exact OJ.nil ⟨(Cov.mem Cov.nil), rfl, _, rfl, by kernel_rfl⟩
    · refine OJ.kld (d := 16) (y := .tmp 2) (cd := c_weirref3_Port) (j := 1) (b := b1) (o := 0) s5 (pend2 := [⟨3, 59, (pt b1 0), c_weirref3_Port.val s5⟩]) Ty59 rfl (At.whole _) rfl ?_
      refine OJ.kld (d := 18) (y := .tmp 2) (cd := c_weirref3_Port) (j := 1) (b := b1) (o := 0) s5 (pend2 := [⟨5, 59, (pt b1 0), c_weirref3_Port.val s5⟩, ⟨3, 59, (pt b1 0), c_weirref3_Port.val s5⟩]) Ty59 rfl (At.whole _) rfl ?_
      refine OJ.go 1 [(21, .pointer (some (pt b1 0)))] ?_
      refine OJ.kld (d := 22) (y := .tmp 21) (cd := (cI .i64)) (j := 1) (b := b1) (o := 0) s5.Rx (pend2 := [⟨9, 3, (pt b1 0), (cI .i64).val s5.Rx⟩, ⟨5, 59, (pt b1 0), c_weirref3_Port.val s5⟩, ⟨3, 59, (pt b1 0), c_weirref3_Port.val s5⟩]) Ty3 rfl (At_weirref3_Port_Rx s5) rfl ?_
      refine OJ.call (d := 17) (g := 63) (ats := #[59, 3]) (args := [.tmp 16, .const (.int .i64 2)]) (owed := [⟨9, 3, (pt b1 0), (cI .i64).val s5.Rx⟩, ⟨5, 59, (pt b1 0), c_weirref3_Port.val s5⟩]) F63 (weirref3_count_ok s5 2) (fun r14 => ?_)
      refine OW.known (j := 1) (q := s5.Rx) Ty3 rfl (At_weirref3_Port_Rx s5) ?_
      refine OW.known (j := 1) (q := s5) Ty59 rfl (At.whole _) ?_
      refine OW.nil ?_
      refine OJ.call (d := 19) (g := 63) (ats := #[59, 3]) (args := [.tmp 18, .const (.int .i64 3)]) (owed := [⟨9, 3, (pt b1 0), (cI .i64).val s5.Rx⟩]) F63 (weirref3_count_ok s5 3) (fun r15 => ?_)
      refine OW.known (j := 1) (q := s5.Rx) Ty3 rfl (At_weirref3_Port_Rx s5) ?_
      refine OW.nil ?_
      refine OJ.go 3 [(24, .bool (decide ((IntKind.wrap .i64 (r14 + r15)) ≥ s5.Rx))), (23, .bool (decide ((IntKind.wrap .i64 (r14 + r15)) ≥ s5.Rx))), (20, .int .i64 (IntKind.wrap .i64 (r14 + r15)))] ?_
      exact OJ.nil ⟨(Cov.mem (Cov.keep (List.mem_of_getElem? (i := 0) rfl) (Cov.keep (List.mem_of_getElem? (i := 1) rfl) (Cov.keep (List.mem_of_getElem? (i := 2) rfl) Cov.nil)))), rfl, _, rfl, by kernel_rfl⟩
    · refine OJ.nil ?_
      refine SJ.cond (t := (.tmp 24)) (b := y16) Iff.rfl (fun hc18 => ?_) (fun hc18 => ?_)
      · refine SJ.sr 4 ?_
        refine OJ.kld (d := 25) (y := .tmp 2) (cd := c_weirref3_Port) (j := 1) (b := b1) (o := 0) s5 (pend2 := []) Ty59 rfl (At.whole _) rfl ?_
        refine OJ.go 1 [(26, .int .i64 s3)] ?_
        refine OJ.kst (y := .tmp 4) (z := .tmp 25) (cd := c_weirref3_Port) (u := s5) (j := 0) (b := b2) (o := 0) (c_weirref3_Port.enc s5) (owed := []) Ty59 rfl (Upd.whole ((Cod.len _ _).trans (Cod.len _ _).symm)) rfl ?_
        refine OW.nil ?_
        refine OJ.go 1 [(5, .int .i64 s3)] ?_
        refine OJ.nil ?_
        exact SJ.ret rfl (Res.run (ys := [c_weirref3_Port.val s5, .int .i64 s3]) (.cell (j := 0) (b := b2) (cd := c_weirref3_Port) (q := s5) (by kernel_rfl) rfl Ty59 (At.whole _) (.tmp (by kernel_rfl) .nil)) rfl)
      · refine SJ.skip ?_
        refine SJ.sr 4 ?_
        refine OJ.kld (d := 27) (y := .tmp 2) (cd := c_weirref3_Port) (j := 1) (b := b1) (o := 0) s5 (pend2 := []) Ty59 rfl (At.whole _) rfl ?_
        refine OJ.go 1 [(28, .int .i64 r13)] ?_
        refine OJ.call (d := 29) (g := 80) (ats := #[59, 3, 3]) (args := [.tmp 27, .tmp 28, .const (.int .i64 2)]) (owed := []) F80 (weirref3_moved_ok s5 r13 2) (fun r17 => ?_)
        refine OW.nil ?_
        refine OJ.kst (y := .tmp 2) (z := .tmp 29) (cd := c_weirref3_Port) (u := r17) (j := 1) (b := b1) (o := 0) (c_weirref3_Port.enc r17) (owed := []) Ty59 rfl (Upd.whole ((Cod.len _ _).trans (Cod.len _ _).symm)) rfl ?_
        refine OW.nil ?_
        refine OJ.nil ?_
        refine SJ.rg 3 ?_
        refine OJ.go 3 [(6, .int .i64 (IntKind.wrap .i64 (s3 + 1))), (31, .int .i64 (IntKind.wrap .i64 (s3 + 1))), (30, .int .i64 s3)] ?_
        refine OJ.nil ?_
        refine SJ.inBlock ?_
        exact SJ.at_ [1, 2, 4, 6] rfl
  · refine SJ.exit (id := 0) (by rfl) ?_
    refine SJ.sr 4 ?_
    refine OJ.kld (d := 32) (y := .tmp 2) (cd := c_weirref3_Port) (j := 1) (b := b1) (o := 0) s5 (pend2 := []) Ty59 rfl (At.whole _) rfl ?_
    refine OJ.go 1 [(33, .int .i64 s3)] ?_
    refine OJ.kst (y := .tmp 4) (z := .tmp 32) (cd := c_weirref3_Port) (u := s5) (j := 0) (b := b2) (o := 0) (c_weirref3_Port.enc s5) (owed := []) Ty59 rfl (Upd.whole ((Cod.len _ _).trans (Cod.len _ _).symm)) rfl ?_
    refine OW.nil ?_
    refine OJ.go 1 [(5, .int .i64 s3)] ?_
    refine OJ.nil ?_
    exact SJ.ret rfl (Res.run (ys := [c_weirref3_Port.val s5, .int .i64 s3]) (.cell (j := 0) (b := b2) (cd := c_weirref3_Port) (q := s5) (by kernel_rfl) rfl Ty59 (At.whole _) (.tmp (by kernel_rfl) .nil)) rfl)
noncomputable def weirref3_Refill (a0 : weirref3_Port) (a1 : Int) : M (weirref3_Port × Int) :=
  slot 59 >>= fun b1 =>
  slot 59 >>= fun b2 =>
  loopM (fun s_ : (Int × weirref3_Port × weirref3_Port) => weirref3_Refill.L1 a1 s_.1 s_.2.1 s_.2.2) (0, z_weirref3_Port, a0)
theorem weirref3_Refill_ok (a0 : weirref3_Port) (a1 : Int) : Ref Try.prog 70 [c_weirref3_Port.val a0, .int .i64 a1] (weirref3_Refill a0 a1) weirref3_Refill.out := by
  refine Ref.of (cd := weirref3_Refill.B) Try.func70 ?_
  show SJ weirref3_Refill.cx [.code weirref3_Refill.B] [(0, c_weirref3_Port.val a0), (1, .int .i64 a1)] [] (weirref3_Refill a0 a1) weirref3_Refill.F0
  unfold weirref3_Refill
  refine SJ.sr 3 ?_
  refine OJ.slotOf (d := 2) (op := (.box 59 (.tmp 0))) (cd := c_weirref3_Port) (u := a0) (owed := []) (box_run (by kernel_rfl)) (fun b1 => ?_)
  refine OW.nil ?_
  refine OJ.slotOf (d := 4) (op := (.alloc 59)) (cd := c_weirref3_Port) (u := z_weirref3_Port) (owed := []) (alloc_run Ty59) (fun b2 => ?_)
  refine OW.nil ?_
  refine OJ.go 1 [(5, .int .i64 0)] ?_
  refine OJ.nil ?_
  refine SJ.sr 1 ?_
  refine OJ.go 1 [(6, .int .i64 0)] ?_
  refine OJ.nil ?_
  refine SJ.seq ?_
  refine SJ.block (id := 0) ?_
  exact SJ.loop (fun s_ : (Int × weirref3_Port × weirref3_Port) => [(1, .int .i64 a1), (2, .pointer (some (pt b1 0))), (4, .pointer (some (pt b2 0))), (6, .int .i64 s_.1)]) (fun s_ : (Int × weirref3_Port × weirref3_Port) => [(b2, c_weirref3_Port.enc s_.2.1), (b1, c_weirref3_Port.enc s_.2.2)]) [1, 2, 4, 6] rfl (fun _ _ => rfl) (fun s_ => weirref3_Refill.L1_ok a1 b1 b2 s_.1 s_.2.1 s_.2.2)

/-! ### (*weir/ring.Port).Release: function 24 -/
noncomputable def ring_Port_Release.B : Code := (Try.f24.body).getD .skip
noncomputable def ring_Port_Release.cx : Fx := ⟨Try.prog, 24, Try.f24⟩
noncomputable def ring_Port_Release.out (r_ : Int) : Value := .int .i64 r_
noncomputable def ring_Port_Release.F0 (r_ : Int) : Reach := .ret (ring_Port_Release.out r_)
noncomputable def ring_Port_Release (a0 : (Option Addr)) (a1 : Int) : M Int :=
  ring_Port_held a0 a1 >>= fun r1 =>
  if r1 ≠ 0 then
    pure r1
  else
    nilck a0 >>= fun p2 =>
    ld cL (Addr.add p2 4) >>= fun x3 =>
    idx x3.a x3.len a1 1 >>= fun p4 =>
    st (cI .i64) p4 1 >>= fun _ =>
    nilck a0 >>= fun p5 =>
    ring_line_join (some (Addr.add p5 6)) a1 >>= fun r6 =>
    pure 0
theorem ring_Port_Release_ok (a0 : (Option Addr)) (a1 : Int) : Ref Try.prog 24 [.pointer a0, .int .i64 a1] (ring_Port_Release a0 a1) ring_Port_Release.out := by
  refine Ref.of (cd := ring_Port_Release.B) Try.func24 ?_
  show SJ ring_Port_Release.cx [.code ring_Port_Release.B] [(0, .pointer a0), (1, .int .i64 a1)] [] (ring_Port_Release a0 a1) ring_Port_Release.F0
  unfold ring_Port_Release
  refine SJ.sr 1 ?_
  refine OJ.go 1 [(4, .int .i64 0)] ?_
  refine OJ.nil ?_
  refine SJ.seq ?_
  refine SJ.sr 4 ?_
  refine OJ.go 2 [(7, .int .i64 a1), (6, .pointer a0)] ?_
  refine OJ.call (d := 8) (g := 49) (ats := #[23, 3]) (args := [.tmp 6, .tmp 7]) (owed := []) F49 (ring_Port_held_ok a0 a1) (fun r1 => ?_)
  refine OW.nil ?_
  refine OJ.go 1 [(5, .int .i64 r1)] ?_
  refine OJ.nil ?_
  refine SJ.sr 2 ?_
  refine OJ.go 2 [(10, .bool (r1 != 0)), (9, .int .i64 r1)] ?_
  refine OJ.nil ?_
  refine SJ.cond (t := (.tmp 10)) (b := (r1 != 0)) bne_iff_ne (fun hc7 => ?_) (fun hc7 => ?_)
  · refine SJ.sr 2 ?_
    refine OJ.go 2 [(4, .int .i64 r1), (11, .int .i64 r1)] ?_
    refine OJ.nil ?_
    exact SJ.ret rfl (Res.run (ys := [.int .i64 r1]) (.tmp (by kernel_rfl) .nil) rfl)
  · refine SJ.skip ?_
    refine SJ.sr 7 ?_
    refine OJ.go 1 [(12, .pointer a0)] ?_
    refine OJ.nilck (d := 13) (y := .tmp 12) (fun p2 => ?_)
    refine OJ.go 1 [(14, .pointer (some (Addr.add p2 4)))] ?_
    refine OJ.ld (d := 15) (y := .tmp 14) (pend2 := fun x3 => []) Ty67 (fun _ => rfl) (fun x3 => ?_)
    refine OJ.go 1 [(16, .int .i64 a1)] ?_
    refine OJ.idxS (d := 17) (T := 67) (y := .tmp 15) (j := .tmp 16) (E := 3) (cap := x3.cap) (k := .i64) (fun p4 => ?_)
    refine OJ.st (y := .tmp 17) (z := .const (.int .i64 1)) (owed := []) Ty3 ?_
    refine OW.nil ?_
    refine OJ.nil ?_
    refine SJ.sr 5 ?_
    refine OJ.go 1 [(18, .pointer a0)] ?_
    refine OJ.nilck (d := 19) (y := .tmp 18) (fun p5 => ?_)
    refine OJ.go 2 [(21, .int .i64 a1), (20, .pointer (some (Addr.add p5 6)))] ?_
    refine OJ.call (d := 22) (g := 45) (ats := #[86, 3]) (args := [.tmp 20, .tmp 21]) (owed := []) F45 (ring_line_join_ok (some (Addr.add p5 6)) a1) (fun r6 => ?_)
    refine OW.nil ?_
    refine OJ.nil ?_
    refine SJ.sr 1 ?_
    refine OJ.go 1 [(4, .int .i64 0)] ?_
    refine OJ.nil ?_
    exact SJ.ret rfl (Res.run (ys := [.int .i64 0]) (.tmp (by kernel_rfl) .nil) rfl)

/-! ### weir/weirref3.Release: function 71 -/
noncomputable def weirref3_Release.B : Code := (Try.f71.body).getD .skip
noncomputable def weirref3_Release.cx : Fx := ⟨Try.prog, 71, Try.f71⟩
noncomputable def weirref3_Release.out (r_ : (weirref3_Port × Int)) : Value := .tuple #[c_weirref3_Port.val r_.1, .int .i64 r_.2]
noncomputable def weirref3_Release.F0 (r_ : (weirref3_Port × Int)) : Reach := .ret (weirref3_Release.out r_)
noncomputable def weirref3_Release (a0 : weirref3_Port) (a1 : Int) : M (weirref3_Port × Int) :=
  slot 59 >>= fun b1 =>
  slot 59 >>= fun b2 =>
  weirref3_Buffer a0 a1 >>= fun r3 =>
  if r3 ≠ 0 then
    pure (a0, r3)
  else
    weirref3_moved a0 a1 1 >>= fun r4 =>
    pure (r4, 0)
theorem weirref3_Release_ok (a0 : weirref3_Port) (a1 : Int) : Ref Try.prog 71 [c_weirref3_Port.val a0, .int .i64 a1] (weirref3_Release a0 a1) weirref3_Release.out := by
  refine Ref.of (cd := weirref3_Release.B) Try.func71 ?_
  show SJ weirref3_Release.cx [.code weirref3_Release.B] [(0, c_weirref3_Port.val a0), (1, .int .i64 a1)] [] (weirref3_Release a0 a1) weirref3_Release.F0
  unfold weirref3_Release
  refine SJ.sr 3 ?_
  refine OJ.slotOf (d := 2) (op := (.box 59 (.tmp 0))) (cd := c_weirref3_Port) (u := a0) (owed := []) (box_run (by kernel_rfl)) (fun b1 => ?_)
  refine OW.nil ?_
  refine OJ.slotOf (d := 4) (op := (.alloc 59)) (cd := c_weirref3_Port) (u := z_weirref3_Port) (owed := []) (alloc_run Ty59) (fun b2 => ?_)
  refine OW.nil ?_
  refine OJ.go 1 [(5, .int .i64 0)] ?_
  refine OJ.nil ?_
  refine SJ.sr 4 ?_
  refine OJ.kld (d := 7) (y := .tmp 2) (cd := c_weirref3_Port) (j := 1) (b := b1) (o := 0) a0 (pend2 := []) Ty59 rfl (At.whole _) rfl ?_
  refine OJ.go 1 [(8, .int .i64 a1)] ?_
  refine OJ.call (d := 9) (g := 69) (ats := #[59, 3]) (args := [.tmp 7, .tmp 8]) (owed := []) F69 (weirref3_Buffer_ok a0 a1) (fun r3 => ?_)
  refine OW.nil ?_
  refine OJ.go 1 [(6, .int .i64 r3)] ?_
  refine OJ.nil ?_
  refine SJ.seq ?_
  refine SJ.sr 2 ?_
  refine OJ.go 2 [(11, .bool (r3 != 0)), (10, .int .i64 r3)] ?_
  refine OJ.nil ?_
  refine SJ.cond (t := (.tmp 11)) (b := (r3 != 0)) bne_iff_ne (fun hc5 => ?_) (fun hc5 => ?_)
  · refine SJ.sr 4 ?_
    refine OJ.kld (d := 12) (y := .tmp 2) (cd := c_weirref3_Port) (j := 1) (b := b1) (o := 0) a0 (pend2 := []) Ty59 rfl (At.whole _) rfl ?_
    refine OJ.go 1 [(13, .int .i64 r3)] ?_
    refine OJ.kst (y := .tmp 4) (z := .tmp 12) (cd := c_weirref3_Port) (u := a0) (j := 0) (b := b2) (o := 0) (c_weirref3_Port.enc a0) (owed := []) Ty59 rfl (Upd.whole ((Cod.len _ _).trans (Cod.len _ _).symm)) rfl ?_
    refine OW.nil ?_
    refine OJ.go 1 [(5, .int .i64 r3)] ?_
    refine OJ.nil ?_
    exact SJ.ret rfl (Res.run (ys := [c_weirref3_Port.val a0, .int .i64 r3]) (.cell (j := 0) (b := b2) (cd := c_weirref3_Port) (q := a0) (by kernel_rfl) rfl Ty59 (At.whole _) (.tmp (by kernel_rfl) .nil)) rfl)
  · refine SJ.skip ?_
    refine SJ.sr 5 ?_
    refine OJ.kld (d := 14) (y := .tmp 2) (cd := c_weirref3_Port) (j := 1) (b := b1) (o := 0) a0 (pend2 := []) Ty59 rfl (At.whole _) rfl ?_
    refine OJ.go 1 [(15, .int .i64 a1)] ?_
    refine OJ.call (d := 16) (g := 80) (ats := #[59, 3, 3]) (args := [.tmp 14, .tmp 15, .const (.int .i64 1)]) (owed := []) F80 (weirref3_moved_ok a0 a1 1) (fun r4 => ?_)
    refine OW.nil ?_
    refine OJ.kst (y := .tmp 4) (z := .tmp 16) (cd := c_weirref3_Port) (u := r4) (j := 0) (b := b2) (o := 0) (c_weirref3_Port.enc r4) (owed := []) Ty59 rfl (Upd.whole ((Cod.len _ _).trans (Cod.len _ _).symm)) rfl ?_
    refine OW.nil ?_
    refine OJ.go 1 [(5, .int .i64 0)] ?_
    refine OJ.nil ?_
    exact SJ.ret rfl (Res.run (ys := [c_weirref3_Port.val r4, .int .i64 0]) (.cell (j := 0) (b := b2) (cd := c_weirref3_Port) (q := r4) (by kernel_rfl) rfl Ty59 (At.whole _) (.tmp (by kernel_rfl) .nil)) rfl)

/-! ### (*weir/ring.Port).Send: function 21 -/
noncomputable def ring_Port_Send.B : Code := (Try.f21.body).getD .skip
noncomputable def ring_Port_Send.cx : Fx := ⟨Try.prog, 21, Try.f21⟩
noncomputable def ring_Port_Send.out (r_ : Int) : Value := .int .i64 r_
noncomputable def ring_Port_Send.F0 (r_ : Int) : Reach := .ret (ring_Port_Send.out r_)
noncomputable def ring_Port_Send (a0 : (Option Addr)) (a1 : Int) (a2 : Int) : M Int :=
  (if a1 < 0 then
      pure true
    else
      nilck a0 >>= fun p1 =>
      ld cL (Addr.add p1 4) >>= fun x2 =>
      pure (decide (a1 ≥ (x2.len : Int)))) >>= fun y3 =>
  (if y3 = true then
      pure true
    else
      pure (decide (a2 < 0))) >>= fun y4 =>
  (if y4 = true then
      pure true
    else
      nilck a0 >>= fun p5 =>
      ld (cI .i64) p5 >>= fun x6 =>
      pure (decide (a2 > x6))) >>= fun y7 =>
  if y7 = true then
    pure 1
  else
    ring_Port_held a0 a1 >>= fun r8 =>
    if r8 ≠ 0 then
      pure r8
    else
      draw >>= fun _ =>
      nilck a0 >>= fun p9 =>
      ld (cI .i64) (Addr.add (Addr.add p9 15) 2) >>= fun x10 =>
      nilck a0 >>= fun p11 =>
      ld (cI .i64) (Addr.add p11 2) >>= fun x12 =>
      if x10 = x12 then
        pure 32
      else
        draw >>= fun _ =>
        nilck a0 >>= fun p13 =>
        ld cL (Addr.add p13 4) >>= fun x14 =>
        nilck a0 >>= fun p15 =>
        ld cL (Addr.add p15 5) >>= fun x16 =>
        idx x14.a x14.len a1 1 >>= fun p17 =>
        st (cI .i64) p17 5 >>= fun _ =>
        idx x16.a x16.len a1 1 >>= fun p18 =>
        st (cI .i64) p18 a2 >>= fun _ =>
        nilck a0 >>= fun p19 =>
        ring_line_join (some (Addr.add p19 15)) a1 >>= fun r20 =>
        pure 0
theorem ring_Port_Send_ok (a0 : (Option Addr)) (a1 : Int) (a2 : Int) : Ref Try.prog 21 [.pointer a0, .int .i64 a1, .int .i64 a2] (ring_Port_Send a0 a1 a2) ring_Port_Send.out := by
  refine Ref.of (cd := ring_Port_Send.B) Try.func21 ?_
  show SJ ring_Port_Send.cx [.code ring_Port_Send.B] [(0, .pointer a0), (1, .int .i64 a1), (2, .int .i64 a2)] [] (ring_Port_Send a0 a1 a2) ring_Port_Send.F0
  unfold ring_Port_Send
  refine SJ.sr 1 ?_
  refine OJ.go 1 [(6, .int .i64 0)] ?_
  refine OJ.nil ?_
  refine SJ.seq ?_
  refine SJ.sr 23 ?_
  refine OJ.go 3 [(10, .bool (decide (a1 < 0))), (9, .bool (decide (a1 < 0))), (8, .int .i64 a1)] ?_
  refine OJ.join (b := decide (a1 < 0)) [3, 4, 5, 6, 7, 8, 9, 10] [11, 12, 13, 14, 15, 16, 17, 18, 19, 20, 21, 22] [0, 1, 2, 18] (fun y3 => [(0, .pointer a0), (1, .int .i64 a1), (2, .int .i64 a2), (18, .bool y3)]) [] [] (t := 10) decide_eq_true_iff (fun hp_ => ?_) (fun hp_ => ?_) (fun _ _ _ _ _ _ h_ => h_) (fun y3 => ?_)
  · refine OJ.go 8 [(18, .bool true), (17, undef), (16, undef), (15, undef), (14, undef), (13, undef), (12, undef), (11, undef)] ?_
    exact OJ.nil ⟨(Cov.mem Cov.nil), rfl, _, rfl, by kernel_rfl⟩
  · refine OJ.go 2 [(12, .pointer a0), (11, .int .i64 a1)] ?_
    refine OJ.nilck (d := 13) (y := .tmp 12) (fun p1 => ?_)
    refine OJ.go 1 [(14, .pointer (some (Addr.add p1 4)))] ?_
    refine OJ.ld (d := 15) (y := .tmp 14) (pend2 := fun x2 => []) Ty67 (fun _ => rfl) (fun x2 => ?_)
    refine OJ.go 3 [(18, .bool (decide (a1 ≥ (x2.len : Int)))), (17, .bool (decide (a1 ≥ (x2.len : Int)))), (16, .int .i64 (x2.len : Int))] ?_
    exact OJ.nil ⟨(Cov.mem Cov.nil), rfl, _, rfl, by kernel_rfl⟩
  · refine OJ.go 1 [(19, .bool y3)] ?_
    refine OJ.join (b := y3) [12, 13, 14] [15, 16, 17, 18, 19, 20, 21, 22] [0, 1, 2, 22] (fun y4 => [(0, .pointer a0), (1, .int .i64 a1), (2, .int .i64 a2), (22, .bool y4)]) [] [] (t := 19) Iff.rfl (fun hp_ => ?_) (fun hp_ => ?_) (fun _ _ _ _ _ _ h_ => h_) (fun y4 => ?_)
    · refine OJ.go 3 [(22, .bool true), (21, undef), (20, undef)] ?_
      exact OJ.nil ⟨(Cov.mem Cov.nil), rfl, _, rfl, by kernel_rfl⟩
    · refine OJ.go 3 [(22, .bool (decide (a2 < 0))), (21, .bool (decide (a2 < 0))), (20, .int .i64 a2)] ?_
      exact OJ.nil ⟨(Cov.mem Cov.nil), rfl, _, rfl, by kernel_rfl⟩
    · refine OJ.go 1 [(23, .bool y4)] ?_
      refine OJ.join (b := y4) [16, 17, 18, 19, 20, 21, 22] [] [0, 1, 2, 30] (fun y7 => [(0, .pointer a0), (1, .int .i64 a1), (2, .int .i64 a2), (30, .bool y7)]) [] [] (t := 23) Iff.rfl (fun hp_ => ?_) (fun hp_ => ?_) (fun _ _ _ _ _ _ h_ => h_) (fun y7 => ?_)
      · refine OJ.go 7 [(30, .bool true), (29, undef), (28, undef), (27, undef), (26, undef), (25, undef), (24, undef)] ?_
        exact OJ.nil ⟨(Cov.mem Cov.nil), rfl, _, rfl, by kernel_rfl⟩
      · refine OJ.go 2 [(25, .pointer a0), (24, .int .i64 a2)] ?_
        refine OJ.nilck (d := 26) (y := .tmp 25) (fun p5 => ?_)
        refine OJ.go 1 [(27, .pointer (some p5))] ?_
        refine OJ.ld (d := 28) (y := .tmp 27) (pend2 := fun x6 => []) Ty3 (fun _ => rfl) (fun x6 => ?_)
        refine OJ.go 2 [(30, .bool (decide (a2 > x6))), (29, .bool (decide (a2 > x6)))] ?_
        exact OJ.nil ⟨(Cov.mem Cov.nil), rfl, _, rfl, by kernel_rfl⟩
      · refine OJ.nil ?_
        refine SJ.cond (t := (.tmp 30)) (b := y7) Iff.rfl (fun hc23 => ?_) (fun hc23 => ?_)
        · refine SJ.sr 1 ?_
          refine OJ.go 1 [(6, .int .i64 1)] ?_
          refine OJ.nil ?_
          exact SJ.ret rfl (Res.run (ys := [.int .i64 1]) (.tmp (by kernel_rfl) .nil) rfl)
        · refine SJ.skip ?_
          refine SJ.seq ?_
          refine SJ.sr 4 ?_
          refine OJ.go 2 [(32, .int .i64 a1), (31, .pointer a0)] ?_
          refine OJ.call (d := 33) (g := 49) (ats := #[23, 3]) (args := [.tmp 31, .tmp 32]) (owed := []) F49 (ring_Port_held_ok a0 a1) (fun r8 => ?_)
          refine OW.nil ?_
          refine OJ.go 1 [(7, .int .i64 r8)] ?_
          refine OJ.nil ?_
          refine SJ.sr 2 ?_
          refine OJ.go 2 [(35, .bool (r8 != 0)), (34, .int .i64 r8)] ?_
          refine OJ.nil ?_
          refine SJ.cond (t := (.tmp 35)) (b := (r8 != 0)) bne_iff_ne (fun hc22 => ?_) (fun hc22 => ?_)
          · refine SJ.sr 2 ?_
            refine OJ.go 2 [(6, .int .i64 r8), (36, .int .i64 r8)] ?_
            refine OJ.nil ?_
            exact SJ.ret rfl (Res.run (ys := [.int .i64 r8]) (.tmp (by kernel_rfl) .nil) rfl)
          · refine SJ.skip ?_
            refine SJ.seq ?_
            refine SJ.seq ?_
            refine SJ.draw (id := 6) (kd := [0, 0, 0, 0, 1, 0, 0, 0, 1, 0]) (bef := [0, 1, 3, 7, 15, 0, 32, 96, 224, 511]) (ord := [0, 1, 2, 3, 4, 5, 6, 7, 8, 9]) mixed ?_
            refine OJ.go 1 [(37, .pointer a0)] ?_
            refine OJ.nilck (d := 38) (y := .tmp 37) (fun p9 => ?_)
            refine OJ.go 2 [(40, .pointer (some (Addr.add (Addr.add p9 15) 2))), (39, .pointer (some (Addr.add p9 15)))] ?_
            refine OJ.ld (d := 41) (y := .tmp 40) (pend2 := fun x10 => [⟨4, 3, (Addr.add (Addr.add p9 15) 2), (cI .i64).val x10⟩]) Ty3 (fun _ => rfl) (fun x10 => ?_)
            refine OJ.go 1 [(42, .pointer a0)] ?_
            refine OJ.nilck (d := 43) (y := .tmp 42) (fun p11 => ?_)
            refine OJ.go 1 [(44, .pointer (some (Addr.add p11 2)))] ?_
            refine OJ.ld (d := 45) (y := .tmp 44) (pend2 := fun x12 => [⟨8, 3, (Addr.add p11 2), (cI .i64).val x12⟩, ⟨4, 3, (Addr.add (Addr.add p9 15) 2), (cI .i64).val x10⟩]) Ty3 (fun _ => rfl) (fun x12 => ?_)
            refine OJ.go 1 [(46, .bool (x10 == x12))] ?_
            refine OJ.nil ?_
            refine SJ.cond (t := (.tmp 46)) (b := (x10 == x12)) beq_iff_eq (fun hc21 => ?_) (fun hc21 => ?_)
            · refine SJ.sr 1 ?_
              refine OJ.go 1 [(6, .int .i64 32)] ?_
              refine OJ.nil ?_
              exact SJ.ret rfl (Res.run (ys := [.int .i64 32]) (.tmp (by kernel_rfl) .nil) rfl)
            · refine SJ.skip ?_
              refine SJ.seq ?_
              refine SJ.draw (id := 8) (kd := [0, 0, 0, 1, 0, 0, 0, 0, 1, 0, 0, 0, 2, 0, 2]) (bef := [0, 1, 3, 7, 0, 0, 32, 96, 224, 0, 0, 511, 2559, 8191, 16383]) (ord := [0, 1, 2, 3, 4, 5, 6, 7, 8, 9, 10, 11, 12, 13, 14]) mixed ?_
              refine OJ.go 1 [(47, .pointer a0)] ?_
              refine OJ.nilck (d := 48) (y := .tmp 47) (fun p13 => ?_)
              refine OJ.go 1 [(49, .pointer (some (Addr.add p13 4)))] ?_
              refine OJ.ld (d := 50) (y := .tmp 49) (pend2 := fun x14 => [⟨3, 67, (Addr.add p13 4), cL.val x14⟩]) Ty67 (fun _ => rfl) (fun x14 => ?_)
              refine OJ.go 2 [(52, .pointer a0), (51, .int .i64 a1)] ?_
              refine OJ.nilck (d := 53) (y := .tmp 52) (fun p15 => ?_)
              refine OJ.go 1 [(54, .pointer (some (Addr.add p15 5)))] ?_
              refine OJ.ld (d := 55) (y := .tmp 54) (pend2 := fun x16 => [⟨8, 67, (Addr.add p15 5), cL.val x16⟩, ⟨3, 67, (Addr.add p13 4), cL.val x14⟩]) Ty67 (fun _ => rfl) (fun x16 => ?_)
              refine OJ.go 2 [(57, .int .i64 a2), (56, .int .i64 a1)] ?_
              refine OJ.idxS (d := 58) (T := 67) (y := .tmp 50) (j := .tmp 51) (E := 3) (cap := x14.cap) (k := .i64) (fun p17 => ?_)
              refine OJ.st (y := .tmp 58) (z := .const (.int .i64 5)) (owed := []) Ty3 ?_
              refine OW.nil ?_
              refine OJ.idxS (d := 59) (T := 67) (y := .tmp 55) (j := .tmp 56) (E := 3) (cap := x16.cap) (k := .i64) (fun p18 => ?_)
              refine OJ.st (y := .tmp 59) (z := .tmp 57) (owed := []) Ty3 ?_
              refine OW.nil ?_
              refine OJ.nil ?_
              refine SJ.sr 5 ?_
              refine OJ.go 1 [(60, .pointer a0)] ?_
              refine OJ.nilck (d := 61) (y := .tmp 60) (fun p19 => ?_)
              refine OJ.go 2 [(63, .int .i64 a1), (62, .pointer (some (Addr.add p19 15)))] ?_
              refine OJ.call (d := 64) (g := 45) (ats := #[86, 3]) (args := [.tmp 62, .tmp 63]) (owed := []) F45 (ring_line_join_ok (some (Addr.add p19 15)) a1) (fun r20 => ?_)
              refine OW.nil ?_
              refine OJ.nil ?_
              refine SJ.sr 1 ?_
              refine OJ.go 1 [(6, .int .i64 0)] ?_
              refine OJ.nil ?_
              exact SJ.ret rfl (Res.run (ys := [.int .i64 0]) (.tmp (by kernel_rfl) .nil) rfl)

/-! ### weir/weirref3.Send: function 72 -/
noncomputable def weirref3_Send.B : Code := (Try.f72.body).getD .skip
noncomputable def weirref3_Send.cx : Fx := ⟨Try.prog, 72, Try.f72⟩
noncomputable def weirref3_Send.out (r_ : (weirref3_Port × Int)) : Value := .tuple #[c_weirref3_Port.val r_.1, .int .i64 r_.2]
noncomputable def weirref3_Send.F0 (r_ : (weirref3_Port × Int)) : Reach := .ret (weirref3_Send.out r_)
noncomputable def weirref3_Send (a0 : weirref3_Port) (a1 : Int) (a2 : Int) : M (weirref3_Port × Int) :=
  slot 59 >>= fun b1 =>
  slot 59 >>= fun b2 =>
  weirref3_out a1 0 (IntKind.wrap .i64 ((a0.L.len : Int) - 1)) >>= fun r3 =>
  (if r3 = true then
      pure true
    else
      weirref3_out a2 0 a0.Size >>= fun r4 =>
      pure r4) >>= fun y5 =>
  if y5 = true then
    pure (a0, 1)
  else
    idx a0.L.a a0.L.len a1 4 >>= fun p6 =>
    ld (cI .i64) p6 >>= fun x7 =>
    if x7 ≠ 4 then
      pure (a0, 34)
    else
      draw >>= fun _ =>
      weirref3_count a0 5 >>= fun r8 =>
      if r8 ≥ a0.Tx then
        pure (a0, 32)
      else
        idx a0.L.a a0.L.len a1 4 >>= fun p9 =>
        ld c_weirref3_Buf p9 >>= fun x10 =>
        slot 110 >>= fun b11 =>
        weirref3_put a0 a1 (⟨x10.Place, x10.Since, a2, x10.Data⟩ : weirref3_Buf) >>= fun r12 =>
        weirref3_moved r12 a1 5 >>= fun r13 =>
        pure (r13, 0)
theorem weirref3_Send_ok (a0 : weirref3_Port) (a1 : Int) (a2 : Int) : Ref Try.prog 72 [c_weirref3_Port.val a0, .int .i64 a1, .int .i64 a2] (weirref3_Send a0 a1 a2) weirref3_Send.out := by
  refine Ref.of (cd := weirref3_Send.B) Try.func72 ?_
  show SJ weirref3_Send.cx [.code weirref3_Send.B] [(0, c_weirref3_Port.val a0), (1, .int .i64 a1), (2, .int .i64 a2)] [] (weirref3_Send a0 a1 a2) weirref3_Send.F0
  unfold weirref3_Send
  refine SJ.sr 3 ?_
  refine OJ.slotOf (d := 3) (op := (.box 59 (.tmp 0))) (cd := c_weirref3_Port) (u := a0) (owed := []) (box_run (by kernel_rfl)) (fun b1 => ?_)
  refine OW.nil ?_
  refine OJ.slotOf (d := 6) (op := (.alloc 59)) (cd := c_weirref3_Port) (u := z_weirref3_Port) (owed := []) (alloc_run Ty59) (fun b2 => ?_)
  refine OW.nil ?_
  refine OJ.go 1 [(7, .int .i64 0)] ?_
  refine OJ.nil ?_
  refine SJ.seq ?_
  refine SJ.sr 12 ?_
  refine OJ.go 2 [(10, .pointer (some (pt b1 3))), (9, .int .i64 a1)] ?_
  refine OJ.kld (d := 11) (y := .tmp 10) (cd := cL) (j := 1) (b := b1) (o := 3) a0.L (pend2 := []) Ty57 rfl (At_weirref3_Port_L a0) rfl ?_
  refine OJ.go 2 [(13, .int .i64 (IntKind.wrap .i64 ((a0.L.len : Int) - 1))), (12, .int .i64 (a0.L.len : Int))] ?_
  refine OJ.call (d := 14) (g := 62) (ats := #[3, 3, 3]) (args := [.tmp 9, .const (.int .i64 0), .tmp 13]) (owed := []) F62 (weirref3_out_ok a1 0 (IntKind.wrap .i64 ((a0.L.len : Int) - 1))) (fun r3 => ?_)
  refine OW.nil ?_
  refine OJ.go 1 [(15, .bool r3)] ?_
  refine OJ.join (b := r3) [7, 8, 9, 10, 11] [] [1, 2, 3, 6, 20] (fun y5 => [(1, .int .i64 a1), (2, .int .i64 a2), (3, .pointer (some (pt b1 0))), (6, .pointer (some (pt b2 0))), (20, .bool y5)]) [] [] (t := 15) Iff.rfl (fun hp_ => ?_) (fun hp_ => ?_) (fun _ _ _ _ _ _ h_ => h_) (fun y5 => ?_)
  · refine OJ.go 5 [(20, .bool true), (19, undef), (18, undef), (17, undef), (16, undef)] ?_
    exact OJ.nil ⟨(Cov.mem Cov.nil), rfl, _, rfl, by kernel_rfl⟩
  · refine OJ.go 2 [(17, .pointer (some (pt b1 2))), (16, .int .i64 a2)] ?_
    refine OJ.kld (d := 18) (y := .tmp 17) (cd := (cI .i64)) (j := 1) (b := b1) (o := 2) a0.Size (pend2 := []) Ty3 rfl (At_weirref3_Port_Size a0) rfl ?_
    refine OJ.call (d := 19) (g := 62) (ats := #[3, 3, 3]) (args := [.tmp 16, .const (.int .i64 0), .tmp 18]) (owed := []) F62 (weirref3_out_ok a2 0 a0.Size) (fun r4 => ?_)
    refine OW.nil ?_
    refine OJ.go 1 [(20, .bool r4)] ?_
    exact OJ.nil ⟨(Cov.mem Cov.nil), rfl, _, rfl, by kernel_rfl⟩
  · refine OJ.nil ?_
    refine SJ.cond (t := (.tmp 20)) (b := y5) Iff.rfl (fun hc16 => ?_) (fun hc16 => ?_)
    · refine SJ.sr 3 ?_
      refine OJ.kld (d := 21) (y := .tmp 3) (cd := c_weirref3_Port) (j := 1) (b := b1) (o := 0) a0 (pend2 := []) Ty59 rfl (At.whole _) rfl ?_
      refine OJ.kst (y := .tmp 6) (z := .tmp 21) (cd := c_weirref3_Port) (u := a0) (j := 0) (b := b2) (o := 0) (c_weirref3_Port.enc a0) (owed := []) Ty59 rfl (Upd.whole ((Cod.len _ _).trans (Cod.len _ _).symm)) rfl ?_
      refine OW.nil ?_
      refine OJ.go 1 [(7, .int .i64 1)] ?_
      refine OJ.nil ?_
      exact SJ.ret rfl (Res.run (ys := [c_weirref3_Port.val a0, .int .i64 1]) (.cell (j := 0) (b := b2) (cd := c_weirref3_Port) (q := a0) (by kernel_rfl) rfl Ty59 (At.whole _) (.tmp (by kernel_rfl) .nil)) rfl)
    · refine SJ.skip ?_
      refine SJ.seq ?_
      refine SJ.sr 7 ?_
      refine OJ.go 1 [(22, .pointer (some (pt b1 3)))] ?_
      refine OJ.kld (d := 23) (y := .tmp 22) (cd := cL) (j := 1) (b := b1) (o := 3) a0.L (pend2 := []) Ty57 rfl (At_weirref3_Port_L a0) rfl ?_
      refine OJ.go 1 [(24, .int .i64 a1)] ?_
      refine OJ.idxS (d := 25) (T := 57) (y := .tmp 23) (j := .tmp 24) (E := 110) (cap := a0.L.cap) (k := .i64) (fun p6 => ?_)
      refine OJ.go 1 [(26, .pointer (some p6))] ?_
      refine OJ.ld (d := 27) (y := .tmp 26) (pend2 := fun x7 => []) Ty3 (fun _ => rfl) (fun x7 => ?_)
      refine OJ.go 1 [(28, .bool (x7 != 4))] ?_
      refine OJ.nil ?_
      refine SJ.cond (t := (.tmp 28)) (b := (x7 != 4)) bne_iff_ne (fun hc15 => ?_) (fun hc15 => ?_)
      · refine SJ.sr 3 ?_
        refine OJ.kld (d := 29) (y := .tmp 3) (cd := c_weirref3_Port) (j := 1) (b := b1) (o := 0) a0 (pend2 := []) Ty59 rfl (At.whole _) rfl ?_
        refine OJ.kst (y := .tmp 6) (z := .tmp 29) (cd := c_weirref3_Port) (u := a0) (j := 0) (b := b2) (o := 0) (c_weirref3_Port.enc a0) (owed := []) Ty59 rfl (Upd.whole ((Cod.len _ _).trans (Cod.len _ _).symm)) rfl ?_
        refine OW.nil ?_
        refine OJ.go 1 [(7, .int .i64 34)] ?_
        refine OJ.nil ?_
        exact SJ.ret rfl (Res.run (ys := [c_weirref3_Port.val a0, .int .i64 34]) (.cell (j := 0) (b := b2) (cd := c_weirref3_Port) (q := a0) (by kernel_rfl) rfl Ty59 (At.whole _) (.tmp (by kernel_rfl) .nil)) rfl)
      · refine SJ.skip ?_
        refine SJ.seq ?_
        refine SJ.seq ?_
        refine SJ.draw (id := 5) (kd := [1, 2, 0, 1, 0]) (bef := [0, 1, 0, 4, 15]) (ord := [0, 2, 3, 1, 4]) mixed ?_
        refine OJ.kld (d := 30) (y := .tmp 3) (cd := c_weirref3_Port) (j := 1) (b := b1) (o := 0) a0 (pend2 := [⟨0, 59, (pt b1 0), c_weirref3_Port.val a0⟩]) Ty59 rfl (At.whole _) rfl ?_
        refine OJ.go 1 [(32, .pointer (some (pt b1 1)))] ?_
        refine OJ.kld (d := 33) (y := .tmp 32) (cd := (cI .i64)) (j := 1) (b := b1) (o := 1) a0.Tx (pend2 := [⟨3, 3, (pt b1 1), (cI .i64).val a0.Tx⟩, ⟨0, 59, (pt b1 0), c_weirref3_Port.val a0⟩]) Ty3 rfl (At_weirref3_Port_Tx a0) rfl ?_
        refine OJ.call (d := 31) (g := 63) (ats := #[59, 3]) (args := [.tmp 30, .const (.int .i64 5)]) (owed := [⟨3, 3, (pt b1 1), (cI .i64).val a0.Tx⟩]) F63 (weirref3_count_ok a0 5) (fun r8 => ?_)
        refine OW.known (j := 1) (q := a0.Tx) Ty3 rfl (At_weirref3_Port_Tx a0) ?_
        refine OW.nil ?_
        refine OJ.go 1 [(34, .bool (decide (r8 ≥ a0.Tx)))] ?_
        refine OJ.nil ?_
        refine SJ.cond (t := (.tmp 34)) (b := decide (r8 ≥ a0.Tx)) decide_eq_true_iff (fun hc14 => ?_) (fun hc14 => ?_)
        · refine SJ.sr 3 ?_
          refine OJ.kld (d := 35) (y := .tmp 3) (cd := c_weirref3_Port) (j := 1) (b := b1) (o := 0) a0 (pend2 := []) Ty59 rfl (At.whole _) rfl ?_
          refine OJ.kst (y := .tmp 6) (z := .tmp 35) (cd := c_weirref3_Port) (u := a0) (j := 0) (b := b2) (o := 0) (c_weirref3_Port.enc a0) (owed := []) Ty59 rfl (Upd.whole ((Cod.len _ _).trans (Cod.len _ _).symm)) rfl ?_
          refine OW.nil ?_
          refine OJ.go 1 [(7, .int .i64 32)] ?_
          refine OJ.nil ?_
          exact SJ.ret rfl (Res.run (ys := [c_weirref3_Port.val a0, .int .i64 32]) (.cell (j := 0) (b := b2) (cd := c_weirref3_Port) (q := a0) (by kernel_rfl) rfl Ty59 (At.whole _) (.tmp (by kernel_rfl) .nil)) rfl)
        · refine SJ.skip ?_
          refine SJ.sr 7 ?_
          refine OJ.go 1 [(36, .pointer (some (pt b1 3)))] ?_
          refine OJ.kld (d := 37) (y := .tmp 36) (cd := cL) (j := 1) (b := b1) (o := 3) a0.L (pend2 := []) Ty57 rfl (At_weirref3_Port_L a0) rfl ?_
          refine OJ.go 1 [(38, .int .i64 a1)] ?_
          refine OJ.idxS (d := 39) (T := 57) (y := .tmp 37) (j := .tmp 38) (E := 110) (cap := a0.L.cap) (k := .i64) (fun p9 => ?_)
          refine OJ.ld (d := 40) (y := .tmp 39) (pend2 := fun x10 => []) Ty110 (fun _ => rfl) (fun x10 => ?_)
          refine OJ.slotOf (d := 8) (op := (.alloc 110)) (cd := c_weirref3_Buf) (u := z_weirref3_Buf) (owed := []) (alloc_run Ty110) (fun b11 => ?_)
          refine OW.nil ?_
          refine OJ.kst (y := .tmp 8) (z := .tmp 40) (cd := c_weirref3_Buf) (u := x10) (j := 0) (b := b11) (o := 0) (c_weirref3_Buf.enc x10) (owed := []) Ty110 rfl (Upd.whole ((Cod.len _ _).trans (Cod.len _ _).symm)) rfl ?_
          refine OW.nil ?_
          refine OJ.nil ?_
          refine SJ.sr 3 ?_
          refine OJ.go 2 [(42, .pointer (some (pt b11 2))), (41, .int .i64 a2)] ?_
          refine OJ.kst (y := .tmp 42) (z := .tmp 41) (cd := (cI .i64)) (u := a2) (j := 0) (b := b11) (o := 2) (c_weirref3_Buf.enc (⟨x10.Place, x10.Since, a2, x10.Data⟩ : weirref3_Buf)) (owed := []) Ty3 rfl (Up_weirref3_Buf_N x10 a2) rfl ?_
          refine OW.nil ?_
          refine OJ.nil ?_
          refine SJ.sr 5 ?_
          refine OJ.kld (d := 43) (y := .tmp 3) (cd := c_weirref3_Port) (j := 2) (b := b1) (o := 0) a0 (pend2 := []) Ty59 rfl (At.whole _) rfl ?_
          refine OJ.go 1 [(44, .int .i64 a1)] ?_
          refine OJ.kld (d := 45) (y := .tmp 8) (cd := c_weirref3_Buf) (j := 0) (b := b11) (o := 0) (⟨x10.Place, x10.Since, a2, x10.Data⟩ : weirref3_Buf) (pend2 := []) Ty110 rfl (At.whole _) rfl ?_
          refine OJ.call (d := 46) (g := 79) (ats := #[59, 3, 110]) (args := [.tmp 43, .tmp 44, .tmp 45]) (owed := []) F79 (weirref3_put_ok a0 a1 (⟨x10.Place, x10.Since, a2, x10.Data⟩ : weirref3_Buf)) (fun r12 => ?_)
          refine OW.nil ?_
          refine OJ.kst (y := .tmp 3) (z := .tmp 46) (cd := c_weirref3_Port) (u := r12) (j := 2) (b := b1) (o := 0) (c_weirref3_Port.enc r12) (owed := []) Ty59 rfl (Upd.whole ((Cod.len _ _).trans (Cod.len _ _).symm)) rfl ?_
          refine OW.nil ?_
          refine OJ.nil ?_
          refine SJ.sr 5 ?_
          refine OJ.kld (d := 47) (y := .tmp 3) (cd := c_weirref3_Port) (j := 2) (b := b1) (o := 0) r12 (pend2 := []) Ty59 rfl (At.whole _) rfl ?_
          refine OJ.go 1 [(48, .int .i64 a1)] ?_
          refine OJ.call (d := 49) (g := 80) (ats := #[59, 3, 3]) (args := [.tmp 47, .tmp 48, .const (.int .i64 5)]) (owed := []) F80 (weirref3_moved_ok r12 a1 5) (fun r13 => ?_)
          refine OW.nil ?_
          refine OJ.kst (y := .tmp 6) (z := .tmp 49) (cd := c_weirref3_Port) (u := r13) (j := 1) (b := b2) (o := 0) (c_weirref3_Port.enc r13) (owed := []) Ty59 rfl (Upd.whole ((Cod.len _ _).trans (Cod.len _ _).symm)) rfl ?_
          refine OW.nil ?_
          refine OJ.go 1 [(7, .int .i64 0)] ?_
          refine OJ.nil ?_
          exact SJ.ret rfl (Res.run (ys := [c_weirref3_Port.val r13, .int .i64 0]) (.cell (j := 1) (b := b2) (cd := c_weirref3_Port) (q := r13) (by kernel_rfl) rfl Ty59 (At.whole _) (.tmp (by kernel_rfl) .nil)) rfl)

/-! ### (*weir/ring.Port).Drain: function 22 -/
noncomputable def ring_Port_Drain.B : Code := (Try.f22.body).getD .skip
noncomputable def ring_Port_Drain.cx : Fx := ⟨Try.prog, 22, Try.f22⟩
noncomputable def ring_Port_Drain.out (r_ : (Sl × Bool)) : Value := .tuple #[Sl.v r_.1, .bool r_.2]
noncomputable def ring_Port_Drain.F0 (r_ : (Sl × Bool)) : Reach := .ret (ring_Port_Drain.out r_)
noncomputable def ring_Port_Drain (a0 : (Option Addr)) : M (Sl × Bool) :=
  nilck a0 >>= fun p1 =>
  ld (cI .i64) (Addr.add (Addr.add p1 15) 2) >>= fun x2 =>
  if x2 = 0 then
    pure (Sl.nil, false)
  else
    nilck a0 >>= fun p3 =>
    ring_line_leave (some (Addr.add p3 15)) >>= fun r4 =>
    nilck a0 >>= fun p5 =>
    ld cL (Addr.add p5 5) >>= fun x6 =>
    idx x6.a x6.len r4 1 >>= fun p7 =>
    ld (cI .i64) p7 >>= fun x8 =>
    mkS (cI .u8) 5 1 0 x8 x8 >>= fun r9 =>
    ring_Port_bytes a0 r4 >>= fun r10 =>
    cpyS (cI .u8) r9 r10 >>= fun r11 =>
    nilck a0 >>= fun p12 =>
    ld cL (Addr.add p12 4) >>= fun x13 =>
    idx x13.a x13.len r4 1 >>= fun p14 =>
    st (cI .i64) p14 1 >>= fun _ =>
    nilck a0 >>= fun p15 =>
    ring_line_join (some (Addr.add p15 6)) r4 >>= fun r16 =>
    pure (r9, true)
theorem ring_Port_Drain_ok (a0 : (Option Addr)) : Ref Try.prog 22 [.pointer a0] (ring_Port_Drain a0) ring_Port_Drain.out := by
  refine Ref.of (cd := ring_Port_Drain.B) Try.func22 ?_
  show SJ ring_Port_Drain.cx [.code ring_Port_Drain.B] [(0, .pointer a0)] [] (ring_Port_Drain a0) ring_Port_Drain.F0
  unfold ring_Port_Drain
  refine SJ.sr 2 ?_
  refine OJ.go 2 [(3, .bool false), (2, Sl.v Sl.nil)] ?_
  refine OJ.nil ?_
  refine SJ.seq ?_
  refine SJ.sr 6 ?_
  refine OJ.go 1 [(6, .pointer a0)] ?_
  refine OJ.nilck (d := 7) (y := .tmp 6) (fun p1 => ?_)
  refine OJ.go 2 [(9, .pointer (some (Addr.add (Addr.add p1 15) 2))), (8, .pointer (some (Addr.add p1 15)))] ?_
  refine OJ.ld (d := 10) (y := .tmp 9) (pend2 := fun x2 => []) Ty3 (fun _ => rfl) (fun x2 => ?_)
  refine OJ.go 1 [(11, .bool (x2 == 0))] ?_
  refine OJ.nil ?_
  refine SJ.cond (t := (.tmp 11)) (b := (x2 == 0)) beq_iff_eq (fun hc17 => ?_) (fun hc17 => ?_)
  · refine SJ.sr 2 ?_
    refine OJ.go 2 [(3, .bool false), (2, Sl.v Sl.nil)] ?_
    refine OJ.nil ?_
    exact SJ.ret rfl (Res.run (ys := [Sl.v Sl.nil, .bool false]) (.tmp (by kernel_rfl) (.tmp (by kernel_rfl) .nil)) rfl)
  · refine SJ.skip ?_
    refine SJ.sr 5 ?_
    refine OJ.go 1 [(12, .pointer a0)] ?_
    refine OJ.nilck (d := 13) (y := .tmp 12) (fun p3 => ?_)
    refine OJ.go 1 [(14, .pointer (some (Addr.add p3 15)))] ?_
    refine OJ.call (d := 15) (g := 46) (ats := #[86]) (args := [.tmp 14]) (owed := []) F46 (ring_line_leave_ok (some (Addr.add p3 15))) (fun r4 => ?_)
    refine OW.nil ?_
    refine OJ.go 1 [(4, .int .i64 r4)] ?_
    refine OJ.nil ?_
    refine SJ.sr 9 ?_
    refine OJ.go 1 [(16, .pointer a0)] ?_
    refine OJ.nilck (d := 17) (y := .tmp 16) (fun p5 => ?_)
    refine OJ.go 1 [(18, .pointer (some (Addr.add p5 5)))] ?_
    refine OJ.ld (d := 19) (y := .tmp 18) (pend2 := fun x6 => []) Ty67 (fun _ => rfl) (fun x6 => ?_)
    refine OJ.go 1 [(20, .int .i64 r4)] ?_
    refine OJ.idxS (d := 21) (T := 67) (y := .tmp 19) (j := .tmp 20) (E := 3) (cap := x6.cap) (k := .i64) (fun p7 => ?_)
    refine OJ.ld (d := 22) (y := .tmp 21) (pend2 := fun x8 => []) Ty3 (fun _ => rfl) (fun x8 => ?_)
    refine OJ.mk (d := 23) (t := 22) (lo := .tmp 22) (ko := .tmp 22) (k1 := .i64) (k2 := .i64) (owed := []) Ty5 (fun r9 => ?_)
    refine OW.nil ?_
    refine OJ.go 1 [(5, Sl.v r9)] ?_
    refine OJ.nil ?_
    refine SJ.sr 5 ?_
    refine OJ.go 3 [(26, .int .i64 r4), (25, .pointer a0), (24, Sl.v r9)] ?_
    refine OJ.call (d := 27) (g := 47) (ats := #[23, 3]) (args := [.tmp 25, .tmp 26]) (owed := []) F47 (ring_Port_bytes_ok a0 r4) (fun r10 => ?_)
    refine OW.nil ?_
    refine OJ.cpy1 (n := 28) (t := 22) (u := 22) (so := .tmp 24) (xo := .tmp 27) (owed := []) Ty5 (fun r11 => ?_)
    refine OW.nil ?_
    refine OJ.nil ?_
    refine SJ.sr 7 ?_
    refine OJ.go 1 [(29, .pointer a0)] ?_
    refine OJ.nilck (d := 30) (y := .tmp 29) (fun p12 => ?_)
    refine OJ.go 1 [(31, .pointer (some (Addr.add p12 4)))] ?_
    refine OJ.ld (d := 32) (y := .tmp 31) (pend2 := fun x13 => []) Ty67 (fun _ => rfl) (fun x13 => ?_)
    refine OJ.go 1 [(33, .int .i64 r4)] ?_
    refine OJ.idxS (d := 34) (T := 67) (y := .tmp 32) (j := .tmp 33) (E := 3) (cap := x13.cap) (k := .i64) (fun p14 => ?_)
    refine OJ.st (y := .tmp 34) (z := .const (.int .i64 1)) (owed := []) Ty3 ?_
    refine OW.nil ?_
    refine OJ.nil ?_
    refine SJ.sr 5 ?_
    refine OJ.go 1 [(35, .pointer a0)] ?_
    refine OJ.nilck (d := 36) (y := .tmp 35) (fun p15 => ?_)
    refine OJ.go 2 [(38, .int .i64 r4), (37, .pointer (some (Addr.add p15 6)))] ?_
    refine OJ.call (d := 39) (g := 45) (ats := #[86, 3]) (args := [.tmp 37, .tmp 38]) (owed := []) F45 (ring_line_join_ok (some (Addr.add p15 6)) r4) (fun r16 => ?_)
    refine OW.nil ?_
    refine OJ.nil ?_
    refine SJ.sr 3 ?_
    refine OJ.go 3 [(3, .bool true), (2, Sl.v r9), (40, Sl.v r9)] ?_
    refine OJ.nil ?_
    exact SJ.ret rfl (Res.run (ys := [Sl.v r9, .bool true]) (.tmp (by kernel_rfl) (.tmp (by kernel_rfl) .nil)) rfl)

/-! ### weir/weirref3.Drain: function 73 -/
noncomputable def weirref3_Drain.B : Code := (Try.f73.body).getD .skip
noncomputable def weirref3_Drain.cx : Fx := ⟨Try.prog, 73, Try.f73⟩
noncomputable def weirref3_Drain.out (r_ : (weirref3_Port × Sl × Bool)) : Value := .tuple #[c_weirref3_Port.val r_.1, Sl.v r_.2.1, .bool r_.2.2]
noncomputable def weirref3_Drain.F0 (r_ : (weirref3_Port × Sl × Bool)) : Reach := .ret (weirref3_Drain.out r_)
noncomputable def weirref3_Drain (a0 : weirref3_Port) : M (weirref3_Port × Sl × Bool) :=
  slot 59 >>= fun b1 =>
  slot 59 >>= fun b2 =>
  weirref3_first a0 5 >>= fun r3 =>
  if r3 < 0 then
    pure (a0, Sl.nil, false)
  else
    draw >>= fun _ =>
    idx a0.L.a a0.L.len r3 4 >>= fun p4 =>
    ld (cI .i64) (Addr.add p4 2) >>= fun x5 =>
    weirref3_Bytes a0 r3 x5 >>= fun r6 =>
    weirref3_moved a0 r3 1 >>= fun r7 =>
    pure (r7, r6, true)
theorem weirref3_Drain_ok (a0 : weirref3_Port) : Ref Try.prog 73 [c_weirref3_Port.val a0] (weirref3_Drain a0) weirref3_Drain.out := by
  refine Ref.of (cd := weirref3_Drain.B) Try.func73 ?_
  show SJ weirref3_Drain.cx [.code weirref3_Drain.B] [(0, c_weirref3_Port.val a0)] [] (weirref3_Drain a0) weirref3_Drain.F0
  unfold weirref3_Drain
  refine SJ.sr 4 ?_
  refine OJ.slotOf (d := 1) (op := (.box 59 (.tmp 0))) (cd := c_weirref3_Port) (u := a0) (owed := []) (box_run (by kernel_rfl)) (fun b1 => ?_)
  refine OW.nil ?_
  refine OJ.slotOf (d := 2) (op := (.alloc 59)) (cd := c_weirref3_Port) (u := z_weirref3_Port) (owed := []) (alloc_run Ty59) (fun b2 => ?_)
  refine OW.nil ?_
  refine OJ.go 2 [(4, .bool false), (3, Sl.v Sl.nil)] ?_
  refine OJ.nil ?_
  refine SJ.sr 3 ?_
  refine OJ.kld (d := 7) (y := .tmp 1) (cd := c_weirref3_Port) (j := 1) (b := b1) (o := 0) a0 (pend2 := []) Ty59 rfl (At.whole _) rfl ?_
  refine OJ.call (d := 8) (g := 77) (ats := #[59, 3]) (args := [.tmp 7, .const (.int .i64 5)]) (owed := []) F77 (weirref3_first_ok a0 5) (fun r3 => ?_)
  refine OW.nil ?_
  refine OJ.go 1 [(5, .int .i64 r3)] ?_
  refine OJ.nil ?_
  refine SJ.seq ?_
  refine SJ.sr 2 ?_
  refine OJ.go 2 [(10, .bool (decide (r3 < 0))), (9, .int .i64 r3)] ?_
  refine OJ.nil ?_
  refine SJ.cond (t := (.tmp 10)) (b := decide (r3 < 0)) decide_eq_true_iff (fun hc8 => ?_) (fun hc8 => ?_)
  · refine SJ.sr 4 ?_
    refine OJ.kld (d := 11) (y := .tmp 1) (cd := c_weirref3_Port) (j := 1) (b := b1) (o := 0) a0 (pend2 := []) Ty59 rfl (At.whole _) rfl ?_
    refine OJ.kst (y := .tmp 2) (z := .tmp 11) (cd := c_weirref3_Port) (u := a0) (j := 0) (b := b2) (o := 0) (c_weirref3_Port.enc a0) (owed := []) Ty59 rfl (Upd.whole ((Cod.len _ _).trans (Cod.len _ _).symm)) rfl ?_
    refine OW.nil ?_
    refine OJ.go 2 [(4, .bool false), (3, Sl.v Sl.nil)] ?_
    refine OJ.nil ?_
    exact SJ.ret rfl (Res.run (ys := [c_weirref3_Port.val a0, Sl.v Sl.nil, .bool false]) (.cell (j := 0) (b := b2) (cd := c_weirref3_Port) (q := a0) (by kernel_rfl) rfl Ty59 (At.whole _) (.tmp (by kernel_rfl) (.tmp (by kernel_rfl) .nil))) rfl)
  · refine SJ.skip ?_
    refine SJ.seq ?_
    refine SJ.draw (id := 4) (kd := [1, 0, 0, 1, 0, 0, 0, 1, 2, 0]) (bef := [0, 0, 0, 4, 0, 28, 60, 124, 255, 511]) (ord := [0, 1, 2, 3, 4, 5, 6, 7, 8, 9]) mixed ?_
    refine OJ.kld (d := 12) (y := .tmp 1) (cd := c_weirref3_Port) (j := 1) (b := b1) (o := 0) a0 (pend2 := [⟨0, 59, (pt b1 0), c_weirref3_Port.val a0⟩]) Ty59 rfl (At.whole _) rfl ?_
    refine OJ.go 2 [(14, .pointer (some (pt b1 3))), (13, .int .i64 r3)] ?_
    refine OJ.kld (d := 15) (y := .tmp 14) (cd := cL) (j := 1) (b := b1) (o := 3) a0.L (pend2 := [⟨3, 57, (pt b1 3), cL.val a0.L⟩, ⟨0, 59, (pt b1 0), c_weirref3_Port.val a0⟩]) Ty57 rfl (At_weirref3_Port_L a0) rfl ?_
    refine OJ.go 1 [(16, .int .i64 r3)] ?_
    refine OJ.idxS (d := 17) (T := 57) (y := .tmp 15) (j := .tmp 16) (E := 110) (cap := a0.L.cap) (k := .i64) (fun p4 => ?_)
    refine OJ.go 1 [(18, .pointer (some (Addr.add p4 2)))] ?_
    refine OJ.ld (d := 19) (y := .tmp 18) (pend2 := fun x5 => [⟨7, 3, (Addr.add p4 2), (cI .i64).val x5⟩, ⟨3, 57, (pt b1 3), cL.val a0.L⟩, ⟨0, 59, (pt b1 0), c_weirref3_Port.val a0⟩]) Ty3 (fun _ => rfl) (fun x5 => ?_)
    refine OJ.call (d := 20) (g := 76) (ats := #[59, 3, 3]) (args := [.tmp 12, .tmp 13, .tmp 19]) (owed := []) F76 (weirref3_Bytes_ok a0 r3 x5) (fun r6 => ?_)
    refine OW.nil ?_
    refine OJ.go 1 [(6, Sl.v r6)] ?_
    refine OJ.nil ?_
    refine SJ.sr 7 ?_
    refine OJ.kld (d := 21) (y := .tmp 1) (cd := c_weirref3_Port) (j := 1) (b := b1) (o := 0) a0 (pend2 := []) Ty59 rfl (At.whole _) rfl ?_
    refine OJ.go 1 [(22, .int .i64 r3)] ?_
    refine OJ.call (d := 23) (g := 80) (ats := #[59, 3, 3]) (args := [.tmp 21, .tmp 22, .const (.int .i64 1)]) (owed := []) F80 (weirref3_moved_ok a0 r3 1) (fun r7 => ?_)
    refine OW.nil ?_
    refine OJ.go 1 [(24, Sl.v r6)] ?_
    refine OJ.kst (y := .tmp 2) (z := .tmp 23) (cd := c_weirref3_Port) (u := r7) (j := 0) (b := b2) (o := 0) (c_weirref3_Port.enc r7) (owed := []) Ty59 rfl (Upd.whole ((Cod.len _ _).trans (Cod.len _ _).symm)) rfl ?_
    refine OW.nil ?_
    refine OJ.go 2 [(4, .bool true), (3, Sl.v r6)] ?_
    refine OJ.nil ?_
    exact SJ.ret rfl (Res.run (ys := [c_weirref3_Port.val r7, Sl.v r6, .bool true]) (.cell (j := 0) (b := b2) (cd := c_weirref3_Port) (q := r7) (by kernel_rfl) rfl Ty59 (At.whole _) (.tmp (by kernel_rfl) (.tmp (by kernel_rfl) .nil))) rfl)
end Go.Proofs.Ytoddkagehbcfjaa.Lx
