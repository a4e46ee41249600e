/- Programs of the M-world for Go functions, each with the proof that the Go text does what it says. Printed by lxgen.py. -/
import Derived.Test.YtoddkagehbcfjaaLxT
set_option linter.unusedVariables false
set_option linter.unusedSimpArgs false
namespace Go.Proofs.Ytoddkagehbcfjaa.Lx
open Go Go.Proofs
/-! ### weir/ring.newLine: function 44 -/
noncomputable def ring_newLine.B : Code := (Try.f44.body).getD .skip
noncomputable def ring_newLine.cx : Fx := ⟨Try.prog, 44, Try.f44⟩
noncomputable def ring_newLine.out (r_ : ring_line) : Value := c_ring_line.val r_
noncomputable def ring_newLine.F0 (r_ : ring_line) : Reach := .ret (ring_newLine.out r_)
noncomputable def ring_newLine (a0 : Int) : M ring_line :=
  slot 86 >>= fun b1 =>
  mkS (cI .i64) 3 8 0 a0 a0 >>= fun r2 =>
  pure (⟨r2, z_ring_line.first, z_ring_line.n⟩ : ring_line)
theorem ring_newLine_ok (a0 : Int) : Ref Try.prog 44 [.int .i64 a0] (ring_newLine a0) ring_newLine.out := by
  refine Ref.of (cd := ring_newLine.B) Try.func44 (by kernel_rfl) (by kernel_rfl) ?_
  show SJ ring_newLine.cx [.code ring_newLine.B] [(0, .int .i64 a0)] [] (ring_newLine a0) ring_newLine.F0
  unfold ring_newLine
  refine SJ.seq (by kernel_rfl) ?_
  refine SJ.region (id := 0) (by kernel_rfl) [0] (by kernel_rfl) ?_
  refine OJ.slotOf (d := 2) (op := (.alloc 86)) (cd := c_ring_line) (u := z_ring_line) (owed := []) (by kernel_rfl) (alloc_run Ty86) (by kernel_rfl) (by kernel_rfl) (by kernel_rfl) (fun b1 => ?_)
  refine OW.nil ?_
  refine OJ.nil ?_
  refine SJ.seq (by kernel_rfl) ?_
  refine SJ.region (id := 1) (by kernel_rfl) [0, 1, 2, 3] (by kernel_rfl) ?_
  refine OJ.run [0] [1, 2, 3] [2, 3] (m2 := [(2, .pointer (some (pt b1 0))), (3, .int .i64 a0)]) (by kernel_rfl) (by kernel_rfl) ?_
  refine OJ.mk (d := 4) (t := 67) (lo := .tmp 3) (ko := .tmp 3) (k1 := .i64) (k2 := .i64) (owed := []) (by kernel_rfl) (by kernel_rfl) Ty3 (by kernel_rfl) (by kernel_rfl) (by kernel_rfl) (by kernel_rfl) (by kernel_rfl) (by kernel_rfl) (fun r2 => ?_)
  refine OW.nil ?_
  refine OJ.build (d := 5) (T := 86) (parts := [(0, .tmp 4)]) (ps := [(0, cL.val r2)]) (cd := c_ring_line) (z0 := z_ring_line) (⟨r2, z_ring_line.first, z_ring_line.n⟩ : ring_line) (by kernel_rfl) (by kernel_rfl) Ty86 rfl (by kernel_rfl) (Filled.cons (cd := cL) (q := r2) (o := 0) (by kernel_rfl) (Up_ring_line_at_ z_ring_line r2) Filled.nil) (by kernel_rfl) (by kernel_rfl) (by kernel_rfl) ?_
  refine OJ.kst (T := 86) (y := .tmp 2) (z := .tmp 5) (cd := c_ring_line) (u := (⟨r2, z_ring_line.first, z_ring_line.n⟩ : ring_line)) (j := 0) (b := b1) (o := 0) (c_ring_line.enc (⟨r2, z_ring_line.first, z_ring_line.n⟩ : ring_line)) (h2 := [(b1, c_ring_line.enc (⟨r2, z_ring_line.first, z_ring_line.n⟩ : ring_line))]) (owed := []) (by kernel_rfl) (by kernel_rfl) (by kernel_rfl) Ty86 rfl (Upd.whole ((Cod.len _ _).trans (Cod.len _ _).symm)) (by kernel_rfl) (by kernel_rfl) rfl ?_
  refine OW.nil ?_
  refine OJ.nil ?_
  exact SJ.ret (by kernel_rfl) rfl (Res.run (ys := [c_ring_line.val (⟨r2, z_ring_line.first, z_ring_line.n⟩ : ring_line)]) (.cell (j := 0) (b := b1) (cd := c_ring_line) (q := (⟨r2, z_ring_line.first, z_ring_line.n⟩ : ring_line)) (by kernel_rfl) rfl Ty86 (At.whole _) .nil) rfl)

/-! ### (*weir/ring.line).join: function 45 -/
noncomputable def ring_line_join.B : Code := (Try.f45.body).getD .skip
noncomputable def ring_line_join.cx : Fx := ⟨Try.prog, 45, Try.f45⟩
noncomputable def ring_line_join.out (r_ : Unit) : Value := .tuple #[]
noncomputable def ring_line_join.F0 (r_ : Unit) : Reach := .ret (ring_line_join.out r_)
noncomputable def ring_line_join (a0 : (Option Addr)) (a1 : Int) : M Unit :=
  draw >>= fun _ =>
  nilck a0 >>= fun p1 =>
  ld cL p1 >>= fun x2 =>
  nilck a0 >>= fun p3 =>
  ld (cI .i64) (Addr.add p3 1) >>= fun x4 =>
  nilck a0 >>= fun p5 =>
  ld (cI .i64) (Addr.add p5 2) >>= fun x6 =>
  nilck a0 >>= fun p7 =>
  ld cL p7 >>= fun x8 =>
  chk ((x8.len : Int) ≠ 0) >>= fun _ =>
  idx x2.a x2.len (Int.tmod (IntKind.wrap .i64 (x4 + x6)) (x8.len : Int)) 1 >>= fun p9 =>
  st (cI .i64) p9 a1 >>= fun _ =>
  nilck a0 >>= fun p10 =>
  ld (cI .i64) (Addr.add p10 2) >>= fun x11 =>
  nilck a0 >>= fun p12 =>
  st (cI .i64) (Addr.add p12 2) (IntKind.wrap .i64 (x11 + 1)) >>= fun _ =>
  pure ()
theorem ring_line_join_ok (a0 : (Option Addr)) (a1 : Int) : Ref Try.prog 45 [.pointer a0, .int .i64 a1] (ring_line_join a0 a1) ring_line_join.out := by
  refine Ref.of (cd := ring_line_join.B) Try.func45 (by kernel_rfl) (by kernel_rfl) ?_
  show SJ ring_line_join.cx [.code ring_line_join.B] [(0, .pointer a0), (1, .int .i64 a1)] [] (ring_line_join a0 a1) ring_line_join.F0
  unfold ring_line_join
  refine SJ.seq (by kernel_rfl) ?_
  refine SJ.draw (id := 0) (kd := [0, 0, 0, 1, 0, 0, 0, 1, 0, 0, 0, 1, 0, 0, 0, 0, 1, 0, 0, 0, 0, 2]) (bef := [0, 1, 3, 7, 0, 16, 48, 112, 0, 256, 768, 1792, 4080, 0, 8192, 24576, 57344, 122880, 262128, 0, 1048575, 2097151]) (ord := [0, 1, 2, 3, 4, 5, 6, 7, 8, 9, 10, 11, 12, 13, 14, 15, 16, 17, 18, 19, 20, 21]) (by kernel_rfl) mixed (by kernel_rfl) ?_
  refine OJ.run [0] [1, 2, 3, 4, 5, 6, 7, 8, 9, 10, 11, 12, 13, 14, 15, 16, 17, 18, 19, 20, 21] [0, 1, 4] (m2 := [(0, .pointer a0), (1, .int .i64 a1), (4, .pointer a0)]) (by kernel_rfl) (by kernel_rfl) ?_
  refine OJ.nilck (d := 5) (y := .tmp 4) (by kernel_rfl) (by kernel_rfl) (by kernel_rfl) (by kernel_rfl) (by kernel_rfl) (fun p1 => ?_)
  refine OJ.run [2] [3, 4, 5, 6, 7, 8, 9, 10, 11, 12, 13, 14, 15, 16, 17, 18, 19, 20, 21] [0, 1, 6] (m2 := [(0, .pointer a0), (1, .int .i64 a1), (6, .pointer (some p1))]) (by kernel_rfl) (by kernel_rfl) ?_
  refine OJ.ld (d := 7) (T := 67) (y := .tmp 6) (pend2 := fun x2 => [⟨3, 67, p1, cL.val x2⟩]) (by kernel_rfl) (by kernel_rfl) Ty67 (by kernel_rfl) (by kernel_rfl) (fun _ => rfl) (fun x2 => ?_)
  refine OJ.run [4] [5, 6, 7, 8, 9, 10, 11, 12, 13, 14, 15, 16, 17, 18, 19, 20, 21] [0, 1, 7, 8] (m2 := [(0, .pointer a0), (1, .int .i64 a1), (7, Sl.v x2), (8, .pointer a0)]) (by kernel_rfl) (by kernel_rfl) ?_
  refine OJ.nilck (d := 9) (y := .tmp 8) (by kernel_rfl) (by kernel_rfl) (by kernel_rfl) (by kernel_rfl) (by kernel_rfl) (fun p3 => ?_)
  refine OJ.run [6] [7, 8, 9, 10, 11, 12, 13, 14, 15, 16, 17, 18, 19, 20, 21] [0, 1, 7, 10] (m2 := [(0, .pointer a0), (1, .int .i64 a1), (7, Sl.v x2), (10, .pointer (some (Addr.add p3 1)))]) (by kernel_rfl) (by kernel_rfl) ?_
  refine OJ.ld (d := 11) (T := 3) (y := .tmp 10) (pend2 := fun x4 => [⟨7, 3, (Addr.add p3 1), (cI .i64).val x4⟩, ⟨3, 67, p1, cL.val x2⟩]) (by kernel_rfl) (by kernel_rfl) Ty3 (by kernel_rfl) (by kernel_rfl) (fun _ => rfl) (fun x4 => ?_)
  refine OJ.run [8] [9, 10, 11, 12, 13, 14, 15, 16, 17, 18, 19, 20, 21] [0, 1, 7, 11, 12] (m2 := [(0, .pointer a0), (1, .int .i64 a1), (7, Sl.v x2), (11, .int .i64 x4), (12, .pointer a0)]) (by kernel_rfl) (by kernel_rfl) ?_
  refine OJ.nilck (d := 13) (y := .tmp 12) (by kernel_rfl) (by kernel_rfl) (by kernel_rfl) (by kernel_rfl) (by kernel_rfl) (fun p5 => ?_)
  refine OJ.run [10] [11, 12, 13, 14, 15, 16, 17, 18, 19, 20, 21] [0, 1, 7, 11, 14] (m2 := [(0, .pointer a0), (1, .int .i64 a1), (7, Sl.v x2), (11, .int .i64 x4), (14, .pointer (some (Addr.add p5 2)))]) (by kernel_rfl) (by kernel_rfl) ?_
  refine OJ.ld (d := 15) (T := 3) (y := .tmp 14) (pend2 := fun x6 => [⟨11, 3, (Addr.add p5 2), (cI .i64).val x6⟩, ⟨7, 3, (Addr.add p3 1), (cI .i64).val x4⟩, ⟨3, 67, p1, cL.val x2⟩]) (by kernel_rfl) (by kernel_rfl) Ty3 (by kernel_rfl) (by kernel_rfl) (fun _ => rfl) (fun x6 => ?_)
  refine OJ.run [12, 13] [14, 15, 16, 17, 18, 19, 20, 21] [0, 1, 7, 16, 17] (m2 := [(0, .pointer a0), (1, .int .i64 a1), (7, Sl.v x2), (16, .int .i64 (IntKind.wrap .i64 (x4 + x6))), (17, .pointer a0)]) (by kernel_rfl) (by kernel_rfl) ?_
  refine OJ.nilck (d := 18) (y := .tmp 17) (by kernel_rfl) (by kernel_rfl) (by kernel_rfl) (by kernel_rfl) (by kernel_rfl) (fun p7 => ?_)
  refine OJ.run [15] [16, 17, 18, 19, 20, 21] [0, 1, 7, 16, 19] (m2 := [(0, .pointer a0), (1, .int .i64 a1), (7, Sl.v x2), (16, .int .i64 (IntKind.wrap .i64 (x4 + x6))), (19, .pointer (some p7))]) (by kernel_rfl) (by kernel_rfl) ?_
  refine OJ.ld (d := 20) (T := 67) (y := .tmp 19) (pend2 := fun x8 => [⟨16, 67, p7, cL.val x8⟩, ⟨11, 3, (Addr.add p5 2), (cI .i64).val x6⟩, ⟨7, 3, (Addr.add p3 1), (cI .i64).val x4⟩, ⟨3, 67, p1, cL.val x2⟩]) (by kernel_rfl) (by kernel_rfl) Ty67 (by kernel_rfl) (by kernel_rfl) (fun _ => rfl) (fun x8 => ?_)
  refine OJ.run [17] [18, 19, 20, 21] [0, 1, 7, 16, 21] (m2 := [(0, .pointer a0), (1, .int .i64 a1), (7, Sl.v x2), (16, .int .i64 (IntKind.wrap .i64 (x4 + x6))), (21, .int .i64 (x8.len : Int))]) (by kernel_rfl) (by kernel_rfl) ?_
  refine OJ.rem (d := 22) (T := 3) (yT := 3) (y := .tmp 16) (z := .tmp 21) (p := (IntKind.wrap .i64 (x4 + x6))) (q := (x8.len : Int)) (k := .i64) (by kernel_rfl) (by kernel_rfl) (by kernel_rfl) (by kernel_rfl) (by kernel_rfl) (by kernel_rfl) (fun hq13 => ?_)
  refine OJ.run [19] [20, 21] [0, 7, 22, 23] (m2 := [(0, .pointer a0), (7, Sl.v x2), (22, .int .i64 (Int.tmod (IntKind.wrap .i64 (x4 + x6)) (x8.len : Int))), (23, .int .i64 a1)]) (by kernel_rfl) (by kernel_rfl) ?_
  refine OJ.idxS (d := 24) (T := 67) (y := .tmp 7) (j := .tmp 22) (E := 3) (cap := x2.cap) (k := .i64) (by kernel_rfl) (by kernel_rfl) (by kernel_rfl) (by kernel_rfl) (by kernel_rfl) (by kernel_rfl) (by kernel_rfl) (by kernel_rfl) (fun p9 => ?_)
  refine OJ.st (T := 3) (y := .tmp 24) (z := .tmp 23) (owed := []) (by kernel_rfl) (by kernel_rfl) (by kernel_rfl) Ty3 (by kernel_rfl) (by kernel_rfl) ?_
  refine OW.nil ?_
  refine OJ.nil ?_
  refine SJ.region (id := 1) (by kernel_rfl) [0, 1, 2, 3, 4, 5, 6, 7] (by kernel_rfl) ?_
  refine OJ.run [0] [1, 2, 3, 4, 5, 6, 7] [25] (m2 := [(25, .pointer a0)]) (by kernel_rfl) (by kernel_rfl) ?_
  refine OJ.nilck (d := 26) (y := .tmp 25) (by kernel_rfl) (by kernel_rfl) (by kernel_rfl) (by kernel_rfl) (by kernel_rfl) (fun p10 => ?_)
  refine OJ.run [2] [3, 4, 5, 6, 7] [25, 27] (m2 := [(25, .pointer a0), (27, .pointer (some (Addr.add p10 2)))]) (by kernel_rfl) (by kernel_rfl) ?_
  refine OJ.ld (d := 28) (T := 3) (y := .tmp 27) (pend2 := fun x11 => []) (by kernel_rfl) (by kernel_rfl) Ty3 (by kernel_rfl) (by kernel_rfl) (fun _ => rfl) (fun x11 => ?_)
  refine OJ.run [4] [5, 6, 7] [25, 29] (m2 := [(25, .pointer a0), (29, .int .i64 (IntKind.wrap .i64 (x11 + 1)))]) (by kernel_rfl) (by kernel_rfl) ?_
  refine OJ.nilck (d := 30) (y := .tmp 25) (by kernel_rfl) (by kernel_rfl) (by kernel_rfl) (by kernel_rfl) (by kernel_rfl) (fun p12 => ?_)
  refine OJ.run [6] [7] [29, 31] (m2 := [(29, .int .i64 (IntKind.wrap .i64 (x11 + 1))), (31, .pointer (some (Addr.add p12 2)))]) (by kernel_rfl) (by kernel_rfl) ?_
  refine OJ.st (T := 3) (y := .tmp 31) (z := .tmp 29) (owed := []) (by kernel_rfl) (by kernel_rfl) (by kernel_rfl) Ty3 (by kernel_rfl) (by kernel_rfl) ?_
  refine OW.nil ?_
  refine OJ.nil ?_
  exact SJ.end_ rfl (Res.run (ys := []) .nil rfl)

/-! ### weir/ring.New: function 13 -/
noncomputable def ring_New.B : Code := (Try.f13.body).getD .skip
noncomputable def ring_New.cx : Fx := ⟨Try.prog, 13, Try.f13⟩
noncomputable def ring_New.out (r_ : ((Option Addr) × Int)) : Value := .tuple #[.pointer r_.1, .int .i64 r_.2]
noncomputable def ring_New.F0 (r_ : ((Option Addr) × Int)) : Reach := .ret (ring_New.out r_)
noncomputable def ring_New.F1 (a2 : Int) (j38 : Addr) : (LS Int ((Option Addr) × Int)) → Reach := loopF [.inLoop (c1 (c1 (c2 (c1 (c2 (c2 (c2 (c2 ring_New.B)))))))), .inBlock 0, .code (c2 (c2 (c2 (c2 (c2 ring_New.B)))))] (fun s_ : Int => [(10, .pointer (some j38)), (73, .int .i64 a2), (74, .int .i64 s_)]) (fun s_ : Int => []) ring_New.F0
noncomputable def ring_New.L1 (a2 : Int) (j38 : Addr) (s43 : Int) : M (LS Int ((Option Addr) × Int)) :=
  if s43 < a2 then
    ld cL (Addr.add j38 4) >>= fun x48 =>
    idx x48.a x48.len s43 1 >>= fun p49 =>
    st (cI .i64) p49 1 >>= fun _ =>
    ring_line_join (some (Addr.add j38 6)) s43 >>= fun r50 =>
    pure (LS.next (IntKind.wrap .i64 (s43 + 1)))
  else
    pure (LS.done ((some j38), 0))
theorem ring_New.L1_ok (a2 : Int) (j38 : Addr) (s43 : Int) :
    SJ ring_New.cx [.code (c1 (c1 (c2 (c1 (c2 (c2 (c2 (c2 ring_New.B)))))))), .inLoop (c1 (c1 (c2 (c1 (c2 (c2 (c2 (c2 ring_New.B)))))))), .inBlock 0, .code (c2 (c2 (c2 (c2 (c2 ring_New.B)))))] [(10, .pointer (some j38)), (73, .int .i64 a2), (74, .int .i64 s43)] [] (ring_New.L1 a2 j38 s43) (ring_New.F1 a2 j38) := by
  unfold ring_New.L1
  refine SJ.seq (by kernel_rfl) ?_
  refine SJ.region (id := 6) (by kernel_rfl) [0] (by kernel_rfl) ?_
  refine OJ.run [0] [] [10, 73, 74, 75] (m2 := [(10, .pointer (some j38)), (73, .int .i64 a2), (74, .int .i64 s43), (75, .bool (decide (s43 < a2)))]) (by kernel_rfl) (by kernel_rfl) ?_
  refine OJ.nil ?_
  refine SJ.seq (by kernel_rfl) ?_
  refine SJ.cond (t := (.tmp 75)) (b := decide (s43 < a2)) (by kernel_rfl) (by kernel_rfl) decide_eq_true_iff (fun hc51 => ?_) (fun hc51 => ?_)
  · refine SJ.skip (by kernel_rfl) ?_
    refine SJ.seq (by kernel_rfl) ?_
    refine SJ.block (id := 1) (by kernel_rfl) ?_
    refine SJ.seq (by kernel_rfl) ?_
    refine SJ.region (id := 7) (by kernel_rfl) [0, 1] (by kernel_rfl) ?_
    refine OJ.run [0, 1] [] [10, 73, 74, 11] (m2 := [(10, .pointer (some j38)), (73, .int .i64 a2), (74, .int .i64 s43), (11, .int .i64 s43)]) (by kernel_rfl) (by kernel_rfl) ?_
    refine OJ.nil ?_
    refine SJ.seq (by kernel_rfl) ?_
    refine SJ.region (id := 8) (by kernel_rfl) [0, 1, 2, 3, 4, 5, 6] (by kernel_rfl) ?_
    refine OJ.run [0, 1, 2] [3, 4, 5, 6] [10, 73, 74, 11, 79] (m2 := [(10, .pointer (some j38)), (73, .int .i64 a2), (74, .int .i64 s43), (11, .int .i64 s43), (79, .pointer (some (Addr.add j38 4)))]) (by kernel_rfl) (by kernel_rfl) ?_
    refine OJ.ld (d := 80) (T := 67) (y := .tmp 79) (pend2 := fun x48 => []) (by kernel_rfl) (by kernel_rfl) Ty67 (by kernel_rfl) (by kernel_rfl) (fun _ => rfl) (fun x48 => ?_)
    refine OJ.run [4] [5, 6] [10, 73, 74, 11, 80, 81] (m2 := [(10, .pointer (some j38)), (73, .int .i64 a2), (74, .int .i64 s43), (11, .int .i64 s43), (80, Sl.v x48), (81, .int .i64 s43)]) (by kernel_rfl) (by kernel_rfl) ?_
    refine OJ.idxS (d := 82) (T := 67) (y := .tmp 80) (j := .tmp 81) (E := 3) (cap := x48.cap) (k := .i64) (by kernel_rfl) (by kernel_rfl) (by kernel_rfl) (by kernel_rfl) (by kernel_rfl) (by kernel_rfl) (by kernel_rfl) (by kernel_rfl) (fun p49 => ?_)
    refine OJ.st (T := 3) (y := .tmp 82) (z := .const (.int .i64 1)) (owed := []) (by kernel_rfl) (by kernel_rfl) (by kernel_rfl) Ty3 (by kernel_rfl) (by kernel_rfl) ?_
    refine OW.nil ?_
    refine OJ.nil ?_
    refine SJ.region (id := 9) (by kernel_rfl) [0, 1, 2, 3, 4] (by kernel_rfl) ?_
    refine OJ.run [0, 1, 2, 3] [4] [10, 73, 74, 85, 86] (m2 := [(10, .pointer (some j38)), (73, .int .i64 a2), (74, .int .i64 s43), (85, .pointer (some (Addr.add j38 6))), (86, .int .i64 s43)]) (by kernel_rfl) (by kernel_rfl) ?_
    refine OJ.call (d := 87) (g := 45) (ats := #[86, 3]) (args := [.tmp 85, .tmp 86]) (vals := [.pointer (some (Addr.add j38 6)), .int .i64 s43]) (owed := []) (by kernel_rfl) F45 (by kernel_rfl) (ring_line_join_ok (some (Addr.add j38 6)) s43) (by kernel_rfl) (by kernel_rfl) (by kernel_rfl) (fun r50 => ?_)
    refine OW.nil ?_
    refine OJ.nil ?_
    refine SJ.inBlock ?_
    refine SJ.region (id := 10) (by kernel_rfl) [0, 1] (by kernel_rfl) ?_
    refine OJ.run [0, 1] [] [10, 73, 74] (m2 := [(10, .pointer (some j38)), (73, .int .i64 a2), (74, .int .i64 (IntKind.wrap .i64 (s43 + 1)))]) (by kernel_rfl) (by kernel_rfl) ?_
    refine OJ.nil ?_
    exact SJ.at_ [10, 73, 74] rfl (by kernel_rfl)
  · refine SJ.exit (id := 0) (by kernel_rfl) (by rfl) ?_
    refine SJ.seq (by kernel_rfl) ?_
    refine SJ.region (id := 11) (by kernel_rfl) [0, 1, 2] (by kernel_rfl) ?_
    refine OJ.run [0, 1, 2] [] [8, 9] (m2 := [(8, .pointer (some j38)), (9, .int .i64 0)]) (by kernel_rfl) (by kernel_rfl) ?_
    refine OJ.nil ?_
    exact SJ.ret (by kernel_rfl) rfl (Res.run (ys := [.pointer (some j38), .int .i64 0]) (.tmp (by kernel_rfl) (.tmp (by kernel_rfl) .nil)) rfl)
noncomputable def ring_New.K1 (a0 : Int) (a1 : Int) (a2 : Int) (j38 : Addr) : M ((Option Addr) × Int) :=
  ring_newLine a2 >>= fun r39 =>
  ring_newLine a0 >>= fun r40 =>
  ring_newLine a0 >>= fun r41 =>
  ring_newLine a1 >>= fun r42 =>
  st c_ring_line (Addr.add j38 6) r39 >>= fun _ =>
  st c_ring_line (Addr.add j38 9) r40 >>= fun _ =>
  st c_ring_line (Addr.add j38 12) r41 >>= fun _ =>
  st c_ring_line (Addr.add j38 15) r42 >>= fun _ =>
  loopM (fun s_ : Int => ring_New.L1 a2 j38 s_) 0
theorem ring_New.K1_ok (a0 : Int) (a1 : Int) (a2 : Int) (j38 : Addr) :
    SJ ring_New.cx [.code (c2 (c2 (c2 ring_New.B)))] [(0, .int .i64 a0), (1, .int .i64 a1), (2, .int .i64 a2), (10, .pointer (some j38))] [] (ring_New.K1 a0 a1 a2 j38) ring_New.F0 := by
  unfold ring_New.K1
  refine SJ.seq (by kernel_rfl) ?_
  refine SJ.region (id := 4) (by kernel_rfl) [0, 1, 2, 3, 4, 5, 6, 7, 8, 9, 10, 11, 12, 13, 14, 15, 16, 17, 18, 19, 20, 21, 22, 23] (by kernel_rfl) ?_
  refine OJ.run [0, 1, 2, 3, 4] [5, 6, 7, 8, 9, 10, 11, 12, 13, 14, 15, 16, 17, 18, 19, 20, 21, 22, 23] [0, 1, 2, 10, 53, 54, 55, 56, 57] (m2 := [(0, .int .i64 a0), (1, .int .i64 a1), (2, .int .i64 a2), (10, .pointer (some j38)), (53, .pointer (some j38)), (54, .pointer (some j38)), (55, .pointer (some j38)), (56, .pointer (some j38)), (57, .int .i64 a2)]) (by kernel_rfl) (by kernel_rfl) ?_
  refine OJ.call (d := 58) (g := 44) (ats := #[3]) (args := [.tmp 57]) (vals := [.int .i64 a2]) (owed := []) (by kernel_rfl) F44 (by kernel_rfl) (ring_newLine_ok a2) (by kernel_rfl) (by kernel_rfl) (by kernel_rfl) (fun r39 => ?_)
  refine OW.nil ?_
  refine OJ.run [6] [7, 8, 9, 10, 11, 12, 13, 14, 15, 16, 17, 18, 19, 20, 21, 22, 23] [0, 1, 2, 10, 53, 54, 55, 56, 58, 59] (m2 := [(0, .int .i64 a0), (1, .int .i64 a1), (2, .int .i64 a2), (10, .pointer (some j38)), (53, .pointer (some j38)), (54, .pointer (some j38)), (55, .pointer (some j38)), (56, .pointer (some j38)), (58, c_ring_line.val r39), (59, .int .i64 a0)]) (by kernel_rfl) (by kernel_rfl) ?_
  refine OJ.call (d := 60) (g := 44) (ats := #[3]) (args := [.tmp 59]) (vals := [.int .i64 a0]) (owed := []) (by kernel_rfl) F44 (by kernel_rfl) (ring_newLine_ok a0) (by kernel_rfl) (by kernel_rfl) (by kernel_rfl) (fun r40 => ?_)
  refine OW.nil ?_
  refine OJ.run [8] [9, 10, 11, 12, 13, 14, 15, 16, 17, 18, 19, 20, 21, 22, 23] [1, 2, 10, 53, 54, 55, 56, 58, 60, 61] (m2 := [(1, .int .i64 a1), (2, .int .i64 a2), (10, .pointer (some j38)), (53, .pointer (some j38)), (54, .pointer (some j38)), (55, .pointer (some j38)), (56, .pointer (some j38)), (58, c_ring_line.val r39), (60, c_ring_line.val r40), (61, .int .i64 a0)]) (by kernel_rfl) (by kernel_rfl) ?_
  refine OJ.call (d := 62) (g := 44) (ats := #[3]) (args := [.tmp 61]) (vals := [.int .i64 a0]) (owed := []) (by kernel_rfl) F44 (by kernel_rfl) (ring_newLine_ok a0) (by kernel_rfl) (by kernel_rfl) (by kernel_rfl) (fun r41 => ?_)
  refine OW.nil ?_
  refine OJ.run [10] [11, 12, 13, 14, 15, 16, 17, 18, 19, 20, 21, 22, 23] [2, 10, 53, 54, 55, 56, 58, 60, 62, 63] (m2 := [(2, .int .i64 a2), (10, .pointer (some j38)), (53, .pointer (some j38)), (54, .pointer (some j38)), (55, .pointer (some j38)), (56, .pointer (some j38)), (58, c_ring_line.val r39), (60, c_ring_line.val r40), (62, c_ring_line.val r41), (63, .int .i64 a1)]) (by kernel_rfl) (by kernel_rfl) ?_
  refine OJ.call (d := 64) (g := 44) (ats := #[3]) (args := [.tmp 63]) (vals := [.int .i64 a1]) (owed := []) (by kernel_rfl) F44 (by kernel_rfl) (ring_newLine_ok a1) (by kernel_rfl) (by kernel_rfl) (by kernel_rfl) (fun r42 => ?_)
  refine OW.nil ?_
  refine OJ.run [12, 13] [14, 15, 16, 17, 18, 19, 20, 21, 22, 23] [2, 10, 54, 55, 56, 58, 60, 62, 64, 66] (m2 := [(2, .int .i64 a2), (10, .pointer (some j38)), (54, .pointer (some j38)), (55, .pointer (some j38)), (56, .pointer (some j38)), (58, c_ring_line.val r39), (60, c_ring_line.val r40), (62, c_ring_line.val r41), (64, c_ring_line.val r42), (66, .pointer (some (Addr.add j38 6)))]) (by kernel_rfl) (by kernel_rfl) ?_
  refine OJ.st (T := 86) (y := .tmp 66) (z := .tmp 58) (owed := []) (by kernel_rfl) (by kernel_rfl) (by kernel_rfl) Ty86 (by kernel_rfl) (by kernel_rfl) ?_
  refine OW.nil ?_
  refine OJ.run [15, 16] [17, 18, 19, 20, 21, 22, 23] [2, 10, 55, 56, 60, 62, 64, 68] (m2 := [(2, .int .i64 a2), (10, .pointer (some j38)), (55, .pointer (some j38)), (56, .pointer (some j38)), (60, c_ring_line.val r40), (62, c_ring_line.val r41), (64, c_ring_line.val r42), (68, .pointer (some (Addr.add j38 9)))]) (by kernel_rfl) (by kernel_rfl) ?_
  refine OJ.st (T := 86) (y := .tmp 68) (z := .tmp 60) (owed := []) (by kernel_rfl) (by kernel_rfl) (by kernel_rfl) Ty86 (by kernel_rfl) (by kernel_rfl) ?_
  refine OW.nil ?_
  refine OJ.run [18, 19] [20, 21, 22, 23] [2, 10, 56, 62, 64, 70] (m2 := [(2, .int .i64 a2), (10, .pointer (some j38)), (56, .pointer (some j38)), (62, c_ring_line.val r41), (64, c_ring_line.val r42), (70, .pointer (some (Addr.add j38 12)))]) (by kernel_rfl) (by kernel_rfl) ?_
  refine OJ.st (T := 86) (y := .tmp 70) (z := .tmp 62) (owed := []) (by kernel_rfl) (by kernel_rfl) (by kernel_rfl) Ty86 (by kernel_rfl) (by kernel_rfl) ?_
  refine OW.nil ?_
  refine OJ.run [21, 22] [23] [2, 10, 64, 72] (m2 := [(2, .int .i64 a2), (10, .pointer (some j38)), (64, c_ring_line.val r42), (72, .pointer (some (Addr.add j38 15)))]) (by kernel_rfl) (by kernel_rfl) ?_
  refine OJ.st (T := 86) (y := .tmp 72) (z := .tmp 64) (owed := []) (by kernel_rfl) (by kernel_rfl) (by kernel_rfl) Ty86 (by kernel_rfl) (by kernel_rfl) ?_
  refine OW.nil ?_
  refine OJ.nil ?_
  refine SJ.seq (by kernel_rfl) ?_
  refine SJ.seq (by kernel_rfl) ?_
  refine SJ.region (id := 5) (by kernel_rfl) [0, 1] (by kernel_rfl) ?_
  refine OJ.run [0, 1] [] [10, 73, 74] (m2 := [(10, .pointer (some j38)), (73, .int .i64 a2), (74, .int .i64 0)]) (by kernel_rfl) (by kernel_rfl) ?_
  refine OJ.nil ?_
  refine SJ.block (id := 0) (by kernel_rfl) ?_
  exact SJ.loop (fun s_ : Int => [(10, .pointer (some j38)), (73, .int .i64 a2), (74, .int .i64 s_)]) (fun s_ : Int => []) [10, 73, 74] (by kernel_rfl) (by kernel_rfl) rfl (fun _ _ => rfl) (fun s_ => ring_New.L1_ok a2 j38 s_)
noncomputable def ring_New (a0 : Int) (a1 : Int) (a2 : Int) (a3 : Int) : M ((Option Addr) × Int) :=
  (if a0 < 1 then
      pure true
    else
      pure (decide (a0 > 4096))) >>= fun y1 =>
  (if y1 = true then
      pure true
    else
      pure (decide (a1 < 1))) >>= fun y2 =>
  (if y2 = true then
      pure true
    else
      pure (decide (a1 > 4096))) >>= fun y3 =>
  (if y3 = true then
      pure true
    else
      pure (decide (a2 < 1))) >>= fun y4 =>
  (if y4 = true then
      pure true
    else
      pure (decide (a2 > 8192))) >>= fun y5 =>
  (if y5 = true then
      pure true
    else
      pure (decide (a3 < 64))) >>= fun y6 =>
  (if y6 = true then
      pure true
    else
      pure (decide (a3 > 65535))) >>= fun y7 =>
  if y7 = true then
    pure (none, 1)
  else
    draws 13 3 (opsOf (c1 (c2 (c2 ring_New.B)))) >>= fun o8 =>
    if bfr o8 4 6 = true then
      if bfr o8 4 8 = true then
        if bfr o8 6 8 = true then
          mkS cL 22 24 Sl.nil a2 a2 >>= fun r55 =>
          mkS (cI .i64) 3 8 0 a2 a2 >>= fun r56 =>
          mkS (cI .i64) 3 8 0 a2 a2 >>= fun r57 =>
          newv 88 c_ring_Port (⟨a3, a0, a1, r55, r56, r57, z_ring_Port.free, z_ring_Port.posted, z_ring_Port.filled, z_ring_Port.queued⟩ : ring_Port) >>= fun b58 =>
          ring_New.K1 a0 a1 a2 (pt b58 0)
        else
          mkS cL 22 24 Sl.nil a2 a2 >>= fun r59 =>
          mkS (cI .i64) 3 8 0 a2 a2 >>= fun r60 =>
          mkS (cI .i64) 3 8 0 a2 a2 >>= fun r61 =>
          newv 88 c_ring_Port (⟨a3, a0, a1, r59, r61, r60, z_ring_Port.free, z_ring_Port.posted, z_ring_Port.filled, z_ring_Port.queued⟩ : ring_Port) >>= fun b62 =>
          ring_New.K1 a0 a1 a2 (pt b62 0)
      else
        mkS (cI .i64) 3 8 0 a2 a2 >>= fun r63 =>
        mkS cL 22 24 Sl.nil a2 a2 >>= fun r64 =>
        mkS (cI .i64) 3 8 0 a2 a2 >>= fun r65 =>
        newv 88 c_ring_Port (⟨a3, a0, a1, r64, r65, r63, z_ring_Port.free, z_ring_Port.posted, z_ring_Port.filled, z_ring_Port.queued⟩ : ring_Port) >>= fun b66 =>
        ring_New.K1 a0 a1 a2 (pt b66 0)
    else
      if bfr o8 6 8 = true then
        if bfr o8 4 8 = true then
          mkS (cI .i64) 3 8 0 a2 a2 >>= fun r69 =>
          mkS cL 22 24 Sl.nil a2 a2 >>= fun r70 =>
          mkS (cI .i64) 3 8 0 a2 a2 >>= fun r71 =>
          newv 88 c_ring_Port (⟨a3, a0, a1, r70, r69, r71, z_ring_Port.free, z_ring_Port.posted, z_ring_Port.filled, z_ring_Port.queued⟩ : ring_Port) >>= fun b72 =>
          ring_New.K1 a0 a1 a2 (pt b72 0)
        else
          mkS (cI .i64) 3 8 0 a2 a2 >>= fun r73 =>
          mkS (cI .i64) 3 8 0 a2 a2 >>= fun r74 =>
          mkS cL 22 24 Sl.nil a2 a2 >>= fun r75 =>
          newv 88 c_ring_Port (⟨a3, a0, a1, r75, r73, r74, z_ring_Port.free, z_ring_Port.posted, z_ring_Port.filled, z_ring_Port.queued⟩ : ring_Port) >>= fun b76 =>
          ring_New.K1 a0 a1 a2 (pt b76 0)
      else
        mkS (cI .i64) 3 8 0 a2 a2 >>= fun r77 =>
        mkS (cI .i64) 3 8 0 a2 a2 >>= fun r78 =>
        mkS cL 22 24 Sl.nil a2 a2 >>= fun r79 =>
        newv 88 c_ring_Port (⟨a3, a0, a1, r79, r78, r77, z_ring_Port.free, z_ring_Port.posted, z_ring_Port.filled, z_ring_Port.queued⟩ : ring_Port) >>= fun b80 =>
        ring_New.K1 a0 a1 a2 (pt b80 0)
theorem ring_New_ok (a0 : Int) (a1 : Int) (a2 : Int) (a3 : Int) : Ref Try.prog 13 [.int .i64 a0, .int .i64 a1, .int .i64 a2, .int .i64 a3] (ring_New a0 a1 a2 a3) ring_New.out := by
  refine Ref.of (cd := ring_New.B) Try.func13 (by kernel_rfl) (by kernel_rfl) ?_
  show SJ ring_New.cx [.code ring_New.B] [(0, .int .i64 a0), (1, .int .i64 a1), (2, .int .i64 a2), (3, .int .i64 a3)] [] (ring_New a0 a1 a2 a3) ring_New.F0
  unfold ring_New
  refine SJ.seq (by kernel_rfl) ?_
  refine SJ.region (id := 0) (by kernel_rfl) [0, 1] (by kernel_rfl) ?_
  refine OJ.run [0, 1] [] [0, 1, 2, 3] (m2 := [(0, .int .i64 a0), (1, .int .i64 a1), (2, .int .i64 a2), (3, .int .i64 a3)]) (by kernel_rfl) (by kernel_rfl) ?_
  refine OJ.nil ?_
  refine SJ.seq (by kernel_rfl) ?_
  refine SJ.seq (by kernel_rfl) ?_
  refine SJ.region (id := 1) (by kernel_rfl) [0, 1, 2, 3, 4, 5, 6, 7, 8, 9, 10, 11, 12, 13, 14, 15, 16, 17, 18, 19, 20, 21, 22, 23, 24, 25, 26, 27, 28, 29] (by kernel_rfl) ?_
  refine OJ.run [0, 1, 2] [3, 4, 5, 6, 7, 8, 9, 10, 11, 12, 13, 14, 15, 16, 17, 18, 19, 20, 21, 22, 23, 24, 25, 26, 27, 28, 29] [0, 1, 2, 3, 14] (m2 := [(0, .int .i64 a0), (1, .int .i64 a1), (2, .int .i64 a2), (3, .int .i64 a3), (14, .bool (decide (a0 < 1)))]) (by kernel_rfl) (by kernel_rfl) ?_
  refine OJ.join (b := decide (a0 < 1)) [3, 4, 5] [6, 7, 8, 9, 10, 11, 12, 13, 14, 15, 16, 17, 18, 19, 20, 21, 22, 23, 24, 25, 26, 27, 28, 29] [0, 1, 2, 3, 17] (fun y1 => [(0, .int .i64 a0), (1, .int .i64 a1), (2, .int .i64 a2), (3, .int .i64 a3), (17, .bool y1)]) [] [] (by kernel_rfl) (t := 14) (by kernel_rfl) decide_eq_true_iff (fun hp_ => ?_) (fun hp_ => ?_) (by kernel_rfl) (fun _ _ _ _ _ _ h_ => h_) (fun y1 => ?_)
  · refine OJ.run [3, 4, 5] [] [0, 1, 2, 3, 17] (m2 := [(0, .int .i64 a0), (1, .int .i64 a1), (2, .int .i64 a2), (3, .int .i64 a3), (17, .bool true)]) (by kernel_rfl) (by kernel_rfl) ?_
    exact OJ.nil ⟨(Cov.mem Cov.nil), rfl, _, rfl, by kernel_rfl⟩
  · refine OJ.run [3, 4, 5] [] [0, 1, 2, 3, 17] (m2 := [(0, .int .i64 a0), (1, .int .i64 a1), (2, .int .i64 a2), (3, .int .i64 a3), (17, .bool (decide (a0 > 4096)))]) (by kernel_rfl) (by kernel_rfl) ?_
    exact OJ.nil ⟨(Cov.mem Cov.nil), rfl, _, rfl, by kernel_rfl⟩
  · refine OJ.run [6] [7, 8, 9, 10, 11, 12, 13, 14, 15, 16, 17, 18, 19, 20, 21, 22, 23, 24, 25, 26, 27, 28, 29] [0, 1, 2, 3, 18] (m2 := [(0, .int .i64 a0), (1, .int .i64 a1), (2, .int .i64 a2), (3, .int .i64 a3), (18, .bool y1)]) (by kernel_rfl) (by kernel_rfl) ?_
    refine OJ.join (b := y1) [7, 8, 9] [10, 11, 12, 13, 14, 15, 16, 17, 18, 19, 20, 21, 22, 23, 24, 25, 26, 27, 28, 29] [0, 1, 2, 3, 21] (fun y2 => [(0, .int .i64 a0), (1, .int .i64 a1), (2, .int .i64 a2), (3, .int .i64 a3), (21, .bool y2)]) [] [] (by kernel_rfl) (t := 18) (by kernel_rfl) Iff.rfl (fun hp_ => ?_) (fun hp_ => ?_) (by kernel_rfl) (fun _ _ _ _ _ _ h_ => h_) (fun y2 => ?_)
    · refine OJ.run [7, 8, 9] [] [0, 1, 2, 3, 21] (m2 := [(0, .int .i64 a0), (1, .int .i64 a1), (2, .int .i64 a2), (3, .int .i64 a3), (21, .bool true)]) (by kernel_rfl) (by kernel_rfl) ?_
      exact OJ.nil ⟨(Cov.mem Cov.nil), rfl, _, rfl, by kernel_rfl⟩
    · refine OJ.run [7, 8, 9] [] [0, 1, 2, 3, 21] (m2 := [(0, .int .i64 a0), (1, .int .i64 a1), (2, .int .i64 a2), (3, .int .i64 a3), (21, .bool (decide (a1 < 1)))]) (by kernel_rfl) (by kernel_rfl) ?_
      exact OJ.nil ⟨(Cov.mem Cov.nil), rfl, _, rfl, by kernel_rfl⟩
    · refine OJ.run [10] [11, 12, 13, 14, 15, 16, 17, 18, 19, 20, 21, 22, 23, 24, 25, 26, 27, 28, 29] [0, 1, 2, 3, 22] (m2 := [(0, .int .i64 a0), (1, .int .i64 a1), (2, .int .i64 a2), (3, .int .i64 a3), (22, .bool y2)]) (by kernel_rfl) (by kernel_rfl) ?_
      refine OJ.join (b := y2) [11, 12, 13] [14, 15, 16, 17, 18, 19, 20, 21, 22, 23, 24, 25, 26, 27, 28, 29] [0, 1, 2, 3, 25] (fun y3 => [(0, .int .i64 a0), (1, .int .i64 a1), (2, .int .i64 a2), (3, .int .i64 a3), (25, .bool y3)]) [] [] (by kernel_rfl) (t := 22) (by kernel_rfl) Iff.rfl (fun hp_ => ?_) (fun hp_ => ?_) (by kernel_rfl) (fun _ _ _ _ _ _ h_ => h_) (fun y3 => ?_)
      · refine OJ.run [11, 12, 13] [] [0, 1, 2, 3, 25] (m2 := [(0, .int .i64 a0), (1, .int .i64 a1), (2, .int .i64 a2), (3, .int .i64 a3), (25, .bool true)]) (by kernel_rfl) (by kernel_rfl) ?_
        exact OJ.nil ⟨(Cov.mem Cov.nil), rfl, _, rfl, by kernel_rfl⟩
      · refine OJ.run [11, 12, 13] [] [0, 1, 2, 3, 25] (m2 := [(0, .int .i64 a0), (1, .int .i64 a1), (2, .int .i64 a2), (3, .int .i64 a3), (25, .bool (decide (a1 > 4096)))]) (by kernel_rfl) (by kernel_rfl) ?_
        exact OJ.nil ⟨(Cov.mem Cov.nil), rfl, _, rfl, by kernel_rfl⟩
      · refine OJ.run [14] [15, 16, 17, 18, 19, 20, 21, 22, 23, 24, 25, 26, 27, 28, 29] [0, 1, 2, 3, 26] (m2 := [(0, .int .i64 a0), (1, .int .i64 a1), (2, .int .i64 a2), (3, .int .i64 a3), (26, .bool y3)]) (by kernel_rfl) (by kernel_rfl) ?_
        refine OJ.join (b := y3) [15, 16, 17] [18, 19, 20, 21, 22, 23, 24, 25, 26, 27, 28, 29] [0, 1, 2, 3, 29] (fun y4 => [(0, .int .i64 a0), (1, .int .i64 a1), (2, .int .i64 a2), (3, .int .i64 a3), (29, .bool y4)]) [] [] (by kernel_rfl) (t := 26) (by kernel_rfl) Iff.rfl (fun hp_ => ?_) (fun hp_ => ?_) (by kernel_rfl) (fun _ _ _ _ _ _ h_ => h_) (fun y4 => ?_)
        · refine OJ.run [15, 16, 17] [] [0, 1, 2, 3, 29] (m2 := [(0, .int .i64 a0), (1, .int .i64 a1), (2, .int .i64 a2), (3, .int .i64 a3), (29, .bool true)]) (by kernel_rfl) (by kernel_rfl) ?_
          exact OJ.nil ⟨(Cov.mem Cov.nil), rfl, _, rfl, by kernel_rfl⟩
        · refine OJ.run [15, 16, 17] [] [0, 1, 2, 3, 29] (m2 := [(0, .int .i64 a0), (1, .int .i64 a1), (2, .int .i64 a2), (3, .int .i64 a3), (29, .bool (decide (a2 < 1)))]) (by kernel_rfl) (by kernel_rfl) ?_
          exact OJ.nil ⟨(Cov.mem Cov.nil), rfl, _, rfl, by kernel_rfl⟩
        · refine OJ.run [18] [19, 20, 21, 22, 23, 24, 25, 26, 27, 28, 29] [0, 1, 2, 3, 30] (m2 := [(0, .int .i64 a0), (1, .int .i64 a1), (2, .int .i64 a2), (3, .int .i64 a3), (30, .bool y4)]) (by kernel_rfl) (by kernel_rfl) ?_
          refine OJ.join (b := y4) [19, 20, 21] [22, 23, 24, 25, 26, 27, 28, 29] [0, 1, 2, 3, 33] (fun y5 => [(0, .int .i64 a0), (1, .int .i64 a1), (2, .int .i64 a2), (3, .int .i64 a3), (33, .bool y5)]) [] [] (by kernel_rfl) (t := 30) (by kernel_rfl) Iff.rfl (fun hp_ => ?_) (fun hp_ => ?_) (by kernel_rfl) (fun _ _ _ _ _ _ h_ => h_) (fun y5 => ?_)
          · refine OJ.run [19, 20, 21] [] [0, 1, 2, 3, 33] (m2 := [(0, .int .i64 a0), (1, .int .i64 a1), (2, .int .i64 a2), (3, .int .i64 a3), (33, .bool true)]) (by kernel_rfl) (by kernel_rfl) ?_
            exact OJ.nil ⟨(Cov.mem Cov.nil), rfl, _, rfl, by kernel_rfl⟩
          · refine OJ.run [19, 20, 21] [] [0, 1, 2, 3, 33] (m2 := [(0, .int .i64 a0), (1, .int .i64 a1), (2, .int .i64 a2), (3, .int .i64 a3), (33, .bool (decide (a2 > 8192)))]) (by kernel_rfl) (by kernel_rfl) ?_
            exact OJ.nil ⟨(Cov.mem Cov.nil), rfl, _, rfl, by kernel_rfl⟩
          · refine OJ.run [22] [23, 24, 25, 26, 27, 28, 29] [0, 1, 2, 3, 34] (m2 := [(0, .int .i64 a0), (1, .int .i64 a1), (2, .int .i64 a2), (3, .int .i64 a3), (34, .bool y5)]) (by kernel_rfl) (by kernel_rfl) ?_
            refine OJ.join (b := y5) [23, 24, 25] [26, 27, 28, 29] [0, 1, 2, 3, 37] (fun y6 => [(0, .int .i64 a0), (1, .int .i64 a1), (2, .int .i64 a2), (3, .int .i64 a3), (37, .bool y6)]) [] [] (by kernel_rfl) (t := 34) (by kernel_rfl) Iff.rfl (fun hp_ => ?_) (fun hp_ => ?_) (by kernel_rfl) (fun _ _ _ _ _ _ h_ => h_) (fun y6 => ?_)
            · refine OJ.run [23, 24, 25] [] [0, 1, 2, 3, 37] (m2 := [(0, .int .i64 a0), (1, .int .i64 a1), (2, .int .i64 a2), (3, .int .i64 a3), (37, .bool true)]) (by kernel_rfl) (by kernel_rfl) ?_
              exact OJ.nil ⟨(Cov.mem Cov.nil), rfl, _, rfl, by kernel_rfl⟩
            · refine OJ.run [23, 24, 25] [] [0, 1, 2, 3, 37] (m2 := [(0, .int .i64 a0), (1, .int .i64 a1), (2, .int .i64 a2), (3, .int .i64 a3), (37, .bool (decide (a3 < 64)))]) (by kernel_rfl) (by kernel_rfl) ?_
              exact OJ.nil ⟨(Cov.mem Cov.nil), rfl, _, rfl, by kernel_rfl⟩
            · refine OJ.run [26] [27, 28, 29] [0, 1, 2, 3, 38] (m2 := [(0, .int .i64 a0), (1, .int .i64 a1), (2, .int .i64 a2), (3, .int .i64 a3), (38, .bool y6)]) (by kernel_rfl) (by kernel_rfl) ?_
              refine OJ.join (b := y6) [27, 28, 29] [] [0, 1, 2, 3, 41] (fun y7 => [(0, .int .i64 a0), (1, .int .i64 a1), (2, .int .i64 a2), (3, .int .i64 a3), (41, .bool y7)]) [] [] (by kernel_rfl) (t := 38) (by kernel_rfl) Iff.rfl (fun hp_ => ?_) (fun hp_ => ?_) (by kernel_rfl) (fun _ _ _ _ _ _ h_ => h_) (fun y7 => ?_)
              · refine OJ.run [27, 28, 29] [] [0, 1, 2, 3, 41] (m2 := [(0, .int .i64 a0), (1, .int .i64 a1), (2, .int .i64 a2), (3, .int .i64 a3), (41, .bool true)]) (by kernel_rfl) (by kernel_rfl) ?_
                exact OJ.nil ⟨(Cov.mem Cov.nil), rfl, _, rfl, by kernel_rfl⟩
              · refine OJ.run [27, 28, 29] [] [0, 1, 2, 3, 41] (m2 := [(0, .int .i64 a0), (1, .int .i64 a1), (2, .int .i64 a2), (3, .int .i64 a3), (41, .bool (decide (a3 > 65535)))]) (by kernel_rfl) (by kernel_rfl) ?_
                exact OJ.nil ⟨(Cov.mem Cov.nil), rfl, _, rfl, by kernel_rfl⟩
              · refine OJ.nil ?_
                refine SJ.cond (t := (.tmp 41)) (b := y7) (by kernel_rfl) (by kernel_rfl) Iff.rfl (fun hc81 => ?_) (fun hc81 => ?_)
                · refine SJ.seq (by kernel_rfl) ?_
                  refine SJ.region (id := 2) (by kernel_rfl) [0, 1] (by kernel_rfl) ?_
                  refine OJ.run [0, 1] [] [8, 9] (m2 := [(8, .pointer none), (9, .int .i64 1)]) (by kernel_rfl) (by kernel_rfl) ?_
                  refine OJ.nil ?_
                  exact SJ.ret (by kernel_rfl) rfl (Res.run (ys := [.pointer none, .int .i64 1]) (.tmp (by kernel_rfl) (.tmp (by kernel_rfl) .nil)) rfl)
                · refine SJ.skip (by kernel_rfl) ?_
                  refine SJ.seq (by kernel_rfl) ?_
                  refine SJ.draws (id := 3) (kd := [0, 0, 0, 0, 2, 0, 2, 0, 2, 0, 2, 0]) (bef := [0, 0, 0, 0, 8, 0, 32, 0, 128, 511, 1023, 2047]) (ord := [0, 1, 2, 3, 4, 5, 6, 7, 8, 9, 10, 11]) (E := [(4, 6), (4, 8), (6, 8)]) (by kernel_rfl) mixed (by kernel_rfl) (fun o8 hg_ => ?_)
                  refine SJ.bfr hg_ (by kernel_rfl) (by decide) (fun ho52 => ?_) (fun ho52 => ?_)
                  · refine SJ.bfr hg_ (by kernel_rfl) (by decide) (fun ho53 => ?_) (fun ho53 => ?_)
                    · refine SJ.bfr hg_ (by kernel_rfl) (by decide) (fun ho54 => ?_) (fun ho54 => ?_)
                      · refine SJ.leaf hg_ (kd := [0, 0, 0, 0, 2, 0, 2, 0, 2, 0, 2, 0]) (bef := [0, 0, 0, 0, 8, 0, 32, 0, 128, 511, 1023, 2047]) (ord := [0, 1, 2, 3, 4, 5, 6, 7, 8, 9, 10, 11]) (E := [(4, 6), (4, 8), (6, 8)]) (by kernel_rfl) (allB.cons ho52 (allB.cons ho53 (allB.cons ho54 allB.nil))) ?_
                        refine OJ.run [0, 1, 2, 3] [4, 5, 6, 7, 8, 9, 10, 11] [0, 1, 2, 42, 43, 44, 45] (m2 := [(0, .int .i64 a0), (1, .int .i64 a1), (2, .int .i64 a2), (42, .int .i64 a3), (43, .int .i64 a0), (44, .int .i64 a1), (45, .int .i64 a2)]) (by kernel_rfl) (by kernel_rfl) ?_
                        refine OJ.mk (d := 46) (t := 43) (lo := .tmp 45) (ko := .tmp 45) (k1 := .i64) (k2 := .i64) (owed := []) (by kernel_rfl) (by kernel_rfl) Ty22 (by kernel_rfl) (by kernel_rfl) (by kernel_rfl) (by kernel_rfl) (by kernel_rfl) (by kernel_rfl) (fun r55 => ?_)
                        refine OW.nil ?_
                        refine OJ.run [5] [6, 7, 8, 9, 10, 11] [0, 1, 2, 42, 43, 44, 46, 47] (m2 := [(0, .int .i64 a0), (1, .int .i64 a1), (2, .int .i64 a2), (42, .int .i64 a3), (43, .int .i64 a0), (44, .int .i64 a1), (46, Sl.v r55), (47, .int .i64 a2)]) (by kernel_rfl) (by kernel_rfl) ?_
                        refine OJ.mk (d := 48) (t := 67) (lo := .tmp 47) (ko := .tmp 47) (k1 := .i64) (k2 := .i64) (owed := []) (by kernel_rfl) (by kernel_rfl) Ty3 (by kernel_rfl) (by kernel_rfl) (by kernel_rfl) (by kernel_rfl) (by kernel_rfl) (by kernel_rfl) (fun r56 => ?_)
                        refine OW.nil ?_
                        refine OJ.run [7] [8, 9, 10, 11] [0, 1, 2, 42, 43, 44, 46, 48, 49] (m2 := [(0, .int .i64 a0), (1, .int .i64 a1), (2, .int .i64 a2), (42, .int .i64 a3), (43, .int .i64 a0), (44, .int .i64 a1), (46, Sl.v r55), (48, Sl.v r56), (49, .int .i64 a2)]) (by kernel_rfl) (by kernel_rfl) ?_
                        refine OJ.mk (d := 50) (t := 67) (lo := .tmp 49) (ko := .tmp 49) (k1 := .i64) (k2 := .i64) (owed := []) (by kernel_rfl) (by kernel_rfl) Ty3 (by kernel_rfl) (by kernel_rfl) (by kernel_rfl) (by kernel_rfl) (by kernel_rfl) (by kernel_rfl) (fun r57 => ?_)
                        refine OW.nil ?_
                        refine OJ.build (d := 51) (T := 88) (parts := [(0, .tmp 42), (1, .tmp 43), (2, .tmp 44), (3, .tmp 46), (4, .tmp 48), (5, .tmp 50)]) (ps := [(0, (cI .i64).val a3), (1, (cI .i64).val a0), (2, (cI .i64).val a1), (3, cL.val r55), (4, cL.val r56), (5, cL.val r57)]) (cd := c_ring_Port) (z0 := z_ring_Port) (⟨a3, a0, a1, r55, r56, r57, z_ring_Port.free, z_ring_Port.posted, z_ring_Port.filled, z_ring_Port.queued⟩ : ring_Port) (by kernel_rfl) (by kernel_rfl) Ty88 rfl (by kernel_rfl) (Filled.cons (cd := (cI .i64)) (q := a3) (o := 0) (by kernel_rfl) (Up_ring_Port_size z_ring_Port a3) (Filled.cons (cd := (cI .i64)) (q := a0) (o := 1) (by kernel_rfl) (Up_ring_Port_rx (⟨a3, z_ring_Port.rx, z_ring_Port.tx, z_ring_Port.pool, z_ring_Port.place, z_ring_Port.length, z_ring_Port.free, z_ring_Port.posted, z_ring_Port.filled, z_ring_Port.queued⟩ : ring_Port) a0) (Filled.cons (cd := (cI .i64)) (q := a1) (o := 2) (by kernel_rfl) (Up_ring_Port_tx (⟨a3, a0, z_ring_Port.tx, z_ring_Port.pool, z_ring_Port.place, z_ring_Port.length, z_ring_Port.free, z_ring_Port.posted, z_ring_Port.filled, z_ring_Port.queued⟩ : ring_Port) a1) (Filled.cons (cd := cL) (q := r55) (o := 3) (by kernel_rfl) (Up_ring_Port_pool (⟨a3, a0, a1, z_ring_Port.pool, z_ring_Port.place, z_ring_Port.length, z_ring_Port.free, z_ring_Port.posted, z_ring_Port.filled, z_ring_Port.queued⟩ : ring_Port) r55) (Filled.cons (cd := cL) (q := r56) (o := 4) (by kernel_rfl) (Up_ring_Port_place (⟨a3, a0, a1, r55, z_ring_Port.place, z_ring_Port.length, z_ring_Port.free, z_ring_Port.posted, z_ring_Port.filled, z_ring_Port.queued⟩ : ring_Port) r56) (Filled.cons (cd := cL) (q := r57) (o := 5) (by kernel_rfl) (Up_ring_Port_length (⟨a3, a0, a1, r55, r56, z_ring_Port.length, z_ring_Port.free, z_ring_Port.posted, z_ring_Port.filled, z_ring_Port.queued⟩ : ring_Port) r57) Filled.nil)))))) (by kernel_rfl) (by kernel_rfl) (by kernel_rfl) ?_
                        refine OJ.newOf (d := 52) (op := (.box 88 (.tmp 51))) (cd := c_ring_Port) (u := (⟨a3, a0, a1, r55, r56, r57, z_ring_Port.free, z_ring_Port.posted, z_ring_Port.filled, z_ring_Port.queued⟩ : ring_Port)) (owed := []) (by kernel_rfl) (box_run (by kernel_rfl)) (by kernel_rfl) (by kernel_rfl) (by kernel_rfl) (fun b58 => ?_)
                        refine OW.nil ?_
                        refine OJ.run [11] [] [0, 1, 2, 10] (m2 := [(0, .int .i64 a0), (1, .int .i64 a1), (2, .int .i64 a2), (10, .pointer (some (pt b58 0)))]) (by kernel_rfl) (by kernel_rfl) ?_
                        refine OJ.nil ?_
                        refine SJ.less [0, 1, 2, 10] (m' := [(0, .int .i64 a0), (1, .int .i64 a1), (2, .int .i64 a2), (10, .pointer (some (pt b58 0)))]) (by kernel_rfl) ?_
                        exact ring_New.K1_ok a0 a1 a2 (pt b58 0)
                      · refine SJ.leaf hg_ (kd := [0, 0, 0, 0, 2, 0, 2, 0, 2, 0, 2, 0]) (bef := [0, 0, 0, 0, 8, 0, 32, 0, 128, 511, 1023, 2047]) (ord := [0, 1, 2, 3, 4, 5, 7, 8, 6, 9, 10, 11]) (E := [(4, 8), (4, 6), (8, 6)]) (by kernel_rfl) (allB.cons ho53 (allB.cons ho52 (allB.cons ho54 allB.nil))) ?_
                        refine OJ.run [0, 1, 2, 3] [4, 5, 7, 8, 6, 9, 10, 11] [0, 1, 2, 42, 43, 44, 45] (m2 := [(0, .int .i64 a0), (1, .int .i64 a1), (2, .int .i64 a2), (42, .int .i64 a3), (43, .int .i64 a0), (44, .int .i64 a1), (45, .int .i64 a2)]) (by kernel_rfl) (by kernel_rfl) ?_
                        refine OJ.mk (d := 46) (t := 43) (lo := .tmp 45) (ko := .tmp 45) (k1 := .i64) (k2 := .i64) (owed := []) (by kernel_rfl) (by kernel_rfl) Ty22 (by kernel_rfl) (by kernel_rfl) (by kernel_rfl) (by kernel_rfl) (by kernel_rfl) (by kernel_rfl) (fun r59 => ?_)
                        refine OW.nil ?_
                        refine OJ.run [5, 7] [8, 6, 9, 10, 11] [0, 1, 2, 42, 43, 44, 46, 47, 49] (m2 := [(0, .int .i64 a0), (1, .int .i64 a1), (2, .int .i64 a2), (42, .int .i64 a3), (43, .int .i64 a0), (44, .int .i64 a1), (46, Sl.v r59), (47, .int .i64 a2), (49, .int .i64 a2)]) (by kernel_rfl) (by kernel_rfl) ?_
                        refine OJ.mk (d := 50) (t := 67) (lo := .tmp 49) (ko := .tmp 49) (k1 := .i64) (k2 := .i64) (owed := []) (by kernel_rfl) (by kernel_rfl) Ty3 (by kernel_rfl) (by kernel_rfl) (by kernel_rfl) (by kernel_rfl) (by kernel_rfl) (by kernel_rfl) (fun r60 => ?_)
                        refine OW.nil ?_
                        refine OJ.mk (d := 48) (t := 67) (lo := .tmp 47) (ko := .tmp 47) (k1 := .i64) (k2 := .i64) (owed := []) (by kernel_rfl) (by kernel_rfl) Ty3 (by kernel_rfl) (by kernel_rfl) (by kernel_rfl) (by kernel_rfl) (by kernel_rfl) (by kernel_rfl) (fun r61 => ?_)
                        refine OW.nil ?_
                        refine OJ.build (d := 51) (T := 88) (parts := [(0, .tmp 42), (1, .tmp 43), (2, .tmp 44), (3, .tmp 46), (4, .tmp 48), (5, .tmp 50)]) (ps := [(0, (cI .i64).val a3), (1, (cI .i64).val a0), (2, (cI .i64).val a1), (3, cL.val r59), (4, cL.val r61), (5, cL.val r60)]) (cd := c_ring_Port) (z0 := z_ring_Port) (⟨a3, a0, a1, r59, r61, r60, z_ring_Port.free, z_ring_Port.posted, z_ring_Port.filled, z_ring_Port.queued⟩ : ring_Port) (by kernel_rfl) (by kernel_rfl) Ty88 rfl (by kernel_rfl) (Filled.cons (cd := (cI .i64)) (q := a3) (o := 0) (by kernel_rfl) (Up_ring_Port_size z_ring_Port a3) (Filled.cons (cd := (cI .i64)) (q := a0) (o := 1) (by kernel_rfl) (Up_ring_Port_rx (⟨a3, z_ring_Port.rx, z_ring_Port.tx, z_ring_Port.pool, z_ring_Port.place, z_ring_Port.length, z_ring_Port.free, z_ring_Port.posted, z_ring_Port.filled, z_ring_Port.queued⟩ : ring_Port) a0) (Filled.cons (cd := (cI .i64)) (q := a1) (o := 2) (by kernel_rfl) (Up_ring_Port_tx (⟨a3, a0, z_ring_Port.tx, z_ring_Port.pool, z_ring_Port.place, z_ring_Port.length, z_ring_Port.free, z_ring_Port.posted, z_ring_Port.filled, z_ring_Port.queued⟩ : ring_Port) a1) (Filled.cons (cd := cL) (q := r59) (o := 3) (by kernel_rfl) (Up_ring_Port_pool (⟨a3, a0, a1, z_ring_Port.pool, z_ring_Port.place, z_ring_Port.length, z_ring_Port.free, z_ring_Port.posted, z_ring_Port.filled, z_ring_Port.queued⟩ : ring_Port) r59) (Filled.cons (cd := cL) (q := r61) (o := 4) (by kernel_rfl) (Up_ring_Port_place (⟨a3, a0, a1, r59, z_ring_Port.place, z_ring_Port.length, z_ring_Port.free, z_ring_Port.posted, z_ring_Port.filled, z_ring_Port.queued⟩ : ring_Port) r61) (Filled.cons (cd := cL) (q := r60) (o := 5) (by kernel_rfl) (Up_ring_Port_length (⟨a3, a0, a1, r59, r61, z_ring_Port.length, z_ring_Port.free, z_ring_Port.posted, z_ring_Port.filled, z_ring_Port.queued⟩ : ring_Port) r60) Filled.nil)))))) (by kernel_rfl) (by kernel_rfl) (by kernel_rfl) ?_
                        refine OJ.newOf (d := 52) (op := (.box 88 (.tmp 51))) (cd := c_ring_Port) (u := (⟨a3, a0, a1, r59, r61, r60, z_ring_Port.free, z_ring_Port.posted, z_ring_Port.filled, z_ring_Port.queued⟩ : ring_Port)) (owed := []) (by kernel_rfl) (box_run (by kernel_rfl)) (by kernel_rfl) (by kernel_rfl) (by kernel_rfl) (fun b62 => ?_)
                        refine OW.nil ?_
                        refine OJ.run [11] [] [0, 1, 2, 10] (m2 := [(0, .int .i64 a0), (1, .int .i64 a1), (2, .int .i64 a2), (10, .pointer (some (pt b62 0)))]) (by kernel_rfl) (by kernel_rfl) ?_
                        refine OJ.nil ?_
                        refine SJ.less [0, 1, 2, 10] (m' := [(0, .int .i64 a0), (1, .int .i64 a1), (2, .int .i64 a2), (10, .pointer (some (pt b62 0)))]) (by kernel_rfl) ?_
                        exact ring_New.K1_ok a0 a1 a2 (pt b62 0)
                    · refine SJ.leaf hg_ (kd := [0, 0, 0, 0, 2, 0, 2, 0, 2, 0, 2, 0]) (bef := [0, 0, 0, 0, 8, 0, 32, 0, 128, 511, 1023, 2047]) (ord := [0, 1, 2, 3, 7, 8, 4, 5, 6, 9, 10, 11]) (E := [(8, 4), (8, 6), (4, 6)]) (by kernel_rfl) (allB.cons ho53 (allB.cons (bfr_trans ho53 ho52) (allB.cons ho52 allB.nil))) ?_
                      refine OJ.run [0, 1, 2, 3, 7] [8, 4, 5, 6, 9, 10, 11] [0, 1, 2, 42, 43, 44, 45, 49] (m2 := [(0, .int .i64 a0), (1, .int .i64 a1), (2, .int .i64 a2), (42, .int .i64 a3), (43, .int .i64 a0), (44, .int .i64 a1), (45, .int .i64 a2), (49, .int .i64 a2)]) (by kernel_rfl) (by kernel_rfl) ?_
                      refine OJ.mk (d := 50) (t := 67) (lo := .tmp 49) (ko := .tmp 49) (k1 := .i64) (k2 := .i64) (owed := []) (by kernel_rfl) (by kernel_rfl) Ty3 (by kernel_rfl) (by kernel_rfl) (by kernel_rfl) (by kernel_rfl) (by kernel_rfl) (by kernel_rfl) (fun r63 => ?_)
                      refine OW.nil ?_
                      refine OJ.mk (d := 46) (t := 43) (lo := .tmp 45) (ko := .tmp 45) (k1 := .i64) (k2 := .i64) (owed := []) (by kernel_rfl) (by kernel_rfl) Ty22 (by kernel_rfl) (by kernel_rfl) (by kernel_rfl) (by kernel_rfl) (by kernel_rfl) (by kernel_rfl) (fun r64 => ?_)
                      refine OW.nil ?_
                      refine OJ.run [5] [6, 9, 10, 11] [0, 1, 2, 42, 43, 44, 50, 46, 47] (m2 := [(0, .int .i64 a0), (1, .int .i64 a1), (2, .int .i64 a2), (42, .int .i64 a3), (43, .int .i64 a0), (44, .int .i64 a1), (50, Sl.v r63), (46, Sl.v r64), (47, .int .i64 a2)]) (by kernel_rfl) (by kernel_rfl) ?_
                      refine OJ.mk (d := 48) (t := 67) (lo := .tmp 47) (ko := .tmp 47) (k1 := .i64) (k2 := .i64) (owed := []) (by kernel_rfl) (by kernel_rfl) Ty3 (by kernel_rfl) (by kernel_rfl) (by kernel_rfl) (by kernel_rfl) (by kernel_rfl) (by kernel_rfl) (fun r65 => ?_)
                      refine OW.nil ?_
                      refine OJ.build (d := 51) (T := 88) (parts := [(0, .tmp 42), (1, .tmp 43), (2, .tmp 44), (3, .tmp 46), (4, .tmp 48), (5, .tmp 50)]) (ps := [(0, (cI .i64).val a3), (1, (cI .i64).val a0), (2, (cI .i64).val a1), (3, cL.val r64), (4, cL.val r65), (5, cL.val r63)]) (cd := c_ring_Port) (z0 := z_ring_Port) (⟨a3, a0, a1, r64, r65, r63, z_ring_Port.free, z_ring_Port.posted, z_ring_Port.filled, z_ring_Port.queued⟩ : ring_Port) (by kernel_rfl) (by kernel_rfl) Ty88 rfl (by kernel_rfl) (Filled.cons (cd := (cI .i64)) (q := a3) (o := 0) (by kernel_rfl) (Up_ring_Port_size z_ring_Port a3) (Filled.cons (cd := (cI .i64)) (q := a0) (o := 1) (by kernel_rfl) (Up_ring_Port_rx (⟨a3, z_ring_Port.rx, z_ring_Port.tx, z_ring_Port.pool, z_ring_Port.place, z_ring_Port.length, z_ring_Port.free, z_ring_Port.posted, z_ring_Port.filled, z_ring_Port.queued⟩ : ring_Port) a0) (Filled.cons (cd := (cI .i64)) (q := a1) (o := 2) (by kernel_rfl) (Up_ring_Port_tx (⟨a3, a0, z_ring_Port.tx, z_ring_Port.pool, z_ring_Port.place, z_ring_Port.length, z_ring_Port.free, z_ring_Port.posted, z_ring_Port.filled, z_ring_Port.queued⟩ : ring_Port) a1) (Filled.cons (cd := cL) (q := r64) (o := 3) (by kernel_rfl) (Up_ring_Port_pool (⟨a3, a0, a1, z_ring_Port.pool, z_ring_Port.place, z_ring_Port.length, z_ring_Port.free, z_ring_Port.posted, z_ring_Port.filled, z_ring_Port.queued⟩ : ring_Port) r64) (Filled.cons (cd := cL) (q := r65) (o := 4) (by kernel_rfl) (Up_ring_Port_place (⟨a3, a0, a1, r64, z_ring_Port.place, z_ring_Port.length, z_ring_Port.free, z_ring_Port.posted, z_ring_Port.filled, z_ring_Port.queued⟩ : ring_Port) r65) (Filled.cons (cd := cL) (q := r63) (o := 5) (by kernel_rfl) (Up_ring_Port_length (⟨a3, a0, a1, r64, r65, z_ring_Port.length, z_ring_Port.free, z_ring_Port.posted, z_ring_Port.filled, z_ring_Port.queued⟩ : ring_Port) r63) Filled.nil)))))) (by kernel_rfl) (by kernel_rfl) (by kernel_rfl) ?_
                      refine OJ.newOf (d := 52) (op := (.box 88 (.tmp 51))) (cd := c_ring_Port) (u := (⟨a3, a0, a1, r64, r65, r63, z_ring_Port.free, z_ring_Port.posted, z_ring_Port.filled, z_ring_Port.queued⟩ : ring_Port)) (owed := []) (by kernel_rfl) (box_run (by kernel_rfl)) (by kernel_rfl) (by kernel_rfl) (by kernel_rfl) (fun b66 => ?_)
                      refine OW.nil ?_
                      refine OJ.run [11] [] [0, 1, 2, 10] (m2 := [(0, .int .i64 a0), (1, .int .i64 a1), (2, .int .i64 a2), (10, .pointer (some (pt b66 0)))]) (by kernel_rfl) (by kernel_rfl) ?_
                      refine OJ.nil ?_
                      refine SJ.less [0, 1, 2, 10] (m' := [(0, .int .i64 a0), (1, .int .i64 a1), (2, .int .i64 a2), (10, .pointer (some (pt b66 0)))]) (by kernel_rfl) ?_
                      exact ring_New.K1_ok a0 a1 a2 (pt b66 0)
                  · refine SJ.bfr hg_ (by kernel_rfl) (by decide) (fun ho67 => ?_) (fun ho67 => ?_)
                    · refine SJ.bfr hg_ (by kernel_rfl) (by decide) (fun ho68 => ?_) (fun ho68 => ?_)
                      · refine SJ.leaf hg_ (kd := [0, 0, 0, 0, 2, 0, 2, 0, 2, 0, 2, 0]) (bef := [0, 0, 0, 0, 8, 0, 32, 0, 128, 511, 1023, 2047]) (ord := [0, 1, 2, 3, 5, 6, 4, 7, 8, 9, 10, 11]) (E := [(6, 4), (6, 8), (4, 8)]) (by kernel_rfl) (allB.cons ho52 (allB.cons ho67 (allB.cons ho68 allB.nil))) ?_
                        refine OJ.run [0, 1, 2, 3, 5] [6, 4, 7, 8, 9, 10, 11] [0, 1, 2, 42, 43, 44, 45, 47] (m2 := [(0, .int .i64 a0), (1, .int .i64 a1), (2, .int .i64 a2), (42, .int .i64 a3), (43, .int .i64 a0), (44, .int .i64 a1), (45, .int .i64 a2), (47, .int .i64 a2)]) (by kernel_rfl) (by kernel_rfl) ?_
                        refine OJ.mk (d := 48) (t := 67) (lo := .tmp 47) (ko := .tmp 47) (k1 := .i64) (k2 := .i64) (owed := []) (by kernel_rfl) (by kernel_rfl) Ty3 (by kernel_rfl) (by kernel_rfl) (by kernel_rfl) (by kernel_rfl) (by kernel_rfl) (by kernel_rfl) (fun r69 => ?_)
                        refine OW.nil ?_
                        refine OJ.mk (d := 46) (t := 43) (lo := .tmp 45) (ko := .tmp 45) (k1 := .i64) (k2 := .i64) (owed := []) (by kernel_rfl) (by kernel_rfl) Ty22 (by kernel_rfl) (by kernel_rfl) (by kernel_rfl) (by kernel_rfl) (by kernel_rfl) (by kernel_rfl) (fun r70 => ?_)
                        refine OW.nil ?_
                        refine OJ.run [7] [8, 9, 10, 11] [0, 1, 2, 42, 43, 44, 48, 46, 49] (m2 := [(0, .int .i64 a0), (1, .int .i64 a1), (2, .int .i64 a2), (42, .int .i64 a3), (43, .int .i64 a0), (44, .int .i64 a1), (48, Sl.v r69), (46, Sl.v r70), (49, .int .i64 a2)]) (by kernel_rfl) (by kernel_rfl) ?_
                        refine OJ.mk (d := 50) (t := 67) (lo := .tmp 49) (ko := .tmp 49) (k1 := .i64) (k2 := .i64) (owed := []) (by kernel_rfl) (by kernel_rfl) Ty3 (by kernel_rfl) (by kernel_rfl) (by kernel_rfl) (by kernel_rfl) (by kernel_rfl) (by kernel_rfl) (fun r71 => ?_)
                        refine OW.nil ?_
                        refine OJ.build (d := 51) (T := 88) (parts := [(0, .tmp 42), (1, .tmp 43), (2, .tmp 44), (3, .tmp 46), (4, .tmp 48), (5, .tmp 50)]) (ps := [(0, (cI .i64).val a3), (1, (cI .i64).val a0), (2, (cI .i64).val a1), (3, cL.val r70), (4, cL.val r69), (5, cL.val r71)]) (cd := c_ring_Port) (z0 := z_ring_Port) (⟨a3, a0, a1, r70, r69, r71, z_ring_Port.free, z_ring_Port.posted, z_ring_Port.filled, z_ring_Port.queued⟩ : ring_Port) (by kernel_rfl) (by kernel_rfl) Ty88 rfl (by kernel_rfl) (Filled.cons (cd := (cI .i64)) (q := a3) (o := 0) (by kernel_rfl) (Up_ring_Port_size z_ring_Port a3) (Filled.cons (cd := (cI .i64)) (q := a0) (o := 1) (by kernel_rfl) (Up_ring_Port_rx (⟨a3, z_ring_Port.rx, z_ring_Port.tx, z_ring_Port.pool, z_ring_Port.place, z_ring_Port.length, z_ring_Port.free, z_ring_Port.posted, z_ring_Port.filled, z_ring_Port.queued⟩ : ring_Port) a0) (Filled.cons (cd := (cI .i64)) (q := a1) (o := 2) (by kernel_rfl) (Up_ring_Port_tx (⟨a3, a0, z_ring_Port.tx, z_ring_Port.pool, z_ring_Port.place, z_ring_Port.length, z_ring_Port.free, z_ring_Port.posted, z_ring_Port.filled, z_ring_Port.queued⟩ : ring_Port) a1) (Filled.cons (cd := cL) (q := r70) (o := 3) (by kernel_rfl) (Up_ring_Port_pool (⟨a3, a0, a1, z_ring_Port.pool, z_ring_Port.place, z_ring_Port.length, z_ring_Port.free, z_ring_Port.posted, z_ring_Port.filled, z_ring_Port.queued⟩ : ring_Port) r70) (Filled.cons (cd := cL) (q := r69) (o := 4) (by kernel_rfl) (Up_ring_Port_place (⟨a3, a0, a1, r70, z_ring_Port.place, z_ring_Port.length, z_ring_Port.free, z_ring_Port.posted, z_ring_Port.filled, z_ring_Port.queued⟩ : ring_Port) r69) (Filled.cons (cd := cL) (q := r71) (o := 5) (by kernel_rfl) (Up_ring_Port_length (⟨a3, a0, a1, r70, r69, z_ring_Port.length, z_ring_Port.free, z_ring_Port.posted, z_ring_Port.filled, z_ring_Port.queued⟩ : ring_Port) r71) Filled.nil)))))) (by kernel_rfl) (by kernel_rfl) (by kernel_rfl) ?_
                        refine OJ.newOf (d := 52) (op := (.box 88 (.tmp 51))) (cd := c_ring_Port) (u := (⟨a3, a0, a1, r70, r69, r71, z_ring_Port.free, z_ring_Port.posted, z_ring_Port.filled, z_ring_Port.queued⟩ : ring_Port)) (owed := []) (by kernel_rfl) (box_run (by kernel_rfl)) (by kernel_rfl) (by kernel_rfl) (by kernel_rfl) (fun b72 => ?_)
                        refine OW.nil ?_
                        refine OJ.run [11] [] [0, 1, 2, 10] (m2 := [(0, .int .i64 a0), (1, .int .i64 a1), (2, .int .i64 a2), (10, .pointer (some (pt b72 0)))]) (by kernel_rfl) (by kernel_rfl) ?_
                        refine OJ.nil ?_
                        refine SJ.less [0, 1, 2, 10] (m' := [(0, .int .i64 a0), (1, .int .i64 a1), (2, .int .i64 a2), (10, .pointer (some (pt b72 0)))]) (by kernel_rfl) ?_
                        exact ring_New.K1_ok a0 a1 a2 (pt b72 0)
                      · refine SJ.leaf hg_ (kd := [0, 0, 0, 0, 2, 0, 2, 0, 2, 0, 2, 0]) (bef := [0, 0, 0, 0, 8, 0, 32, 0, 128, 511, 1023, 2047]) (ord := [0, 1, 2, 3, 5, 6, 7, 8, 4, 9, 10, 11]) (E := [(6, 8), (6, 4), (8, 4)]) (by kernel_rfl) (allB.cons ho67 (allB.cons ho52 (allB.cons ho68 allB.nil))) ?_
                        refine OJ.run [0, 1, 2, 3, 5] [6, 7, 8, 4, 9, 10, 11] [0, 1, 2, 42, 43, 44, 45, 47] (m2 := [(0, .int .i64 a0), (1, .int .i64 a1), (2, .int .i64 a2), (42, .int .i64 a3), (43, .int .i64 a0), (44, .int .i64 a1), (45, .int .i64 a2), (47, .int .i64 a2)]) (by kernel_rfl) (by kernel_rfl) ?_
                        refine OJ.mk (d := 48) (t := 67) (lo := .tmp 47) (ko := .tmp 47) (k1 := .i64) (k2 := .i64) (owed := []) (by kernel_rfl) (by kernel_rfl) Ty3 (by kernel_rfl) (by kernel_rfl) (by kernel_rfl) (by kernel_rfl) (by kernel_rfl) (by kernel_rfl) (fun r73 => ?_)
                        refine OW.nil ?_
                        refine OJ.run [7] [8, 4, 9, 10, 11] [0, 1, 2, 42, 43, 44, 45, 48, 49] (m2 := [(0, .int .i64 a0), (1, .int .i64 a1), (2, .int .i64 a2), (42, .int .i64 a3), (43, .int .i64 a0), (44, .int .i64 a1), (45, .int .i64 a2), (48, Sl.v r73), (49, .int .i64 a2)]) (by kernel_rfl) (by kernel_rfl) ?_
                        refine OJ.mk (d := 50) (t := 67) (lo := .tmp 49) (ko := .tmp 49) (k1 := .i64) (k2 := .i64) (owed := []) (by kernel_rfl) (by kernel_rfl) Ty3 (by kernel_rfl) (by kernel_rfl) (by kernel_rfl) (by kernel_rfl) (by kernel_rfl) (by kernel_rfl) (fun r74 => ?_)
                        refine OW.nil ?_
                        refine OJ.mk (d := 46) (t := 43) (lo := .tmp 45) (ko := .tmp 45) (k1 := .i64) (k2 := .i64) (owed := []) (by kernel_rfl) (by kernel_rfl) Ty22 (by kernel_rfl) (by kernel_rfl) (by kernel_rfl) (by kernel_rfl) (by kernel_rfl) (by kernel_rfl) (fun r75 => ?_)
                        refine OW.nil ?_
                        refine OJ.build (d := 51) (T := 88) (parts := [(0, .tmp 42), (1, .tmp 43), (2, .tmp 44), (3, .tmp 46), (4, .tmp 48), (5, .tmp 50)]) (ps := [(0, (cI .i64).val a3), (1, (cI .i64).val a0), (2, (cI .i64).val a1), (3, cL.val r75), (4, cL.val r73), (5, cL.val r74)]) (cd := c_ring_Port) (z0 := z_ring_Port) (⟨a3, a0, a1, r75, r73, r74, z_ring_Port.free, z_ring_Port.posted, z_ring_Port.filled, z_ring_Port.queued⟩ : ring_Port) (by kernel_rfl) (by kernel_rfl) Ty88 rfl (by kernel_rfl) (Filled.cons (cd := (cI .i64)) (q := a3) (o := 0) (by kernel_rfl) (Up_ring_Port_size z_ring_Port a3) (Filled.cons (cd := (cI .i64)) (q := a0) (o := 1) (by kernel_rfl) (Up_ring_Port_rx (⟨a3, z_ring_Port.rx, z_ring_Port.tx, z_ring_Port.pool, z_ring_Port.place, z_ring_Port.length, z_ring_Port.free, z_ring_Port.posted, z_ring_Port.filled, z_ring_Port.queued⟩ : ring_Port) a0) (Filled.cons (cd := (cI .i64)) (q := a1) (o := 2) (by kernel_rfl) (Up_ring_Port_tx (⟨a3, a0, z_ring_Port.tx, z_ring_Port.pool, z_ring_Port.place, z_ring_Port.length, z_ring_Port.free, z_ring_Port.posted, z_ring_Port.filled, z_ring_Port.queued⟩ : ring_Port) a1) (Filled.cons (cd := cL) (q := r75) (o := 3) (by kernel_rfl) (Up_ring_Port_pool (⟨a3, a0, a1, z_ring_Port.pool, z_ring_Port.place, z_ring_Port.length, z_ring_Port.free, z_ring_Port.posted, z_ring_Port.filled, z_ring_Port.queued⟩ : ring_Port) r75) (Filled.cons (cd := cL) (q := r73) (o := 4) (by kernel_rfl) (Up_ring_Port_place (⟨a3, a0, a1, r75, z_ring_Port.place, z_ring_Port.length, z_ring_Port.free, z_ring_Port.posted, z_ring_Port.filled, z_ring_Port.queued⟩ : ring_Port) r73) (Filled.cons (cd := cL) (q := r74) (o := 5) (by kernel_rfl) (Up_ring_Port_length (⟨a3, a0, a1, r75, r73, z_ring_Port.length, z_ring_Port.free, z_ring_Port.posted, z_ring_Port.filled, z_ring_Port.queued⟩ : ring_Port) r74) Filled.nil)))))) (by kernel_rfl) (by kernel_rfl) (by kernel_rfl) ?_
                        refine OJ.newOf (d := 52) (op := (.box 88 (.tmp 51))) (cd := c_ring_Port) (u := (⟨a3, a0, a1, r75, r73, r74, z_ring_Port.free, z_ring_Port.posted, z_ring_Port.filled, z_ring_Port.queued⟩ : ring_Port)) (owed := []) (by kernel_rfl) (box_run (by kernel_rfl)) (by kernel_rfl) (by kernel_rfl) (by kernel_rfl) (fun b76 => ?_)
                        refine OW.nil ?_
                        refine OJ.run [11] [] [0, 1, 2, 10] (m2 := [(0, .int .i64 a0), (1, .int .i64 a1), (2, .int .i64 a2), (10, .pointer (some (pt b76 0)))]) (by kernel_rfl) (by kernel_rfl) ?_
                        refine OJ.nil ?_
                        refine SJ.less [0, 1, 2, 10] (m' := [(0, .int .i64 a0), (1, .int .i64 a1), (2, .int .i64 a2), (10, .pointer (some (pt b76 0)))]) (by kernel_rfl) ?_
                        exact ring_New.K1_ok a0 a1 a2 (pt b76 0)
                    · refine SJ.leaf hg_ (kd := [0, 0, 0, 0, 2, 0, 2, 0, 2, 0, 2, 0]) (bef := [0, 0, 0, 0, 8, 0, 32, 0, 128, 511, 1023, 2047]) (ord := [0, 1, 2, 3, 5, 7, 8, 6, 4, 9, 10, 11]) (E := [(8, 6), (8, 4), (6, 4)]) (by kernel_rfl) (allB.cons ho67 (allB.cons (bfr_trans ho67 ho52) (allB.cons ho52 allB.nil))) ?_
                      refine OJ.run [0, 1, 2, 3, 5, 7] [8, 6, 4, 9, 10, 11] [0, 1, 2, 42, 43, 44, 45, 47, 49] (m2 := [(0, .int .i64 a0), (1, .int .i64 a1), (2, .int .i64 a2), (42, .int .i64 a3), (43, .int .i64 a0), (44, .int .i64 a1), (45, .int .i64 a2), (47, .int .i64 a2), (49, .int .i64 a2)]) (by kernel_rfl) (by kernel_rfl) ?_
                      refine OJ.mk (d := 50) (t := 67) (lo := .tmp 49) (ko := .tmp 49) (k1 := .i64) (k2 := .i64) (owed := []) (by kernel_rfl) (by kernel_rfl) Ty3 (by kernel_rfl) (by kernel_rfl) (by kernel_rfl) (by kernel_rfl) (by kernel_rfl) (by kernel_rfl) (fun r77 => ?_)
                      refine OW.nil ?_
                      refine OJ.mk (d := 48) (t := 67) (lo := .tmp 47) (ko := .tmp 47) (k1 := .i64) (k2 := .i64) (owed := []) (by kernel_rfl) (by kernel_rfl) Ty3 (by kernel_rfl) (by kernel_rfl) (by kernel_rfl) (by kernel_rfl) (by kernel_rfl) (by kernel_rfl) (fun r78 => ?_)
                      refine OW.nil ?_
                      refine OJ.mk (d := 46) (t := 43) (lo := .tmp 45) (ko := .tmp 45) (k1 := .i64) (k2 := .i64) (owed := []) (by kernel_rfl) (by kernel_rfl) Ty22 (by kernel_rfl) (by kernel_rfl) (by kernel_rfl) (by kernel_rfl) (by kernel_rfl) (by kernel_rfl) (fun r79 => ?_)
                      refine OW.nil ?_
                      refine OJ.build (d := 51) (T := 88) (parts := [(0, .tmp 42), (1, .tmp 43), (2, .tmp 44), (3, .tmp 46), (4, .tmp 48), (5, .tmp 50)]) (ps := [(0, (cI .i64).val a3), (1, (cI .i64).val a0), (2, (cI .i64).val a1), (3, cL.val r79), (4, cL.val r78), (5, cL.val r77)]) (cd := c_ring_Port) (z0 := z_ring_Port) (⟨a3, a0, a1, r79, r78, r77, z_ring_Port.free, z_ring_Port.posted, z_ring_Port.filled, z_ring_Port.queued⟩ : ring_Port) (by kernel_rfl) (by kernel_rfl) Ty88 rfl (by kernel_rfl) (Filled.cons (cd := (cI .i64)) (q := a3) (o := 0) (by kernel_rfl) (Up_ring_Port_size z_ring_Port a3) (Filled.cons (cd := (cI .i64)) (q := a0) (o := 1) (by kernel_rfl) (Up_ring_Port_rx (⟨a3, z_ring_Port.rx, z_ring_Port.tx, z_ring_Port.pool, z_ring_Port.place, z_ring_Port.length, z_ring_Port.free, z_ring_Port.posted, z_ring_Port.filled, z_ring_Port.queued⟩ : ring_Port) a0) (Filled.cons (cd := (cI .i64)) (q := a1) (o := 2) (by kernel_rfl) (Up_ring_Port_tx (⟨a3, a0, z_ring_Port.tx, z_ring_Port.pool, z_ring_Port.place, z_ring_Port.length, z_ring_Port.free, z_ring_Port.posted, z_ring_Port.filled, z_ring_Port.queued⟩ : ring_Port) a1) (Filled.cons (cd := cL) (q := r79) (o := 3) (by kernel_rfl) (Up_ring_Port_pool (⟨a3, a0, a1, z_ring_Port.pool, z_ring_Port.place, z_ring_Port.length, z_ring_Port.free, z_ring_Port.posted, z_ring_Port.filled, z_ring_Port.queued⟩ : ring_Port) r79) (Filled.cons (cd := cL) (q := r78) (o := 4) (by kernel_rfl) (Up_ring_Port_place (⟨a3, a0, a1, r79, z_ring_Port.place, z_ring_Port.length, z_ring_Port.free, z_ring_Port.posted, z_ring_Port.filled, z_ring_Port.queued⟩ : ring_Port) r78) (Filled.cons (cd := cL) (q := r77) (o := 5) (by kernel_rfl) (Up_ring_Port_length (⟨a3, a0, a1, r79, r78, z_ring_Port.length, z_ring_Port.free, z_ring_Port.posted, z_ring_Port.filled, z_ring_Port.queued⟩ : ring_Port) r77) Filled.nil)))))) (by kernel_rfl) (by kernel_rfl) (by kernel_rfl) ?_
                      refine OJ.newOf (d := 52) (op := (.box 88 (.tmp 51))) (cd := c_ring_Port) (u := (⟨a3, a0, a1, r79, r78, r77, z_ring_Port.free, z_ring_Port.posted, z_ring_Port.filled, z_ring_Port.queued⟩ : ring_Port)) (owed := []) (by kernel_rfl) (box_run (by kernel_rfl)) (by kernel_rfl) (by kernel_rfl) (by kernel_rfl) (fun b80 => ?_)
                      refine OW.nil ?_
                      refine OJ.run [11] [] [0, 1, 2, 10] (m2 := [(0, .int .i64 a0), (1, .int .i64 a1), (2, .int .i64 a2), (10, .pointer (some (pt b80 0)))]) (by kernel_rfl) (by kernel_rfl) ?_
                      refine OJ.nil ?_
                      refine SJ.less [0, 1, 2, 10] (m' := [(0, .int .i64 a0), (1, .int .i64 a1), (2, .int .i64 a2), (10, .pointer (some (pt b80 0)))]) (by kernel_rfl) ?_
                      exact ring_New.K1_ok a0 a1 a2 (pt b80 0)

/-! ### weir/weirlaw3.num: function 14 -/
noncomputable def weirlaw3_num.B : Code := (Try.f14.body).getD .skip
noncomputable def weirlaw3_num.cx : Fx := ⟨Try.prog, 14, Try.f14⟩
noncomputable def weirlaw3_num.out (r_ : Int) : Value := .int .i64 r_
noncomputable def weirlaw3_num.F0 (r_ : Int) : Reach := .ret (weirlaw3_num.out r_)
noncomputable def weirlaw3_num (a0 : Int) : M Int :=
  pure a0
theorem weirlaw3_num_ok (a0 : Int) : Ref Try.prog 14 [.int .i64 a0] (weirlaw3_num a0) weirlaw3_num.out := by
  refine Ref.of (cd := weirlaw3_num.B) Try.func14 (by kernel_rfl) (by kernel_rfl) ?_
  show SJ weirlaw3_num.cx [.code weirlaw3_num.B] [(0, .int .i64 a0)] [] (weirlaw3_num a0) weirlaw3_num.F0
  unfold weirlaw3_num
  refine SJ.seq (by kernel_rfl) ?_
  refine SJ.region (id := 0) (by kernel_rfl) [0] (by kernel_rfl) ?_
  refine OJ.run [0] [] [0] (m2 := [(0, .int .i64 a0)]) (by kernel_rfl) (by kernel_rfl) ?_
  refine OJ.nil ?_
  refine SJ.seq (by kernel_rfl) ?_
  refine SJ.region (id := 1) (by kernel_rfl) [0, 1] (by kernel_rfl) ?_
  refine OJ.run [0, 1] [] [2] (m2 := [(2, .int .i64 a0)]) (by kernel_rfl) (by kernel_rfl) ?_
  refine OJ.nil ?_
  exact SJ.ret (by kernel_rfl) rfl (Res.run (ys := [.int .i64 a0]) (.tmp (by kernel_rfl) .nil) rfl)

/-! ### weir/weirlaw3.port: function 23 -/
noncomputable def weirlaw3_port.B : Code := (Try.f23.body).getD .skip
noncomputable def weirlaw3_port.cx : Fx := ⟨Try.prog, 23, Try.f23⟩
noncomputable def weirlaw3_port.out (r_ : ((Option Addr) × Int × Int × Int × Int)) : Value := .tuple #[.pointer r_.1, .int .i64 r_.2.1, .int .i64 r_.2.2.1, .int .i64 r_.2.2.2.1, .int .i64 r_.2.2.2.2]
noncomputable def weirlaw3_port.F0 (r_ : ((Option Addr) × Int × Int × Int × Int)) : Reach := .ret (weirlaw3_port.out r_)
noncomputable def weirlaw3_port (a0 : Int) (a1 : Int) (a2 : Int) (a3 : Int) : M ((Option Addr) × Int × Int × Int × Int) :=
  (if a0 ≥ 1 then
      pure (decide (a0 ≤ 4096))
    else
      pure false) >>= fun y1 =>
  (if y1 = true then
      pure (decide (a1 ≥ 1))
    else
      pure false) >>= fun y2 =>
  (if y2 = true then
      pure (decide (a1 ≤ 4096))
    else
      pure false) >>= fun y3 =>
  (if y3 = true then
      pure (decide (a2 ≥ 1))
    else
      pure false) >>= fun y4 =>
  (if y4 = true then
      pure (decide (a2 ≤ 8192))
    else
      pure false) >>= fun y5 =>
  (if y5 = true then
      pure (decide (a3 ≥ 64))
    else
      pure false) >>= fun y6 =>
  (if y6 = true then
      pure (decide (a3 ≤ 65535))
    else
      pure false) >>= fun y7 =>
  (if y7 = true then
      pure (decide ((IntKind.wrap .i64 (a2 * a3)) ≤ 4000000))
    else
      pure false) >>= fun y8 =>
  if ¬ (y8 = true) then
    ring_New 2 2 3 64 >>= fun r9 =>
    weirlaw3_num r9.2 >>= fun r10 =>
    if r10 ≠ 0 then
      pure (none, 0, 0, 0, 0)
    else
      pure (r9.1, 2, 2, 3, 64)
  else
    ring_New a0 a1 a2 a3 >>= fun r12 =>
    weirlaw3_num r12.2 >>= fun r13 =>
    if r13 ≠ 0 then
      pure (none, 0, 0, 0, 0)
    else
      pure (r12.1, a0, a1, a2, a3)
theorem weirlaw3_port_ok (a0 : Int) (a1 : Int) (a2 : Int) (a3 : Int) : Ref Try.prog 23 [.int .i64 a0, .int .i64 a1, .int .i64 a2, .int .i64 a3] (weirlaw3_port a0 a1 a2 a3) weirlaw3_port.out := by
  refine Ref.of (cd := weirlaw3_port.B) Try.func23 (by kernel_rfl) (by kernel_rfl) ?_
  show SJ weirlaw3_port.cx [.code weirlaw3_port.B] [(0, .int .i64 a0), (1, .int .i64 a1), (2, .int .i64 a2), (3, .int .i64 a3)] [] (weirlaw3_port a0 a1 a2 a3) weirlaw3_port.F0
  unfold weirlaw3_port
  refine SJ.seq (by kernel_rfl) ?_
  refine SJ.region (id := 0) (by kernel_rfl) [0, 1, 2, 3, 4] (by kernel_rfl) ?_
  refine OJ.run [0, 1, 2, 3, 4] [] [0, 1, 2, 3] (m2 := [(0, .int .i64 a0), (1, .int .i64 a1), (2, .int .i64 a2), (3, .int .i64 a3)]) (by kernel_rfl) (by kernel_rfl) ?_
  refine OJ.nil ?_
  refine SJ.seq (by kernel_rfl) ?_
  refine SJ.region (id := 1) (by kernel_rfl) [0, 1, 2, 3, 4, 5, 6, 7, 8, 9, 10, 11, 12, 13, 14, 15, 16, 17, 18, 19, 20, 21, 22, 23, 24, 25, 26, 27, 28, 29, 30, 31, 32, 33, 34, 35, 36] (by kernel_rfl) ?_
  refine OJ.run [0, 1, 2] [3, 4, 5, 6, 7, 8, 9, 10, 11, 12, 13, 14, 15, 16, 17, 18, 19, 20, 21, 22, 23, 24, 25, 26, 27, 28, 29, 30, 31, 32, 33, 34, 35, 36] [0, 1, 2, 3, 18] (m2 := [(0, .int .i64 a0), (1, .int .i64 a1), (2, .int .i64 a2), (3, .int .i64 a3), (18, .bool (decide (a0 ≥ 1)))]) (by kernel_rfl) (by kernel_rfl) ?_
  refine OJ.join (b := decide (a0 ≥ 1)) [3, 4, 5] [6, 7, 8, 9, 10, 11, 12, 13, 14, 15, 16, 17, 18, 19, 20, 21, 22, 23, 24, 25, 26, 27, 28, 29, 30, 31, 32, 33, 34, 35, 36] [0, 1, 2, 3, 21] (fun y1 => [(0, .int .i64 a0), (1, .int .i64 a1), (2, .int .i64 a2), (3, .int .i64 a3), (21, .bool y1)]) [] [] (by kernel_rfl) (t := 18) (by kernel_rfl) decide_eq_true_iff (fun hp_ => ?_) (fun hp_ => ?_) (by kernel_rfl) (fun _ _ _ _ _ _ h_ => h_) (fun y1 => ?_)
  · refine OJ.run [3, 4, 5] [] [0, 1, 2, 3, 21] (m2 := [(0, .int .i64 a0), (1, .int .i64 a1), (2, .int .i64 a2), (3, .int .i64 a3), (21, .bool (decide (a0 ≤ 4096)))]) (by kernel_rfl) (by kernel_rfl) ?_
    exact OJ.nil ⟨(Cov.mem Cov.nil), rfl, _, rfl, by kernel_rfl⟩
  · refine OJ.run [3, 4, 5] [] [0, 1, 2, 3, 21] (m2 := [(0, .int .i64 a0), (1, .int .i64 a1), (2, .int .i64 a2), (3, .int .i64 a3), (21, .bool false)]) (by kernel_rfl) (by kernel_rfl) ?_
    exact OJ.nil ⟨(Cov.mem Cov.nil), rfl, _, rfl, by kernel_rfl⟩
  · refine OJ.run [6] [7, 8, 9, 10, 11, 12, 13, 14, 15, 16, 17, 18, 19, 20, 21, 22, 23, 24, 25, 26, 27, 28, 29, 30, 31, 32, 33, 34, 35, 36] [0, 1, 2, 3, 22] (m2 := [(0, .int .i64 a0), (1, .int .i64 a1), (2, .int .i64 a2), (3, .int .i64 a3), (22, .bool y1)]) (by kernel_rfl) (by kernel_rfl) ?_
    refine OJ.join (b := y1) [7, 8, 9] [10, 11, 12, 13, 14, 15, 16, 17, 18, 19, 20, 21, 22, 23, 24, 25, 26, 27, 28, 29, 30, 31, 32, 33, 34, 35, 36] [0, 1, 2, 3, 25] (fun y2 => [(0, .int .i64 a0), (1, .int .i64 a1), (2, .int .i64 a2), (3, .int .i64 a3), (25, .bool y2)]) [] [] (by kernel_rfl) (t := 22) (by kernel_rfl) Iff.rfl (fun hp_ => ?_) (fun hp_ => ?_) (by kernel_rfl) (fun _ _ _ _ _ _ h_ => h_) (fun y2 => ?_)
    · refine OJ.run [7, 8, 9] [] [0, 1, 2, 3, 25] (m2 := [(0, .int .i64 a0), (1, .int .i64 a1), (2, .int .i64 a2), (3, .int .i64 a3), (25, .bool (decide (a1 ≥ 1)))]) (by kernel_rfl) (by kernel_rfl) ?_
      exact OJ.nil ⟨(Cov.mem Cov.nil), rfl, _, rfl, by kernel_rfl⟩
    · refine OJ.run [7, 8, 9] [] [0, 1, 2, 3, 25] (m2 := [(0, .int .i64 a0), (1, .int .i64 a1), (2, .int .i64 a2), (3, .int .i64 a3), (25, .bool false)]) (by kernel_rfl) (by kernel_rfl) ?_
      exact OJ.nil ⟨(Cov.mem Cov.nil), rfl, _, rfl, by kernel_rfl⟩
    · refine OJ.run [10] [11, 12, 13, 14, 15, 16, 17, 18, 19, 20, 21, 22, 23, 24, 25, 26, 27, 28, 29, 30, 31, 32, 33, 34, 35, 36] [0, 1, 2, 3, 26] (m2 := [(0, .int .i64 a0), (1, .int .i64 a1), (2, .int .i64 a2), (3, .int .i64 a3), (26, .bool y2)]) (by kernel_rfl) (by kernel_rfl) ?_
      refine OJ.join (b := y2) [11, 12, 13] [14, 15, 16, 17, 18, 19, 20, 21, 22, 23, 24, 25, 26, 27, 28, 29, 30, 31, 32, 33, 34, 35, 36] [0, 1, 2, 3, 29] (fun y3 => [(0, .int .i64 a0), (1, .int .i64 a1), (2, .int .i64 a2), (3, .int .i64 a3), (29, .bool y3)]) [] [] (by kernel_rfl) (t := 26) (by kernel_rfl) Iff.rfl (fun hp_ => ?_) (fun hp_ => ?_) (by kernel_rfl) (fun _ _ _ _ _ _ h_ => h_) (fun y3 => ?_)
      · refine OJ.run [11, 12, 13] [] [0, 1, 2, 3, 29] (m2 := [(0, .int .i64 a0), (1, .int .i64 a1), (2, .int .i64 a2), (3, .int .i64 a3), (29, .bool (decide (a1 ≤ 4096)))]) (by kernel_rfl) (by kernel_rfl) ?_
        exact OJ.nil ⟨(Cov.mem Cov.nil), rfl, _, rfl, by kernel_rfl⟩
      · refine OJ.run [11, 12, 13] [] [0, 1, 2, 3, 29] (m2 := [(0, .int .i64 a0), (1, .int .i64 a1), (2, .int .i64 a2), (3, .int .i64 a3), (29, .bool false)]) (by kernel_rfl) (by kernel_rfl) ?_
        exact OJ.nil ⟨(Cov.mem Cov.nil), rfl, _, rfl, by kernel_rfl⟩
      · refine OJ.run [14] [15, 16, 17, 18, 19, 20, 21, 22, 23, 24, 25, 26, 27, 28, 29, 30, 31, 32, 33, 34, 35, 36] [0, 1, 2, 3, 30] (m2 := [(0, .int .i64 a0), (1, .int .i64 a1), (2, .int .i64 a2), (3, .int .i64 a3), (30, .bool y3)]) (by kernel_rfl) (by kernel_rfl) ?_
        refine OJ.join (b := y3) [15, 16, 17] [18, 19, 20, 21, 22, 23, 24, 25, 26, 27, 28, 29, 30, 31, 32, 33, 34, 35, 36] [0, 1, 2, 3, 33] (fun y4 => [(0, .int .i64 a0), (1, .int .i64 a1), (2, .int .i64 a2), (3, .int .i64 a3), (33, .bool y4)]) [] [] (by kernel_rfl) (t := 30) (by kernel_rfl) Iff.rfl (fun hp_ => ?_) (fun hp_ => ?_) (by kernel_rfl) (fun _ _ _ _ _ _ h_ => h_) (fun y4 => ?_)
        · refine OJ.run [15, 16, 17] [] [0, 1, 2, 3, 33] (m2 := [(0, .int .i64 a0), (1, .int .i64 a1), (2, .int .i64 a2), (3, .int .i64 a3), (33, .bool (decide (a2 ≥ 1)))]) (by kernel_rfl) (by kernel_rfl) ?_
          exact OJ.nil ⟨(Cov.mem Cov.nil), rfl, _, rfl, by kernel_rfl⟩
        · refine OJ.run [15, 16, 17] [] [0, 1, 2, 3, 33] (m2 := [(0, .int .i64 a0), (1, .int .i64 a1), (2, .int .i64 a2), (3, .int .i64 a3), (33, .bool false)]) (by kernel_rfl) (by kernel_rfl) ?_
          exact OJ.nil ⟨(Cov.mem Cov.nil), rfl, _, rfl, by kernel_rfl⟩
        · refine OJ.run [18] [19, 20, 21, 22, 23, 24, 25, 26, 27, 28, 29, 30, 31, 32, 33, 34, 35, 36] [0, 1, 2, 3, 34] (m2 := [(0, .int .i64 a0), (1, .int .i64 a1), (2, .int .i64 a2), (3, .int .i64 a3), (34, .bool y4)]) (by kernel_rfl) (by kernel_rfl) ?_
          refine OJ.join (b := y4) [19, 20, 21] [22, 23, 24, 25, 26, 27, 28, 29, 30, 31, 32, 33, 34, 35, 36] [0, 1, 2, 3, 37] (fun y5 => [(0, .int .i64 a0), (1, .int .i64 a1), (2, .int .i64 a2), (3, .int .i64 a3), (37, .bool y5)]) [] [] (by kernel_rfl) (t := 34) (by kernel_rfl) Iff.rfl (fun hp_ => ?_) (fun hp_ => ?_) (by kernel_rfl) (fun _ _ _ _ _ _ h_ => h_) (fun y5 => ?_)
          · refine OJ.run [19, 20, 21] [] [0, 1, 2, 3, 37] (m2 := [(0, .int .i64 a0), (1, .int .i64 a1), (2, .int .i64 a2), (3, .int .i64 a3), (37, .bool (decide (a2 ≤ 8192)))]) (by kernel_rfl) (by kernel_rfl) ?_
            exact OJ.nil ⟨(Cov.mem Cov.nil), rfl, _, rfl, by kernel_rfl⟩
          · refine OJ.run [19, 20, 21] [] [0, 1, 2, 3, 37] (m2 := [(0, .int .i64 a0), (1, .int .i64 a1), (2, .int .i64 a2), (3, .int .i64 a3), (37, .bool false)]) (by kernel_rfl) (by kernel_rfl) ?_
            exact OJ.nil ⟨(Cov.mem Cov.nil), rfl, _, rfl, by kernel_rfl⟩
          · refine OJ.run [22] [23, 24, 25, 26, 27, 28, 29, 30, 31, 32, 33, 34, 35, 36] [0, 1, 2, 3, 38] (m2 := [(0, .int .i64 a0), (1, .int .i64 a1), (2, .int .i64 a2), (3, .int .i64 a3), (38, .bool y5)]) (by kernel_rfl) (by kernel_rfl) ?_
            refine OJ.join (b := y5) [23, 24, 25] [26, 27, 28, 29, 30, 31, 32, 33, 34, 35, 36] [0, 1, 2, 3, 41] (fun y6 => [(0, .int .i64 a0), (1, .int .i64 a1), (2, .int .i64 a2), (3, .int .i64 a3), (41, .bool y6)]) [] [] (by kernel_rfl) (t := 38) (by kernel_rfl) Iff.rfl (fun hp_ => ?_) (fun hp_ => ?_) (by kernel_rfl) (fun _ _ _ _ _ _ h_ => h_) (fun y6 => ?_)
            · refine OJ.run [23, 24, 25] [] [0, 1, 2, 3, 41] (m2 := [(0, .int .i64 a0), (1, .int .i64 a1), (2, .int .i64 a2), (3, .int .i64 a3), (41, .bool (decide (a3 ≥ 64)))]) (by kernel_rfl) (by kernel_rfl) ?_
              exact OJ.nil ⟨(Cov.mem Cov.nil), rfl, _, rfl, by kernel_rfl⟩
            · refine OJ.run [23, 24, 25] [] [0, 1, 2, 3, 41] (m2 := [(0, .int .i64 a0), (1, .int .i64 a1), (2, .int .i64 a2), (3, .int .i64 a3), (41, .bool false)]) (by kernel_rfl) (by kernel_rfl) ?_
              exact OJ.nil ⟨(Cov.mem Cov.nil), rfl, _, rfl, by kernel_rfl⟩
            · refine OJ.run [26] [27, 28, 29, 30, 31, 32, 33, 34, 35, 36] [0, 1, 2, 3, 42] (m2 := [(0, .int .i64 a0), (1, .int .i64 a1), (2, .int .i64 a2), (3, .int .i64 a3), (42, .bool y6)]) (by kernel_rfl) (by kernel_rfl) ?_
              refine OJ.join (b := y6) [27, 28, 29] [30, 31, 32, 33, 34, 35, 36] [0, 1, 2, 3, 45] (fun y7 => [(0, .int .i64 a0), (1, .int .i64 a1), (2, .int .i64 a2), (3, .int .i64 a3), (45, .bool y7)]) [] [] (by kernel_rfl) (t := 42) (by kernel_rfl) Iff.rfl (fun hp_ => ?_) (fun hp_ => ?_) (by kernel_rfl) (fun _ _ _ _ _ _ h_ => h_) (fun y7 => ?_)
              · refine OJ.run [27, 28, 29] [] [0, 1, 2, 3, 45] (m2 := [(0, .int .i64 a0), (1, .int .i64 a1), (2, .int .i64 a2), (3, .int .i64 a3), (45, .bool (decide (a3 ≤ 65535)))]) (by kernel_rfl) (by kernel_rfl) ?_
                exact OJ.nil ⟨(Cov.mem Cov.nil), rfl, _, rfl, by kernel_rfl⟩
              · refine OJ.run [27, 28, 29] [] [0, 1, 2, 3, 45] (m2 := [(0, .int .i64 a0), (1, .int .i64 a1), (2, .int .i64 a2), (3, .int .i64 a3), (45, .bool false)]) (by kernel_rfl) (by kernel_rfl) ?_
                exact OJ.nil ⟨(Cov.mem Cov.nil), rfl, _, rfl, by kernel_rfl⟩
              · refine OJ.run [30] [31, 32, 33, 34, 35, 36] [0, 1, 2, 3, 46] (m2 := [(0, .int .i64 a0), (1, .int .i64 a1), (2, .int .i64 a2), (3, .int .i64 a3), (46, .bool y7)]) (by kernel_rfl) (by kernel_rfl) ?_
                refine OJ.join (b := y7) [31, 32, 33, 34, 35] [36] [0, 1, 2, 3, 51] (fun y8 => [(0, .int .i64 a0), (1, .int .i64 a1), (2, .int .i64 a2), (3, .int .i64 a3), (51, .bool y8)]) [] [] (by kernel_rfl) (t := 46) (by kernel_rfl) Iff.rfl (fun hp_ => ?_) (fun hp_ => ?_) (by kernel_rfl) (fun _ _ _ _ _ _ h_ => h_) (fun y8 => ?_)
                · refine OJ.run [31, 32, 33, 34, 35] [] [0, 1, 2, 3, 51] (m2 := [(0, .int .i64 a0), (1, .int .i64 a1), (2, .int .i64 a2), (3, .int .i64 a3), (51, .bool (decide ((IntKind.wrap .i64 (a2 * a3)) ≤ 4000000)))]) (by kernel_rfl) (by kernel_rfl) ?_
                  exact OJ.nil ⟨(Cov.mem Cov.nil), rfl, _, rfl, by kernel_rfl⟩
                · refine OJ.run [31, 32, 33, 34, 35] [] [0, 1, 2, 3, 51] (m2 := [(0, .int .i64 a0), (1, .int .i64 a1), (2, .int .i64 a2), (3, .int .i64 a3), (51, .bool false)]) (by kernel_rfl) (by kernel_rfl) ?_
                  exact OJ.nil ⟨(Cov.mem Cov.nil), rfl, _, rfl, by kernel_rfl⟩
                · refine OJ.run [36] [] [0, 1, 2, 3, 13] (m2 := [(0, .int .i64 a0), (1, .int .i64 a1), (2, .int .i64 a2), (3, .int .i64 a3), (13, .bool y8)]) (by kernel_rfl) (by kernel_rfl) ?_
                  refine OJ.nil ?_
                  refine SJ.seq (by kernel_rfl) ?_
                  refine SJ.seq (by kernel_rfl) ?_
                  refine SJ.region (id := 2) (by kernel_rfl) [0, 1] (by kernel_rfl) ?_
                  refine OJ.run [0, 1] [] [0, 1, 2, 3, 53] (m2 := [(0, .int .i64 a0), (1, .int .i64 a1), (2, .int .i64 a2), (3, .int .i64 a3), (53, .bool (!y8))]) (by kernel_rfl) (by kernel_rfl) ?_
                  refine OJ.nil ?_
                  refine SJ.cond (t := (.tmp 53)) (b := (!y8)) (by kernel_rfl) (by kernel_rfl) (bnot_iff Iff.rfl) (fun hc15 => ?_) (fun hc15 => ?_)
                  · refine SJ.seq (by kernel_rfl) ?_
                    refine SJ.region (id := 3) (by kernel_rfl) [0] (by kernel_rfl) ?_
                    refine OJ.run [0] [] [0] (m2 := [(0, .int .i64 2)]) (by kernel_rfl) (by kernel_rfl) ?_
                    refine OJ.nil ?_
                    refine SJ.seq (by kernel_rfl) ?_
                    refine SJ.region (id := 4) (by kernel_rfl) [0] (by kernel_rfl) ?_
                    refine OJ.run [0] [] [0, 1] (m2 := [(0, .int .i64 2), (1, .int .i64 2)]) (by kernel_rfl) (by kernel_rfl) ?_
                    refine OJ.nil ?_
                    refine SJ.seq (by kernel_rfl) ?_
                    refine SJ.region (id := 5) (by kernel_rfl) [0] (by kernel_rfl) ?_
                    refine OJ.run [0] [] [0, 1, 2] (m2 := [(0, .int .i64 2), (1, .int .i64 2), (2, .int .i64 3)]) (by kernel_rfl) (by kernel_rfl) ?_
                    refine OJ.nil ?_
                    refine SJ.region (id := 6) (by kernel_rfl) [0] (by kernel_rfl) ?_
                    refine OJ.run [0] [] [0, 1, 2, 3] (m2 := [(0, .int .i64 2), (1, .int .i64 2), (2, .int .i64 3), (3, .int .i64 64)]) (by kernel_rfl) (by kernel_rfl) ?_
                    refine OJ.nil ?_
                    refine SJ.seq (by kernel_rfl) ?_
                    refine SJ.region (id := 7) (by kernel_rfl) [0, 1, 2, 3, 4, 5, 6, 7, 8, 9] (by kernel_rfl) ?_
                    refine OJ.run [0, 1, 2, 3] [4, 5, 6, 7, 8, 9] [0, 1, 2, 3, 55, 56, 57, 58] (m2 := [(0, .int .i64 2), (1, .int .i64 2), (2, .int .i64 3), (3, .int .i64 64), (55, .int .i64 2), (56, .int .i64 2), (57, .int .i64 3), (58, .int .i64 64)]) (by kernel_rfl) (by kernel_rfl) ?_
                    refine OJ.call (d := 59) (g := 13) (ats := #[3, 3, 3, 3]) (args := [.tmp 55, .tmp 56, .tmp 57, .tmp 58]) (vals := [.int .i64 2, .int .i64 2, .int .i64 3, .int .i64 64]) (owed := []) (by kernel_rfl) F13 (by kernel_rfl) (ring_New_ok 2 2 3 64) (by kernel_rfl) (by kernel_rfl) (by kernel_rfl) (fun r9 => ?_)
                    refine OW.nil ?_
                    refine OJ.run [5, 6, 7, 8, 9] [] [0, 1, 2, 3, 14, 15] (m2 := [(0, .int .i64 2), (1, .int .i64 2), (2, .int .i64 3), (3, .int .i64 64), (14, .pointer r9.1), (15, .int .i64 r9.2)]) (by kernel_rfl) (by kernel_rfl) ?_
                    refine OJ.nil ?_
                    refine SJ.seq (by kernel_rfl) ?_
                    refine SJ.seq (by kernel_rfl) ?_
                    refine SJ.region (id := 8) (by kernel_rfl) [0, 1, 2] (by kernel_rfl) ?_
                    refine OJ.run [0] [1, 2] [0, 1, 2, 3, 14, 62] (m2 := [(0, .int .i64 2), (1, .int .i64 2), (2, .int .i64 3), (3, .int .i64 64), (14, .pointer r9.1), (62, .int .i64 r9.2)]) (by kernel_rfl) (by kernel_rfl) ?_
                    refine OJ.call (d := 63) (g := 14) (ats := #[24]) (args := [.tmp 62]) (vals := [.int .i64 r9.2]) (owed := []) (by kernel_rfl) F14 (by kernel_rfl) (weirlaw3_num_ok r9.2) (by kernel_rfl) (by kernel_rfl) (by kernel_rfl) (fun r10 => ?_)
                    refine OW.nil ?_
                    refine OJ.run [2] [] [0, 1, 2, 3, 14, 64] (m2 := [(0, .int .i64 2), (1, .int .i64 2), (2, .int .i64 3), (3, .int .i64 64), (14, .pointer r9.1), (64, .bool (r10 != 0))]) (by kernel_rfl) (by kernel_rfl) ?_
                    refine OJ.nil ?_
                    refine SJ.cond (t := (.tmp 64)) (b := (r10 != 0)) (by kernel_rfl) (by kernel_rfl) bne_iff_ne (fun hc11 => ?_) (fun hc11 => ?_)
                    · refine SJ.seq (by kernel_rfl) ?_
                      refine SJ.region (id := 9) (by kernel_rfl) [0, 1, 2, 3, 4] (by kernel_rfl) ?_
                      refine OJ.run [0, 1, 2, 3, 4] [] [8, 9, 10, 11, 12] (m2 := [(8, .pointer none), (9, .int .i64 0), (10, .int .i64 0), (11, .int .i64 0), (12, .int .i64 0)]) (by kernel_rfl) (by kernel_rfl) ?_
                      refine OJ.nil ?_
                      exact SJ.ret (by kernel_rfl) rfl (Res.run (ys := [.pointer none, .int .i64 0, .int .i64 0, .int .i64 0, .int .i64 0]) (.tmp (by kernel_rfl) (.tmp (by kernel_rfl) (.tmp (by kernel_rfl) (.tmp (by kernel_rfl) (.tmp (by kernel_rfl) .nil))))) rfl)
                    · refine SJ.skip (by kernel_rfl) ?_
                      refine SJ.seq (by kernel_rfl) ?_
                      refine SJ.region (id := 10) (by kernel_rfl) [0, 1, 2, 3, 4, 5, 6, 7, 8, 9] (by kernel_rfl) ?_
                      refine OJ.run [0, 1, 2, 3, 4, 5, 6, 7, 8, 9] [] [8, 9, 10, 11, 12] (m2 := [(8, .pointer r9.1), (9, .int .i64 2), (10, .int .i64 2), (11, .int .i64 3), (12, .int .i64 64)]) (by kernel_rfl) (by kernel_rfl) ?_
                      refine OJ.nil ?_
                      exact SJ.ret (by kernel_rfl) rfl (Res.run (ys := [.pointer r9.1, .int .i64 2, .int .i64 2, .int .i64 3, .int .i64 64]) (.tmp (by kernel_rfl) (.tmp (by kernel_rfl) (.tmp (by kernel_rfl) (.tmp (by kernel_rfl) (.tmp (by kernel_rfl) .nil))))) rfl)
                  · refine SJ.skip (by kernel_rfl) ?_
                    refine SJ.seq (by kernel_rfl) ?_
                    refine SJ.region (id := 7) (by kernel_rfl) [0, 1, 2, 3, 4, 5, 6, 7, 8, 9] (by kernel_rfl) ?_
                    refine OJ.run [0, 1, 2, 3] [4, 5, 6, 7, 8, 9] [0, 1, 2, 3, 55, 56, 57, 58] (m2 := [(0, .int .i64 a0), (1, .int .i64 a1), (2, .int .i64 a2), (3, .int .i64 a3), (55, .int .i64 a0), (56, .int .i64 a1), (57, .int .i64 a2), (58, .int .i64 a3)]) (by kernel_rfl) (by kernel_rfl) ?_
                    refine OJ.call (d := 59) (g := 13) (ats := #[3, 3, 3, 3]) (args := [.tmp 55, .tmp 56, .tmp 57, .tmp 58]) (vals := [.int .i64 a0, .int .i64 a1, .int .i64 a2, .int .i64 a3]) (owed := []) (by kernel_rfl) F13 (by kernel_rfl) (ring_New_ok a0 a1 a2 a3) (by kernel_rfl) (by kernel_rfl) (by kernel_rfl) (fun r12 => ?_)
                    refine OW.nil ?_
                    refine OJ.run [5, 6, 7, 8, 9] [] [0, 1, 2, 3, 14, 15] (m2 := [(0, .int .i64 a0), (1, .int .i64 a1), (2, .int .i64 a2), (3, .int .i64 a3), (14, .pointer r12.1), (15, .int .i64 r12.2)]) (by kernel_rfl) (by kernel_rfl) ?_
                    refine OJ.nil ?_
                    refine SJ.seq (by kernel_rfl) ?_
                    refine SJ.seq (by kernel_rfl) ?_
                    refine SJ.region (id := 8) (by kernel_rfl) [0, 1, 2] (by kernel_rfl) ?_
                    refine OJ.run [0] [1, 2] [0, 1, 2, 3, 14, 62] (m2 := [(0, .int .i64 a0), (1, .int .i64 a1), (2, .int .i64 a2), (3, .int .i64 a3), (14, .pointer r12.1), (62, .int .i64 r12.2)]) (by kernel_rfl) (by kernel_rfl) ?_
                    refine OJ.call (d := 63) (g := 14) (ats := #[24]) (args := [.tmp 62]) (vals := [.int .i64 r12.2]) (owed := []) (by kernel_rfl) F14 (by kernel_rfl) (weirlaw3_num_ok r12.2) (by kernel_rfl) (by kernel_rfl) (by kernel_rfl) (fun r13 => ?_)
                    refine OW.nil ?_
                    refine OJ.run [2] [] [0, 1, 2, 3, 14, 64] (m2 := [(0, .int .i64 a0), (1, .int .i64 a1), (2, .int .i64 a2), (3, .int .i64 a3), (14, .pointer r12.1), (64, .bool (r13 != 0))]) (by kernel_rfl) (by kernel_rfl) ?_
                    refine OJ.nil ?_
                    refine SJ.cond (t := (.tmp 64)) (b := (r13 != 0)) (by kernel_rfl) (by kernel_rfl) bne_iff_ne (fun hc14 => ?_) (fun hc14 => ?_)
                    · refine SJ.seq (by kernel_rfl) ?_
                      refine SJ.region (id := 9) (by kernel_rfl) [0, 1, 2, 3, 4] (by kernel_rfl) ?_
                      refine OJ.run [0, 1, 2, 3, 4] [] [8, 9, 10, 11, 12] (m2 := [(8, .pointer none), (9, .int .i64 0), (10, .int .i64 0), (11, .int .i64 0), (12, .int .i64 0)]) (by kernel_rfl) (by kernel_rfl) ?_
                      refine OJ.nil ?_
                      exact SJ.ret (by kernel_rfl) rfl (Res.run (ys := [.pointer none, .int .i64 0, .int .i64 0, .int .i64 0, .int .i64 0]) (.tmp (by kernel_rfl) (.tmp (by kernel_rfl) (.tmp (by kernel_rfl) (.tmp (by kernel_rfl) (.tmp (by kernel_rfl) .nil))))) rfl)
                    · refine SJ.skip (by kernel_rfl) ?_
                      refine SJ.seq (by kernel_rfl) ?_
                      refine SJ.region (id := 10) (by kernel_rfl) [0, 1, 2, 3, 4, 5, 6, 7, 8, 9] (by kernel_rfl) ?_
                      refine OJ.run [0, 1, 2, 3, 4, 5, 6, 7, 8, 9] [] [8, 9, 10, 11, 12] (m2 := [(8, .pointer r12.1), (9, .int .i64 a0), (10, .int .i64 a1), (11, .int .i64 a2), (12, .int .i64 a3)]) (by kernel_rfl) (by kernel_rfl) ?_
                      refine OJ.nil ?_
                      exact SJ.ret (by kernel_rfl) rfl (Res.run (ys := [.pointer r12.1, .int .i64 a0, .int .i64 a1, .int .i64 a2, .int .i64 a3]) (.tmp (by kernel_rfl) (.tmp (by kernel_rfl) (.tmp (by kernel_rfl) (.tmp (by kernel_rfl) (.tmp (by kernel_rfl) .nil))))) rfl)

/-! ### (*weir/ring.Port).Stat: function 27 -/
noncomputable def ring_Port_Stat.B : Code := (Try.f27.body).getD .skip
noncomputable def ring_Port_Stat.cx : Fx := ⟨Try.prog, 27, Try.f27⟩
noncomputable def ring_Port_Stat.out (r_ : api_RingStat) : Value := c_api_RingStat.val r_
noncomputable def ring_Port_Stat.F0 (r_ : api_RingStat) : Reach := .ret (ring_Port_Stat.out r_)
noncomputable def ring_Port_Stat.K1 (s6 : (Vec Int 6)) : M api_RingStat :=
  pure (⟨(Vec.g s6 1 0), (Vec.g s6 2 0), (Vec.g s6 3 0), (Vec.g s6 4 0), (Vec.g s6 5 0)⟩ : api_RingStat)
theorem ring_Port_Stat.K1_ok (b1 : Nat) (b2 : Nat) (s6 : (Vec Int 6)) :
    SJ ring_Port_Stat.cx [.code (c2 (c2 (c2 ring_Port_Stat.B)))] [(2, .pointer (some (pt b1 0))), (3, .pointer (some (pt b2 0)))] [(b2, ((cI .i64).arr 6).enc s6), (b1, c_api_RingStat.enc z_api_RingStat)] (ring_Port_Stat.K1 s6) ring_Port_Stat.F0 := by
  unfold ring_Port_Stat.K1
  refine SJ.seq (by kernel_rfl) ?_
  refine SJ.region (id := 7) (by kernel_rfl) [0, 1, 2, 3, 4, 5, 6, 7, 8, 9, 10, 11] (by kernel_rfl) ?_
  refine OJ.run [0] [1, 2, 3, 4, 5, 6, 7, 8, 9, 10, 11] [2, 3, 21] (m2 := [(2, .pointer (some (pt b1 0))), (3, .pointer (some (pt b2 0))), (21, .pointer (some (pt b2 1)))]) (by kernel_rfl) (by kernel_rfl) ?_
  refine OJ.kld (d := 22) (T := 3) (y := .tmp 21) (cd := (cI .i64)) (j := 0) (b := b2) (o := 1) (Vec.g s6 1 0) (pend2 := []) (by kernel_rfl) (by kernel_rfl) Ty3 (by kernel_rfl) rfl (At.zero (At.arr (z := 0) (by decide) (by decide))) (by kernel_rfl) rfl ?_
  refine OJ.run [2] [3, 4, 5, 6, 7, 8, 9, 10, 11] [2, 3, 22, 23] (m2 := [(2, .pointer (some (pt b1 0))), (3, .pointer (some (pt b2 0))), (22, .int .i64 (Vec.g s6 1 0)), (23, .pointer (some (pt b2 2)))]) (by kernel_rfl) (by kernel_rfl) ?_
  refine OJ.kld (d := 24) (T := 3) (y := .tmp 23) (cd := (cI .i64)) (j := 0) (b := b2) (o := 2) (Vec.g s6 2 0) (pend2 := []) (by kernel_rfl) (by kernel_rfl) Ty3 (by kernel_rfl) rfl (At.zero (At.arr (z := 0) (by decide) (by decide))) (by kernel_rfl) rfl ?_
  refine OJ.run [4] [5, 6, 7, 8, 9, 10, 11] [2, 3, 22, 24, 25] (m2 := [(2, .pointer (some (pt b1 0))), (3, .pointer (some (pt b2 0))), (22, .int .i64 (Vec.g s6 1 0)), (24, .int .i64 (Vec.g s6 2 0)), (25, .pointer (some (pt b2 3)))]) (by kernel_rfl) (by kernel_rfl) ?_
  refine OJ.kld (d := 26) (T := 3) (y := .tmp 25) (cd := (cI .i64)) (j := 0) (b := b2) (o := 3) (Vec.g s6 3 0) (pend2 := []) (by kernel_rfl) (by kernel_rfl) Ty3 (by kernel_rfl) rfl (At.zero (At.arr (z := 0) (by decide) (by decide))) (by kernel_rfl) rfl ?_
  refine OJ.run [6] [7, 8, 9, 10, 11] [2, 3, 22, 24, 26, 27] (m2 := [(2, .pointer (some (pt b1 0))), (3, .pointer (some (pt b2 0))), (22, .int .i64 (Vec.g s6 1 0)), (24, .int .i64 (Vec.g s6 2 0)), (26, .int .i64 (Vec.g s6 3 0)), (27, .pointer (some (pt b2 4)))]) (by kernel_rfl) (by kernel_rfl) ?_
  refine OJ.kld (d := 28) (T := 3) (y := .tmp 27) (cd := (cI .i64)) (j := 0) (b := b2) (o := 4) (Vec.g s6 4 0) (pend2 := []) (by kernel_rfl) (by kernel_rfl) Ty3 (by kernel_rfl) rfl (At.zero (At.arr (z := 0) (by decide) (by decide))) (by kernel_rfl) rfl ?_
  refine OJ.run [8] [9, 10, 11] [2, 22, 24, 26, 28, 29] (m2 := [(2, .pointer (some (pt b1 0))), (22, .int .i64 (Vec.g s6 1 0)), (24, .int .i64 (Vec.g s6 2 0)), (26, .int .i64 (Vec.g s6 3 0)), (28, .int .i64 (Vec.g s6 4 0)), (29, .pointer (some (pt b2 5)))]) (by kernel_rfl) (by kernel_rfl) ?_
  refine OJ.kld (d := 30) (T := 3) (y := .tmp 29) (cd := (cI .i64)) (j := 0) (b := b2) (o := 5) (Vec.g s6 5 0) (pend2 := []) (by kernel_rfl) (by kernel_rfl) Ty3 (by kernel_rfl) rfl (At.zero (At.arr (z := 0) (by decide) (by decide))) (by kernel_rfl) rfl ?_
  refine OJ.build (d := 31) (T := 52) (parts := [(0, .tmp 22), (1, .tmp 24), (2, .tmp 26), (3, .tmp 28), (4, .tmp 30)]) (ps := [(0, (cI .i64).val (Vec.g s6 1 0)), (1, (cI .i64).val (Vec.g s6 2 0)), (2, (cI .i64).val (Vec.g s6 3 0)), (3, (cI .i64).val (Vec.g s6 4 0)), (4, (cI .i64).val (Vec.g s6 5 0))]) (cd := c_api_RingStat) (z0 := z_api_RingStat) (⟨(Vec.g s6 1 0), (Vec.g s6 2 0), (Vec.g s6 3 0), (Vec.g s6 4 0), (Vec.g s6 5 0)⟩ : api_RingStat) (by kernel_rfl) (by kernel_rfl) Ty52 rfl (by kernel_rfl) (Filled.cons (cd := (cI .i64)) (q := (Vec.g s6 1 0)) (o := 0) (by kernel_rfl) (Up_api_RingStat_Free z_api_RingStat (Vec.g s6 1 0)) (Filled.cons (cd := (cI .i64)) (q := (Vec.g s6 2 0)) (o := 1) (by kernel_rfl) (Up_api_RingStat_Posted (⟨(Vec.g s6 1 0), z_api_RingStat.Posted, z_api_RingStat.Filled, z_api_RingStat.Held, z_api_RingStat.Queued⟩ : api_RingStat) (Vec.g s6 2 0)) (Filled.cons (cd := (cI .i64)) (q := (Vec.g s6 3 0)) (o := 2) (by kernel_rfl) (Up_api_RingStat_Filled (⟨(Vec.g s6 1 0), (Vec.g s6 2 0), z_api_RingStat.Filled, z_api_RingStat.Held, z_api_RingStat.Queued⟩ : api_RingStat) (Vec.g s6 3 0)) (Filled.cons (cd := (cI .i64)) (q := (Vec.g s6 4 0)) (o := 3) (by kernel_rfl) (Up_api_RingStat_Held (⟨(Vec.g s6 1 0), (Vec.g s6 2 0), (Vec.g s6 3 0), z_api_RingStat.Held, z_api_RingStat.Queued⟩ : api_RingStat) (Vec.g s6 4 0)) (Filled.cons (cd := (cI .i64)) (q := (Vec.g s6 5 0)) (o := 4) (by kernel_rfl) (Up_api_RingStat_Queued (⟨(Vec.g s6 1 0), (Vec.g s6 2 0), (Vec.g s6 3 0), (Vec.g s6 4 0), z_api_RingStat.Queued⟩ : api_RingStat) (Vec.g s6 5 0)) Filled.nil))))) (by kernel_rfl) (by kernel_rfl) (by kernel_rfl) ?_
  refine OJ.kst (T := 52) (y := .tmp 2) (z := .tmp 31) (cd := c_api_RingStat) (u := (⟨(Vec.g s6 1 0), (Vec.g s6 2 0), (Vec.g s6 3 0), (Vec.g s6 4 0), (Vec.g s6 5 0)⟩ : api_RingStat)) (j := 1) (b := b1) (o := 0) (c_api_RingStat.enc (⟨(Vec.g s6 1 0), (Vec.g s6 2 0), (Vec.g s6 3 0), (Vec.g s6 4 0), (Vec.g s6 5 0)⟩ : api_RingStat)) (h2 := [(b2, ((cI .i64).arr 6).enc s6), (b1, c_api_RingStat.enc (⟨(Vec.g s6 1 0), (Vec.g s6 2 0), (Vec.g s6 3 0), (Vec.g s6 4 0), (Vec.g s6 5 0)⟩ : api_RingStat))]) (owed := []) (by kernel_rfl) (by kernel_rfl) (by kernel_rfl) Ty52 rfl (Upd.whole ((Cod.len _ _).trans (Cod.len _ _).symm)) (by kernel_rfl) (by kernel_rfl) rfl ?_
  refine OW.nil ?_
  refine OJ.nil ?_
  exact SJ.ret (by kernel_rfl) rfl (Res.run (ys := [c_api_RingStat.val (⟨(Vec.g s6 1 0), (Vec.g s6 2 0), (Vec.g s6 3 0), (Vec.g s6 4 0), (Vec.g s6 5 0)⟩ : api_RingStat)]) (.cell (j := 1) (b := b1) (cd := c_api_RingStat) (q := (⟨(Vec.g s6 1 0), (Vec.g s6 2 0), (Vec.g s6 3 0), (Vec.g s6 4 0), (Vec.g s6 5 0)⟩ : api_RingStat)) (by kernel_rfl) rfl Ty52 (At.whole _) .nil) rfl)
noncomputable def ring_Port_Stat.F1 (b1 : Nat) (b2 : Nat) (x4 : Sl) : (LS (Int × (Vec Int 6)) api_RingStat) → Reach := loopF [.inLoop (c1 (c1 (c2 (c1 (c2 (c2 ring_Port_Stat.B)))))), .inBlock 0, .code (c2 (c2 (c2 ring_Port_Stat.B)))] (fun s_ : (Int × (Vec Int 6)) => [(2, .pointer (some (pt b1 0))), (3, .pointer (some (pt b2 0))), (9, Sl.v x4), (10, .int .i64 (x4.len : Int)), (11, .int .i64 s_.1)]) (fun s_ : (Int × (Vec Int 6)) => [(b2, ((cI .i64).arr 6).enc s_.2), (b1, c_api_RingStat.enc z_api_RingStat)]) ring_Port_Stat.F0
noncomputable def ring_Port_Stat.L1 (x4 : Sl) (s5 : Int) (s6 : (Vec Int 6)) : M (LS (Int × (Vec Int 6)) api_RingStat) :=
  if s5 < (x4.len : Int) then
    idx x4.a x4.len s5 1 >>= fun p14 =>
    ld (cI .i64) p14 >>= fun x15 =>
    chk (0 ≤ x15 ∧ x15 < (6 : Nat)) >>= fun _ =>
    chk (0 ≤ x15 ∧ x15 < (6 : Nat)) >>= fun _ =>
    pure (LS.next (IntKind.wrap .i64 (s5 + 1), (Vec.s s6 x15 (IntKind.wrap .i64 ((Vec.g s6 x15 0) + 1)))))
  else
    (ring_Port_Stat.K1 s6) >>= fun b => pure (LS.done b)
theorem ring_Port_Stat.L1_ok (b1 : Nat) (b2 : Nat) (x4 : Sl) (s5 : Int) (s6 : (Vec Int 6)) :
    SJ ring_Port_Stat.cx [.code (c1 (c1 (c2 (c1 (c2 (c2 ring_Port_Stat.B)))))), .inLoop (c1 (c1 (c2 (c1 (c2 (c2 ring_Port_Stat.B)))))), .inBlock 0, .code (c2 (c2 (c2 ring_Port_Stat.B)))] [(2, .pointer (some (pt b1 0))), (3, .pointer (some (pt b2 0))), (9, Sl.v x4), (10, .int .i64 (x4.len : Int)), (11, .int .i64 s5)] [(b2, ((cI .i64).arr 6).enc s6), (b1, c_api_RingStat.enc z_api_RingStat)] (ring_Port_Stat.L1 x4 s5 s6) (ring_Port_Stat.F1 b1 b2 x4) := by
  unfold ring_Port_Stat.L1
  refine SJ.seq (by kernel_rfl) ?_
  refine SJ.region (id := 3) (by kernel_rfl) [0] (by kernel_rfl) ?_
  refine OJ.run [0] [] [2, 3, 9, 10, 11, 12] (m2 := [(2, .pointer (some (pt b1 0))), (3, .pointer (some (pt b2 0))), (9, Sl.v x4), (10, .int .i64 (x4.len : Int)), (11, .int .i64 s5), (12, .bool (decide (s5 < (x4.len : Int))))]) (by kernel_rfl) (by kernel_rfl) ?_
  refine OJ.nil ?_
  refine SJ.seq (by kernel_rfl) ?_
  refine SJ.cond (t := (.tmp 12)) (b := decide (s5 < (x4.len : Int))) (by kernel_rfl) (by kernel_rfl) decide_eq_true_iff (fun hc20 => ?_) (fun hc20 => ?_)
  · refine SJ.skip (by kernel_rfl) ?_
    refine SJ.seq (by kernel_rfl) ?_
    refine SJ.block (id := 1) (by kernel_rfl) ?_
    refine SJ.seq (by kernel_rfl) ?_
    refine SJ.region (id := 4) (by kernel_rfl) [0, 1, 2] (by kernel_rfl) ?_
    refine OJ.idxS (d := 13) (T := 67) (y := .tmp 9) (j := .tmp 11) (E := 3) (cap := x4.cap) (k := .i64) (by kernel_rfl) (by kernel_rfl) (by kernel_rfl) (by kernel_rfl) (by kernel_rfl) (by kernel_rfl) (by kernel_rfl) (by kernel_rfl) (fun p14 => ?_)
    refine OJ.ld (d := 14) (T := 3) (y := .tmp 13) (pend2 := fun x15 => []) (by kernel_rfl) (by kernel_rfl) Ty3 (by kernel_rfl) (by kernel_rfl) (fun _ => rfl) (fun x15 => ?_)
    refine OJ.run [2] [] [2, 3, 9, 10, 11, 5] (m2 := [(2, .pointer (some (pt b1 0))), (3, .pointer (some (pt b2 0))), (9, Sl.v x4), (10, .int .i64 (x4.len : Int)), (11, .int .i64 s5), (5, .int .i64 x15)]) (by kernel_rfl) (by kernel_rfl) ?_
    refine OJ.nil ?_
    refine SJ.region (id := 5) (by kernel_rfl) [0, 1, 2, 3, 4, 5] (by kernel_rfl) ?_
    refine OJ.run [0] [1, 2, 3, 4, 5] [2, 3, 9, 10, 11, 15] (m2 := [(2, .pointer (some (pt b1 0))), (3, .pointer (some (pt b2 0))), (9, Sl.v x4), (10, .int .i64 (x4.len : Int)), (11, .int .i64 s5), (15, .int .i64 x15)]) (by kernel_rfl) (by kernel_rfl) ?_
    refine OJ.idxK (d := 16) (T := 94) (y := .tmp 3) (j := .tmp 15) (E := 3) (sz := 1) (b := b2) (o := 0) (k := .i64) (by kernel_rfl) (by kernel_rfl) (by kernel_rfl) (by kernel_rfl) (by kernel_rfl) (by kernel_rfl) (by kernel_rfl) (by kernel_rfl) (fun hb16 hb17 => ?_)
    refine OJ.kld (d := 17) (T := 3) (y := .tmp 16) (cd := (cI .i64)) (j := 0) (b := b2) (o := (0 + x15.toNat * 1)) (Vec.g s6 x15 0) (pend2 := []) (by kernel_rfl) (by kernel_rfl) Ty3 (by kernel_rfl) rfl (At.zero (At.arr (z := 0) hb16 hb17)) (by kernel_rfl) rfl ?_
    refine OJ.run [3] [4, 5] [2, 3, 9, 10, 11, 15, 18] (m2 := [(2, .pointer (some (pt b1 0))), (3, .pointer (some (pt b2 0))), (9, Sl.v x4), (10, .int .i64 (x4.len : Int)), (11, .int .i64 s5), (15, .int .i64 x15), (18, .int .i64 (IntKind.wrap .i64 ((Vec.g s6 x15 0) + 1)))]) (by kernel_rfl) (by kernel_rfl) ?_
    refine OJ.idxK (d := 19) (T := 94) (y := .tmp 3) (j := .tmp 15) (E := 3) (sz := 1) (b := b2) (o := 0) (k := .i64) (by kernel_rfl) (by kernel_rfl) (by kernel_rfl) (by kernel_rfl) (by kernel_rfl) (by kernel_rfl) (by kernel_rfl) (by kernel_rfl) (fun hb18 hb19 => ?_)
    refine OJ.kst (T := 3) (y := .tmp 19) (z := .tmp 18) (cd := (cI .i64)) (u := (IntKind.wrap .i64 ((Vec.g s6 x15 0) + 1))) (j := 0) (b := b2) (o := (0 + x15.toNat * 1)) (((cI .i64).arr 6).enc (Vec.s s6 x15 (IntKind.wrap .i64 ((Vec.g s6 x15 0) + 1)))) (h2 := [(b2, ((cI .i64).arr 6).enc (Vec.s s6 x15 (IntKind.wrap .i64 ((Vec.g s6 x15 0) + 1)))), (b1, c_api_RingStat.enc z_api_RingStat)]) (owed := []) (by kernel_rfl) (by kernel_rfl) (by kernel_rfl) Ty3 rfl (Upd.zero (Upd.arr hb18 hb19)) (by kernel_rfl) (by kernel_rfl) rfl ?_
    refine OW.nil ?_
    refine OJ.nil ?_
    refine SJ.inBlock ?_
    refine SJ.region (id := 6) (by kernel_rfl) [0, 1] (by kernel_rfl) ?_
    refine OJ.run [0, 1] [] [2, 3, 9, 10, 11] (m2 := [(2, .pointer (some (pt b1 0))), (3, .pointer (some (pt b2 0))), (9, Sl.v x4), (10, .int .i64 (x4.len : Int)), (11, .int .i64 (IntKind.wrap .i64 (s5 + 1)))]) (by kernel_rfl) (by kernel_rfl) ?_
    refine OJ.nil ?_
    exact SJ.at_ [2, 3, 9, 10, 11] rfl (by kernel_rfl)
  · refine SJ.exit (id := 0) (by kernel_rfl) (by rfl) ?_
    refine SJ.less [2, 3] (m' := [(2, .pointer (some (pt b1 0))), (3, .pointer (some (pt b2 0)))]) (by kernel_rfl) ?_
    refine SJ.done ?_
    exact ring_Port_Stat.K1_ok b1 b2 s6
noncomputable def ring_Port_Stat (a0 : (Option Addr)) : M api_RingStat :=
  slot 52 >>= fun b1 =>
  slot 94 >>= fun b2 =>
  nilck a0 >>= fun p3 =>
  ld cL (Addr.add p3 4) >>= fun x4 =>
  loopM (fun s_ : (Int × (Vec Int 6)) => ring_Port_Stat.L1 x4 s_.1 s_.2) (0, (Vec.rep 6 0))
theorem ring_Port_Stat_ok (a0 : (Option Addr)) : Ref Try.prog 27 [.pointer a0] (ring_Port_Stat a0) ring_Port_Stat.out := by
  refine Ref.of (cd := ring_Port_Stat.B) Try.func27 (by kernel_rfl) (by kernel_rfl) ?_
  show SJ ring_Port_Stat.cx [.code ring_Port_Stat.B] [(0, .pointer a0)] [] (ring_Port_Stat a0) ring_Port_Stat.F0
  unfold ring_Port_Stat
  refine SJ.seq (by kernel_rfl) ?_
  refine SJ.region (id := 0) (by kernel_rfl) [0] (by kernel_rfl) ?_
  refine OJ.slotOf (d := 2) (op := (.alloc 52)) (cd := c_api_RingStat) (u := z_api_RingStat) (owed := []) (by kernel_rfl) (alloc_run Ty52) (by kernel_rfl) (by kernel_rfl) (by kernel_rfl) (fun b1 => ?_)
  refine OW.nil ?_
  refine OJ.nil ?_
  refine SJ.seq (by kernel_rfl) ?_
  refine SJ.region (id := 1) (by kernel_rfl) [0] (by kernel_rfl) ?_
  refine OJ.slotOf (d := 3) (op := (.alloc 94)) (cd := ((cI .i64).arr 6)) (u := (Vec.rep 6 0)) (owed := []) (by kernel_rfl) (alloc_run Ty94) (by kernel_rfl) (by kernel_rfl) (by kernel_rfl) (fun b2 => ?_)
  refine OW.nil ?_
  refine OJ.nil ?_
  refine SJ.seq (by kernel_rfl) ?_
  refine SJ.seq (by kernel_rfl) ?_
  refine SJ.region (id := 2) (by kernel_rfl) [0, 1, 2, 3, 4, 5] (by kernel_rfl) ?_
  refine OJ.run [0] [1, 2, 3, 4, 5] [2, 3, 6] (m2 := [(2, .pointer (some (pt b1 0))), (3, .pointer (some (pt b2 0))), (6, .pointer a0)]) (by kernel_rfl) (by kernel_rfl) ?_
  refine OJ.nilck (d := 7) (y := .tmp 6) (by kernel_rfl) (by kernel_rfl) (by kernel_rfl) (by kernel_rfl) (by kernel_rfl) (fun p3 => ?_)
  refine OJ.run [2] [3, 4, 5] [2, 3, 8] (m2 := [(2, .pointer (some (pt b1 0))), (3, .pointer (some (pt b2 0))), (8, .pointer (some (Addr.add p3 4)))]) (by kernel_rfl) (by kernel_rfl) ?_
  refine OJ.ld (d := 9) (T := 67) (y := .tmp 8) (pend2 := fun x4 => []) (by kernel_rfl) (by kernel_rfl) Ty67 (by kernel_rfl) (by kernel_rfl) (fun _ => rfl) (fun x4 => ?_)
  refine OJ.run [4, 5] [] [2, 3, 9, 10, 11] (m2 := [(2, .pointer (some (pt b1 0))), (3, .pointer (some (pt b2 0))), (9, Sl.v x4), (10, .int .i64 (x4.len : Int)), (11, .int .i64 0)]) (by kernel_rfl) (by kernel_rfl) ?_
  refine OJ.nil ?_
  refine SJ.block (id := 0) (by kernel_rfl) ?_
  exact SJ.loop (fun s_ : (Int × (Vec Int 6)) => [(2, .pointer (some (pt b1 0))), (3, .pointer (some (pt b2 0))), (9, Sl.v x4), (10, .int .i64 (x4.len : Int)), (11, .int .i64 s_.1)]) (fun s_ : (Int × (Vec Int 6)) => [(b2, ((cI .i64).arr 6).enc s_.2), (b1, c_api_RingStat.enc z_api_RingStat)]) [2, 3, 9, 10, 11] (by kernel_rfl) (by kernel_rfl) rfl (fun _ _ => rfl) (fun s_ => ring_Port_Stat.L1_ok b1 b2 x4 s_.1 s_.2)

/-! ### (*weir/ring.line).leave: function 46 -/
noncomputable def ring_line_leave.B : Code := (Try.f46.body).getD .skip
noncomputable def ring_line_leave.cx : Fx := ⟨Try.prog, 46, Try.f46⟩
noncomputable def ring_line_leave.out (r_ : Int) : Value := .int .i64 r_
noncomputable def ring_line_leave.F0 (r_ : Int) : Reach := .ret (ring_line_leave.out r_)
noncomputable def ring_line_leave (a0 : (Option Addr)) : M Int :=
  draw >>= fun _ =>
  nilck a0 >>= fun p1 =>
  ld cL p1 >>= fun x2 =>
  nilck a0 >>= fun p3 =>
  ld (cI .i64) (Addr.add p3 1) >>= fun x4 =>
  idx x2.a x2.len x4 1 >>= fun p5 =>
  ld (cI .i64) p5 >>= fun x6 =>
  draw >>= fun _ =>
  nilck a0 >>= fun p7 =>
  ld (cI .i64) (Addr.add p7 1) >>= fun x8 =>
  nilck a0 >>= fun p9 =>
  ld cL p9 >>= fun x10 =>
  chk ((x10.len : Int) ≠ 0) >>= fun _ =>
  nilck a0 >>= fun p11 =>
  st (cI .i64) (Addr.add p11 1) (Int.tmod (IntKind.wrap .i64 (x8 + 1)) (x10.len : Int)) >>= fun _ =>
  nilck a0 >>= fun p12 =>
  ld (cI .i64) (Addr.add p12 2) >>= fun x13 =>
  nilck a0 >>= fun p14 =>
  st (cI .i64) (Addr.add p14 2) (IntKind.wrap .i64 (x13 - 1)) >>= fun _ =>
  pure x6
theorem ring_line_leave_ok (a0 : (Option Addr)) : Ref Try.prog 46 [.pointer a0] (ring_line_leave a0) ring_line_leave.out := by
  refine Ref.of (cd := ring_line_leave.B) Try.func46 (by kernel_rfl) (by kernel_rfl) ?_
  show SJ ring_line_leave.cx [.code ring_line_leave.B] [(0, .pointer a0)] [] (ring_line_leave a0) ring_line_leave.F0
  unfold ring_line_leave
  refine SJ.seq (by kernel_rfl) ?_
  refine SJ.region (id := 0) (by kernel_rfl) [0] (by kernel_rfl) ?_
  refine OJ.run [0] [] [0] (m2 := [(0, .pointer a0)]) (by kernel_rfl) (by kernel_rfl) ?_
  refine OJ.nil ?_
  refine SJ.seq (by kernel_rfl) ?_
  refine SJ.draw (id := 1) (kd := [0, 0, 0, 1, 0, 0, 0, 1, 0, 1, 0]) (bef := [0, 1, 3, 7, 0, 16, 48, 112, 255, 511, 1023]) (ord := [0, 1, 2, 3, 4, 5, 6, 7, 8, 9, 10]) (by kernel_rfl) mixed (by kernel_rfl) ?_
  refine OJ.run [0] [1, 2, 3, 4, 5, 6, 7, 8, 9, 10] [0, 4] (m2 := [(0, .pointer a0), (4, .pointer a0)]) (by kernel_rfl) (by kernel_rfl) ?_
  refine OJ.nilck (d := 5) (y := .tmp 4) (by kernel_rfl) (by kernel_rfl) (by kernel_rfl) (by kernel_rfl) (by kernel_rfl) (fun p1 => ?_)
  refine OJ.run [2] [3, 4, 5, 6, 7, 8, 9, 10] [0, 6] (m2 := [(0, .pointer a0), (6, .pointer (some p1))]) (by kernel_rfl) (by kernel_rfl) ?_
  refine OJ.ld (d := 7) (T := 67) (y := .tmp 6) (pend2 := fun x2 => [⟨3, 67, p1, cL.val x2⟩]) (by kernel_rfl) (by kernel_rfl) Ty67 (by kernel_rfl) (by kernel_rfl) (fun _ => rfl) (fun x2 => ?_)
  refine OJ.run [4] [5, 6, 7, 8, 9, 10] [0, 7, 8] (m2 := [(0, .pointer a0), (7, Sl.v x2), (8, .pointer a0)]) (by kernel_rfl) (by kernel_rfl) ?_
  refine OJ.nilck (d := 9) (y := .tmp 8) (by kernel_rfl) (by kernel_rfl) (by kernel_rfl) (by kernel_rfl) (by kernel_rfl) (fun p3 => ?_)
  refine OJ.run [6] [7, 8, 9, 10] [0, 7, 10] (m2 := [(0, .pointer a0), (7, Sl.v x2), (10, .pointer (some (Addr.add p3 1)))]) (by kernel_rfl) (by kernel_rfl) ?_
  refine OJ.ld (d := 11) (T := 3) (y := .tmp 10) (pend2 := fun x4 => [⟨7, 3, (Addr.add p3 1), (cI .i64).val x4⟩, ⟨3, 67, p1, cL.val x2⟩]) (by kernel_rfl) (by kernel_rfl) Ty3 (by kernel_rfl) (by kernel_rfl) (fun _ => rfl) (fun x4 => ?_)
  refine OJ.idxS (d := 12) (T := 67) (y := .tmp 7) (j := .tmp 11) (E := 3) (cap := x2.cap) (k := .i64) (by kernel_rfl) (by kernel_rfl) (by kernel_rfl) (by kernel_rfl) (by kernel_rfl) (by kernel_rfl) (by kernel_rfl) (by kernel_rfl) (fun p5 => ?_)
  refine OJ.ld (d := 13) (T := 3) (y := .tmp 12) (pend2 := fun x6 => [⟨9, 3, p5, (cI .i64).val x6⟩, ⟨7, 3, (Addr.add p3 1), (cI .i64).val x4⟩, ⟨3, 67, p1, cL.val x2⟩]) (by kernel_rfl) (by kernel_rfl) Ty3 (by kernel_rfl) (by kernel_rfl) (fun _ => rfl) (fun x6 => ?_)
  refine OJ.run [10] [] [0, 3] (m2 := [(0, .pointer a0), (3, .int .i64 x6)]) (by kernel_rfl) (by kernel_rfl) ?_
  refine OJ.nil ?_
  refine SJ.seq (by kernel_rfl) ?_
  refine SJ.draw (id := 2) (kd := [0, 0, 0, 0, 1, 0, 0, 0, 0, 1, 0, 0, 0, 0, 2]) (bef := [0, 0, 2, 6, 14, 30, 0, 64, 192, 448, 960, 2046, 4095, 8191, 16383]) (ord := [0, 1, 2, 3, 4, 5, 6, 7, 8, 9, 10, 11, 12, 13, 14]) (by kernel_rfl) mixed (by kernel_rfl) ?_
  refine OJ.run [0, 1] [2, 3, 4, 5, 6, 7, 8, 9, 10, 11, 12, 13, 14] [0, 3, 14, 15] (m2 := [(0, .pointer a0), (3, .int .i64 x6), (14, .pointer a0), (15, .pointer a0)]) (by kernel_rfl) (by kernel_rfl) ?_
  refine OJ.nilck (d := 16) (y := .tmp 15) (by kernel_rfl) (by kernel_rfl) (by kernel_rfl) (by kernel_rfl) (by kernel_rfl) (fun p7 => ?_)
  refine OJ.run [3] [4, 5, 6, 7, 8, 9, 10, 11, 12, 13, 14] [0, 3, 14, 17] (m2 := [(0, .pointer a0), (3, .int .i64 x6), (14, .pointer a0), (17, .pointer (some (Addr.add p7 1)))]) (by kernel_rfl) (by kernel_rfl) ?_
  refine OJ.ld (d := 18) (T := 3) (y := .tmp 17) (pend2 := fun x8 => [⟨4, 3, (Addr.add p7 1), (cI .i64).val x8⟩]) (by kernel_rfl) (by kernel_rfl) Ty3 (by kernel_rfl) (by kernel_rfl) (fun _ => rfl) (fun x8 => ?_)
  refine OJ.run [5, 6] [7, 8, 9, 10, 11, 12, 13, 14] [0, 3, 14, 19, 20] (m2 := [(0, .pointer a0), (3, .int .i64 x6), (14, .pointer a0), (19, .int .i64 (IntKind.wrap .i64 (x8 + 1))), (20, .pointer a0)]) (by kernel_rfl) (by kernel_rfl) ?_
  refine OJ.nilck (d := 21) (y := .tmp 20) (by kernel_rfl) (by kernel_rfl) (by kernel_rfl) (by kernel_rfl) (by kernel_rfl) (fun p9 => ?_)
  refine OJ.run [8] [9, 10, 11, 12, 13, 14] [0, 3, 14, 19, 22] (m2 := [(0, .pointer a0), (3, .int .i64 x6), (14, .pointer a0), (19, .int .i64 (IntKind.wrap .i64 (x8 + 1))), (22, .pointer (some p9))]) (by kernel_rfl) (by kernel_rfl) ?_
  refine OJ.ld (d := 23) (T := 67) (y := .tmp 22) (pend2 := fun x10 => [⟨9, 67, p9, cL.val x10⟩, ⟨4, 3, (Addr.add p7 1), (cI .i64).val x8⟩]) (by kernel_rfl) (by kernel_rfl) Ty67 (by kernel_rfl) (by kernel_rfl) (fun _ => rfl) (fun x10 => ?_)
  refine OJ.run [10] [11, 12, 13, 14] [0, 3, 14, 19, 24] (m2 := [(0, .pointer a0), (3, .int .i64 x6), (14, .pointer a0), (19, .int .i64 (IntKind.wrap .i64 (x8 + 1))), (24, .int .i64 (x10.len : Int))]) (by kernel_rfl) (by kernel_rfl) ?_
  refine OJ.rem (d := 25) (T := 3) (yT := 3) (y := .tmp 19) (z := .tmp 24) (p := (IntKind.wrap .i64 (x8 + 1))) (q := (x10.len : Int)) (k := .i64) (by kernel_rfl) (by kernel_rfl) (by kernel_rfl) (by kernel_rfl) (by kernel_rfl) (by kernel_rfl) (fun hq15 => ?_)
  refine OJ.nilck (d := 26) (y := .tmp 14) (by kernel_rfl) (by kernel_rfl) (by kernel_rfl) (by kernel_rfl) (by kernel_rfl) (fun p11 => ?_)
  refine OJ.run [13] [14] [0, 3, 25, 27] (m2 := [(0, .pointer a0), (3, .int .i64 x6), (25, .int .i64 (Int.tmod (IntKind.wrap .i64 (x8 + 1)) (x10.len : Int))), (27, .pointer (some (Addr.add p11 1)))]) (by kernel_rfl) (by kernel_rfl) ?_
  refine OJ.st (T := 3) (y := .tmp 27) (z := .tmp 25) (owed := []) (by kernel_rfl) (by kernel_rfl) (by kernel_rfl) Ty3 (by kernel_rfl) (by kernel_rfl) ?_
  refine OW.nil ?_
  refine OJ.nil ?_
  refine SJ.seq (by kernel_rfl) ?_
  refine SJ.region (id := 3) (by kernel_rfl) [0, 1, 2, 3, 4, 5, 6, 7] (by kernel_rfl) ?_
  refine OJ.run [0] [1, 2, 3, 4, 5, 6, 7] [3, 28] (m2 := [(3, .int .i64 x6), (28, .pointer a0)]) (by kernel_rfl) (by kernel_rfl) ?_
  refine OJ.nilck (d := 29) (y := .tmp 28) (by kernel_rfl) (by kernel_rfl) (by kernel_rfl) (by kernel_rfl) (by kernel_rfl) (fun p12 => ?_)
  refine OJ.run [2] [3, 4, 5, 6, 7] [3, 28, 30] (m2 := [(3, .int .i64 x6), (28, .pointer a0), (30, .pointer (some (Addr.add p12 2)))]) (by kernel_rfl) (by kernel_rfl) ?_
  refine OJ.ld (d := 31) (T := 3) (y := .tmp 30) (pend2 := fun x13 => []) (by kernel_rfl) (by kernel_rfl) Ty3 (by kernel_rfl) (by kernel_rfl) (fun _ => rfl) (fun x13 => ?_)
  refine OJ.run [4] [5, 6, 7] [3, 28, 32] (m2 := [(3, .int .i64 x6), (28, .pointer a0), (32, .int .i64 (IntKind.wrap .i64 (x13 - 1)))]) (by kernel_rfl) (by kernel_rfl) ?_
  refine OJ.nilck (d := 33) (y := .tmp 28) (by kernel_rfl) (by kernel_rfl) (by kernel_rfl) (by kernel_rfl) (by kernel_rfl) (fun p14 => ?_)
  refine OJ.run [6] [7] [3, 32, 34] (m2 := [(3, .int .i64 x6), (32, .int .i64 (IntKind.wrap .i64 (x13 - 1))), (34, .pointer (some (Addr.add p14 2)))]) (by kernel_rfl) (by kernel_rfl) ?_
  refine OJ.st (T := 3) (y := .tmp 34) (z := .tmp 32) (owed := []) (by kernel_rfl) (by kernel_rfl) (by kernel_rfl) Ty3 (by kernel_rfl) (by kernel_rfl) ?_
  refine OW.nil ?_
  refine OJ.nil ?_
  refine SJ.seq (by kernel_rfl) ?_
  refine SJ.region (id := 4) (by kernel_rfl) [0, 1] (by kernel_rfl) ?_
  refine OJ.run [0, 1] [] [2] (m2 := [(2, .int .i64 x6)]) (by kernel_rfl) (by kernel_rfl) ?_
  refine OJ.nil ?_
  exact SJ.ret (by kernel_rfl) rfl (Res.run (ys := [.int .i64 x6]) (.tmp (by kernel_rfl) .nil) rfl)

/-! ### (*weir/ring.Port).Refill: function 15 -/
noncomputable def ring_Port_Refill.B : Code := (Try.f15.body).getD .skip
noncomputable def ring_Port_Refill.cx : Fx := ⟨Try.prog, 15, Try.f15⟩
noncomputable def ring_Port_Refill.out (r_ : Int) : Value := .int .i64 r_
noncomputable def ring_Port_Refill.F0 (r_ : Int) : Reach := .ret (ring_Port_Refill.out r_)
noncomputable def ring_Port_Refill.F1 (a0 : (Option Addr)) (a1 : Int) : (LS Int Int) → Reach := loopF [.inLoop (c1 (c1 (c1 (c2 (c2 ring_Port_Refill.B))))), .inBlock 0, .code (c2 (c2 (c2 ring_Port_Refill.B)))] (fun s_ : Int => [(0, .pointer a0), (1, .int .i64 a1), (5, .int .i64 s_)]) (fun s_ : Int => []) ring_Port_Refill.F0
noncomputable def ring_Port_Refill.L1 (a0 : (Option Addr)) (a1 : Int) (s1 : Int) : M (LS Int Int) :=
  draw >>= fun _ =>
  (if s1 < a1 then
      nilck a0 >>= fun p20 =>
      ld (cI .i64) (Addr.add (Addr.add p20 6) 2) >>= fun x21 =>
      pure (decide (x21 > 0))
    else
      pure false) >>= fun y22 =>
  (if y22 = true then
      nilck a0 >>= fun p23 =>
      ld (cI .i64) (Addr.add (Addr.add p23 9) 2) >>= fun x24 =>
      nilck a0 >>= fun p25 =>
      ld (cI .i64) (Addr.add (Addr.add p25 12) 2) >>= fun x26 =>
      nilck a0 >>= fun p27 =>
      ld (cI .i64) (Addr.add p27 1) >>= fun x28 =>
      pure (decide ((IntKind.wrap .i64 (x24 + x26)) < x28))
    else
      pure false) >>= fun y29 =>
  if y29 = true then
    nilck a0 >>= fun p30 =>
    ring_line_leave (some (Addr.add p30 6)) >>= fun r31 =>
    nilck a0 >>= fun p32 =>
    ld cL (Addr.add p32 4) >>= fun x33 =>
    idx x33.a x33.len r31 1 >>= fun p34 =>
    st (cI .i64) p34 2 >>= fun _ =>
    nilck a0 >>= fun p35 =>
    ring_line_join (some (Addr.add p35 9)) r31 >>= fun r36 =>
    pure (LS.next (IntKind.wrap .i64 (s1 + 1)))
  else
    pure (LS.done s1)
theorem ring_Port_Refill.L1_ok (a0 : (Option Addr)) (a1 : Int) (s1 : Int) :
    SJ ring_Port_Refill.cx [.code (c1 (c1 (c1 (c2 (c2 ring_Port_Refill.B))))), .inLoop (c1 (c1 (c1 (c2 (c2 ring_Port_Refill.B))))), .inBlock 0, .code (c2 (c2 (c2 ring_Port_Refill.B)))] [(0, .pointer a0), (1, .int .i64 a1), (5, .int .i64 s1)] [] (ring_Port_Refill.L1 a0 a1 s1) (ring_Port_Refill.F1 a0 a1) := by
  unfold ring_Port_Refill.L1
  refine SJ.seq (by kernel_rfl) ?_
  refine SJ.seq (by kernel_rfl) ?_
  refine SJ.draw (id := 2) (kd := [0, 0, 0, 0, 0, 0, 0, 0, 1, 0, 0, 0, 0, 0, 0, 0, 1, 0, 0, 0, 0, 1, 0, 0, 0, 0, 1, 0, 0]) (bef := [0, 0, 3, 7, 15, 31, 63, 127, 255, 511, 1023, 2047, 4095, 8191, 16383, 32767, 65535, 4095, 135167, 397311, 921599, 1970175, 4194303, 4095, 8392703, 25169919, 58724351, 134217727, 268435455]) (ord := [0, 1, 2, 3, 4, 5, 6, 7, 8, 9, 10, 11, 12, 13, 14, 15, 16, 17, 18, 19, 20, 21, 22, 23, 24, 25, 26, 27, 28]) (by kernel_rfl) mixed (by kernel_rfl) ?_
  refine OJ.run [0, 1, 2, 3] [4, 5, 6, 7, 8, 9, 10, 11, 12, 13, 14, 15, 16, 17, 18, 19, 20, 21, 22, 23, 24, 25, 26, 27, 28] [0, 1, 5, 10] (m2 := [(0, .pointer a0), (1, .int .i64 a1), (5, .int .i64 s1), (10, .bool (decide (s1 < a1)))]) (by kernel_rfl) (by kernel_rfl) ?_
  refine OJ.join (b := decide (s1 < a1)) [4, 5, 6, 7, 8, 9, 10] [11, 12, 13, 14, 15, 16, 17, 18, 19, 20, 21, 22, 23, 24, 25, 26, 27, 28] [0, 1, 5, 17] (fun y22 => [(0, .pointer a0), (1, .int .i64 a1), (5, .int .i64 s1), (17, .bool y22)]) [] [8] (by kernel_rfl) (t := 10) (by kernel_rfl) decide_eq_true_iff (fun hp_ => ?_) (fun hp_ => ?_) (by kernel_rfl) (fun _ _ _ _ _ _ h_ => h_) (fun y22 => ?_)
  · refine OJ.run [4] [5, 6, 7, 8, 9, 10] [0, 1, 5, 10, 11] (m2 := [(0, .pointer a0), (1, .int .i64 a1), (5, .int .i64 s1), (10, .bool true), (11, .pointer a0)]) (by kernel_rfl) (by kernel_rfl) ?_
    refine OJ.nilck (d := 12) (y := .tmp 11) (by kernel_rfl) (by kernel_rfl) (by kernel_rfl) (by kernel_rfl) (by kernel_rfl) (fun p20 => ?_)
    refine OJ.run [6, 7] [8, 9, 10] [0, 1, 5, 10, 14] (m2 := [(0, .pointer a0), (1, .int .i64 a1), (5, .int .i64 s1), (10, .bool true), (14, .pointer (some (Addr.add (Addr.add p20 6) 2)))]) (by kernel_rfl) (by kernel_rfl) ?_
    refine OJ.ld (d := 15) (T := 3) (y := .tmp 14) (pend2 := fun x21 => [⟨8, 3, (Addr.add (Addr.add p20 6) 2), (cI .i64).val x21⟩]) (by kernel_rfl) (by kernel_rfl) Ty3 (by kernel_rfl) (by kernel_rfl) (fun _ => rfl) (fun x21 => ?_)
    refine OJ.run [9, 10] [] [0, 1, 5, 17] (m2 := [(0, .pointer a0), (1, .int .i64 a1), (5, .int .i64 s1), (17, .bool (decide (x21 > 0)))]) (by kernel_rfl) (by kernel_rfl) ?_
    exact OJ.nil ⟨(Cov.mem (Cov.drop (List.mem_of_getElem? (i := 0) rfl) Cov.nil)), rfl, _, rfl, by kernel_rfl⟩
  · refine OJ.run [4, 5, 6, 7, 8, 9, 10] [] [0, 1, 5, 17] (m2 := [(0, .pointer a0), (1, .int .i64 a1), (5, .int .i64 s1), (17, .bool false)]) (by kernel_rfl) (by kernel_rfl) ?_
    exact OJ.nil ⟨(Cov.mem Cov.nil), rfl, _, rfl, by kernel_rfl⟩
  · refine OJ.run [11] [12, 13, 14, 15, 16, 17, 18, 19, 20, 21, 22, 23, 24, 25, 26, 27, 28] [0, 1, 5, 18] (m2 := [(0, .pointer a0), (1, .int .i64 a1), (5, .int .i64 s1), (18, .bool y22)]) (by kernel_rfl) (by kernel_rfl) ?_
    refine OJ.join (b := y22) [12, 13, 14, 15, 16, 17, 18, 19, 20, 21, 22, 23, 24, 25, 26, 27, 28] [] [0, 1, 5, 35] (fun y29 => [(0, .pointer a0), (1, .int .i64 a1), (5, .int .i64 s1), (35, .bool y29)]) [] [16, 21, 26] (by kernel_rfl) (t := 18) (by kernel_rfl) Iff.rfl (fun hp_ => ?_) (fun hp_ => ?_) (by kernel_rfl) (fun _ _ _ _ _ _ h_ => h_) (fun y29 => ?_)
    · refine OJ.run [12] [13, 14, 15, 16, 17, 18, 19, 20, 21, 22, 23, 24, 25, 26, 27, 28] [0, 1, 5, 18, 19] (m2 := [(0, .pointer a0), (1, .int .i64 a1), (5, .int .i64 s1), (18, .bool true), (19, .pointer a0)]) (by kernel_rfl) (by kernel_rfl) ?_
      refine OJ.nilck (d := 20) (y := .tmp 19) (by kernel_rfl) (by kernel_rfl) (by kernel_rfl) (by kernel_rfl) (by kernel_rfl) (fun p23 => ?_)
      refine OJ.run [14, 15] [16, 17, 18, 19, 20, 21, 22, 23, 24, 25, 26, 27, 28] [0, 1, 5, 18, 22] (m2 := [(0, .pointer a0), (1, .int .i64 a1), (5, .int .i64 s1), (18, .bool true), (22, .pointer (some (Addr.add (Addr.add p23 9) 2)))]) (by kernel_rfl) (by kernel_rfl) ?_
      refine OJ.ld (d := 23) (T := 3) (y := .tmp 22) (pend2 := fun x24 => [⟨16, 3, (Addr.add (Addr.add p23 9) 2), (cI .i64).val x24⟩]) (by kernel_rfl) (by kernel_rfl) Ty3 (by kernel_rfl) (by kernel_rfl) (fun _ => rfl) (fun x24 => ?_)
      refine OJ.run [17] [18, 19, 20, 21, 22, 23, 24, 25, 26, 27, 28] [0, 1, 5, 18, 23, 24] (m2 := [(0, .pointer a0), (1, .int .i64 a1), (5, .int .i64 s1), (18, .bool true), (23, .int .i64 x24), (24, .pointer a0)]) (by kernel_rfl) (by kernel_rfl) ?_
      refine OJ.nilck (d := 25) (y := .tmp 24) (by kernel_rfl) (by kernel_rfl) (by kernel_rfl) (by kernel_rfl) (by kernel_rfl) (fun p25 => ?_)
      refine OJ.run [19, 20] [21, 22, 23, 24, 25, 26, 27, 28] [0, 1, 5, 18, 23, 27] (m2 := [(0, .pointer a0), (1, .int .i64 a1), (5, .int .i64 s1), (18, .bool true), (23, .int .i64 x24), (27, .pointer (some (Addr.add (Addr.add p25 12) 2)))]) (by kernel_rfl) (by kernel_rfl) ?_
      refine OJ.ld (d := 28) (T := 3) (y := .tmp 27) (pend2 := fun x26 => [⟨21, 3, (Addr.add (Addr.add p25 12) 2), (cI .i64).val x26⟩, ⟨16, 3, (Addr.add (Addr.add p23 9) 2), (cI .i64).val x24⟩]) (by kernel_rfl) (by kernel_rfl) Ty3 (by kernel_rfl) (by kernel_rfl) (fun _ => rfl) (fun x26 => ?_)
      refine OJ.run [22, 23] [24, 25, 26, 27, 28] [0, 1, 5, 18, 29, 30] (m2 := [(0, .pointer a0), (1, .int .i64 a1), (5, .int .i64 s1), (18, .bool true), (29, .int .i64 (IntKind.wrap .i64 (x24 + x26))), (30, .pointer a0)]) (by kernel_rfl) (by kernel_rfl) ?_
      refine OJ.nilck (d := 31) (y := .tmp 30) (by kernel_rfl) (by kernel_rfl) (by kernel_rfl) (by kernel_rfl) (by kernel_rfl) (fun p27 => ?_)
      refine OJ.run [25] [26, 27, 28] [0, 1, 5, 18, 29, 32] (m2 := [(0, .pointer a0), (1, .int .i64 a1), (5, .int .i64 s1), (18, .bool true), (29, .int .i64 (IntKind.wrap .i64 (x24 + x26))), (32, .pointer (some (Addr.add p27 1)))]) (by kernel_rfl) (by kernel_rfl) ?_
      refine OJ.ld (d := 33) (T := 3) (y := .tmp 32) (pend2 := fun x28 => [⟨26, 3, (Addr.add p27 1), (cI .i64).val x28⟩, ⟨21, 3, (Addr.add (Addr.add p25 12) 2), (cI .i64).val x26⟩, ⟨16, 3, (Addr.add (Addr.add p23 9) 2), (cI .i64).val x24⟩]) (by kernel_rfl) (by kernel_rfl) Ty3 (by kernel_rfl) (by kernel_rfl) (fun _ => rfl) (fun x28 => ?_)
      refine OJ.run [27, 28] [] [0, 1, 5, 35] (m2 := [(0, .pointer a0), (1, .int .i64 a1), (5, .int .i64 s1), (35, .bool (decide ((IntKind.wrap .i64 (x24 + x26)) < x28)))]) (by kernel_rfl) (by kernel_rfl) ?_
      exact OJ.nil ⟨(Cov.mem (Cov.drop (List.mem_of_getElem? (i := 2) rfl) (Cov.drop (List.mem_of_getElem? (i := 1) rfl) (Cov.drop (List.mem_of_getElem? (i := 0) rfl) Cov.nil)))), rfl, _, rfl, by kernel_rfl⟩
    · refine OJ.run [12, 13, 14, 15, 16, 17, 18, 19, 20, 21, 22, 23, 24, 25, 26, 27, 28] [] [0, 1, 5, 35] (m2 := [(0, .pointer a0), (1, .int .i64 a1), (5, .int .i64 s1), (35, .bool false)]) (by kernel_rfl) (by kernel_rfl) ?_
      exact OJ.nil ⟨(Cov.mem Cov.nil), rfl, _, rfl, by kernel_rfl⟩
    · refine OJ.nil ?_
      refine SJ.cond (t := (.tmp 35)) (b := y29) (by kernel_rfl) (by kernel_rfl) Iff.rfl (fun hc37 => ?_) (fun hc37 => ?_)
      · refine SJ.skip (by kernel_rfl) ?_
        refine SJ.block (id := 1) (by kernel_rfl) ?_
        refine SJ.seq (by kernel_rfl) ?_
        refine SJ.region (id := 3) (by kernel_rfl) [0, 1, 2, 3, 4] (by kernel_rfl) ?_
        refine OJ.run [0] [1, 2, 3, 4] [0, 1, 5, 36] (m2 := [(0, .pointer a0), (1, .int .i64 a1), (5, .int .i64 s1), (36, .pointer a0)]) (by kernel_rfl) (by kernel_rfl) ?_
        refine OJ.nilck (d := 37) (y := .tmp 36) (by kernel_rfl) (by kernel_rfl) (by kernel_rfl) (by kernel_rfl) (by kernel_rfl) (fun p30 => ?_)
        refine OJ.run [2] [3, 4] [0, 1, 5, 38] (m2 := [(0, .pointer a0), (1, .int .i64 a1), (5, .int .i64 s1), (38, .pointer (some (Addr.add p30 6)))]) (by kernel_rfl) (by kernel_rfl) ?_
        refine OJ.call (d := 39) (g := 46) (ats := #[86]) (args := [.tmp 38]) (vals := [.pointer (some (Addr.add p30 6))]) (owed := []) (by kernel_rfl) F46 (by kernel_rfl) (ring_line_leave_ok (some (Addr.add p30 6))) (by kernel_rfl) (by kernel_rfl) (by kernel_rfl) (fun r31 => ?_)
        refine OW.nil ?_
        refine OJ.run [4] [] [0, 1, 5, 6] (m2 := [(0, .pointer a0), (1, .int .i64 a1), (5, .int .i64 s1), (6, .int .i64 r31)]) (by kernel_rfl) (by kernel_rfl) ?_
        refine OJ.nil ?_
        refine SJ.seq (by kernel_rfl) ?_
        refine SJ.region (id := 4) (by kernel_rfl) [0, 1, 2, 3, 4, 5, 6] (by kernel_rfl) ?_
        refine OJ.run [0] [1, 2, 3, 4, 5, 6] [0, 1, 5, 6, 40] (m2 := [(0, .pointer a0), (1, .int .i64 a1), (5, .int .i64 s1), (6, .int .i64 r31), (40, .pointer a0)]) (by kernel_rfl) (by kernel_rfl) ?_
        refine OJ.nilck (d := 41) (y := .tmp 40) (by kernel_rfl) (by kernel_rfl) (by kernel_rfl) (by kernel_rfl) (by kernel_rfl) (fun p32 => ?_)
        refine OJ.run [2] [3, 4, 5, 6] [0, 1, 5, 6, 42] (m2 := [(0, .pointer a0), (1, .int .i64 a1), (5, .int .i64 s1), (6, .int .i64 r31), (42, .pointer (some (Addr.add p32 4)))]) (by kernel_rfl) (by kernel_rfl) ?_
        refine OJ.ld (d := 43) (T := 67) (y := .tmp 42) (pend2 := fun x33 => []) (by kernel_rfl) (by kernel_rfl) Ty67 (by kernel_rfl) (by kernel_rfl) (fun _ => rfl) (fun x33 => ?_)
        refine OJ.run [4] [5, 6] [0, 1, 5, 6, 43, 44] (m2 := [(0, .pointer a0), (1, .int .i64 a1), (5, .int .i64 s1), (6, .int .i64 r31), (43, Sl.v x33), (44, .int .i64 r31)]) (by kernel_rfl) (by kernel_rfl) ?_
        refine OJ.idxS (d := 45) (T := 67) (y := .tmp 43) (j := .tmp 44) (E := 3) (cap := x33.cap) (k := .i64) (by kernel_rfl) (by kernel_rfl) (by kernel_rfl) (by kernel_rfl) (by kernel_rfl) (by kernel_rfl) (by kernel_rfl) (by kernel_rfl) (fun p34 => ?_)
        refine OJ.st (T := 3) (y := .tmp 45) (z := .const (.int .i64 2)) (owed := []) (by kernel_rfl) (by kernel_rfl) (by kernel_rfl) Ty3 (by kernel_rfl) (by kernel_rfl) ?_
        refine OW.nil ?_
        refine OJ.nil ?_
        refine SJ.seq (by kernel_rfl) ?_
        refine SJ.region (id := 5) (by kernel_rfl) [0, 1, 2, 3, 4] (by kernel_rfl) ?_
        refine OJ.run [0] [1, 2, 3, 4] [0, 1, 5, 6, 46] (m2 := [(0, .pointer a0), (1, .int .i64 a1), (5, .int .i64 s1), (6, .int .i64 r31), (46, .pointer a0)]) (by kernel_rfl) (by kernel_rfl) ?_
        refine OJ.nilck (d := 47) (y := .tmp 46) (by kernel_rfl) (by kernel_rfl) (by kernel_rfl) (by kernel_rfl) (by kernel_rfl) (fun p35 => ?_)
        refine OJ.run [2, 3] [4] [0, 1, 5, 48, 49] (m2 := [(0, .pointer a0), (1, .int .i64 a1), (5, .int .i64 s1), (48, .pointer (some (Addr.add p35 9))), (49, .int .i64 r31)]) (by kernel_rfl) (by kernel_rfl) ?_
        refine OJ.call (d := 50) (g := 45) (ats := #[86, 3]) (args := [.tmp 48, .tmp 49]) (vals := [.pointer (some (Addr.add p35 9)), .int .i64 r31]) (owed := []) (by kernel_rfl) F45 (by kernel_rfl) (ring_line_join_ok (some (Addr.add p35 9)) r31) (by kernel_rfl) (by kernel_rfl) (by kernel_rfl) (fun r36 => ?_)
        refine OW.nil ?_
        refine OJ.nil ?_
        refine SJ.region (id := 6) (by kernel_rfl) [0, 1, 2] (by kernel_rfl) ?_
        refine OJ.run [0, 1, 2] [] [0, 1, 5] (m2 := [(0, .pointer a0), (1, .int .i64 a1), (5, .int .i64 (IntKind.wrap .i64 (s1 + 1)))]) (by kernel_rfl) (by kernel_rfl) ?_
        refine OJ.nil ?_
        refine SJ.inBlock ?_
        exact SJ.at_ [0, 1, 5] rfl (by kernel_rfl)
      · refine SJ.exit (id := 0) (by kernel_rfl) (by rfl) ?_
        refine SJ.seq (by kernel_rfl) ?_
        refine SJ.region (id := 7) (by kernel_rfl) [0, 1] (by kernel_rfl) ?_
        refine OJ.run [0, 1] [] [4] (m2 := [(4, .int .i64 s1)]) (by kernel_rfl) (by kernel_rfl) ?_
        refine OJ.nil ?_
        exact SJ.ret (by kernel_rfl) rfl (Res.run (ys := [.int .i64 s1]) (.tmp (by kernel_rfl) .nil) rfl)
noncomputable def ring_Port_Refill (a0 : (Option Addr)) (a1 : Int) : M Int :=
  loopM (fun s_ : Int => ring_Port_Refill.L1 a0 a1 s_) 0
theorem ring_Port_Refill_ok (a0 : (Option Addr)) (a1 : Int) : Ref Try.prog 15 [.pointer a0, .int .i64 a1] (ring_Port_Refill a0 a1) ring_Port_Refill.out := by
  refine Ref.of (cd := ring_Port_Refill.B) Try.func15 (by kernel_rfl) (by kernel_rfl) ?_
  show SJ ring_Port_Refill.cx [.code ring_Port_Refill.B] [(0, .pointer a0), (1, .int .i64 a1)] [] (ring_Port_Refill a0 a1) ring_Port_Refill.F0
  unfold ring_Port_Refill
  refine SJ.seq (by kernel_rfl) ?_
  refine SJ.region (id := 0) (by kernel_rfl) [0] (by kernel_rfl) ?_
  refine OJ.run [0] [] [0, 1] (m2 := [(0, .pointer a0), (1, .int .i64 a1)]) (by kernel_rfl) (by kernel_rfl) ?_
  refine OJ.nil ?_
  refine SJ.seq (by kernel_rfl) ?_
  refine SJ.region (id := 1) (by kernel_rfl) [0] (by kernel_rfl) ?_
  refine OJ.run [0] [] [0, 1, 5] (m2 := [(0, .pointer a0), (1, .int .i64 a1), (5, .int .i64 0)]) (by kernel_rfl) (by kernel_rfl) ?_
  refine OJ.nil ?_
  refine SJ.seq (by kernel_rfl) ?_
  refine SJ.block (id := 0) (by kernel_rfl) ?_
  exact SJ.loop (fun s_ : Int => [(0, .pointer a0), (1, .int .i64 a1), (5, .int .i64 s_)]) (fun s_ : Int => []) [0, 1, 5] (by kernel_rfl) (by kernel_rfl) rfl (fun _ _ => rfl) (fun s_ => ring_Port_Refill.L1_ok a0 a1 s_)

/-! ### (*weir/ring.Port).Places: function 32 -/
noncomputable def ring_Port_Places.B : Code := (Try.f32.body).getD .skip
noncomputable def ring_Port_Places.cx : Fx := ⟨Try.prog, 32, Try.f32⟩
noncomputable def ring_Port_Places.out (r_ : Sl) : Value := Sl.v r_
noncomputable def ring_Port_Places.F0 (r_ : Sl) : Reach := .ret (ring_Port_Places.out r_)
noncomputable def ring_Port_Places (a0 : (Option Addr)) : M Sl :=
  nilck a0 >>= fun p1 =>
  ld cL (Addr.add p1 4) >>= fun x2 =>
  mkS (cI .i64) 3 8 0 (x2.len : Int) (x2.len : Int) >>= fun r3 =>
  nilck a0 >>= fun p4 =>
  ld cL (Addr.add p4 4) >>= fun x5 =>
  cpyS (cI .i64) r3 x5 >>= fun r6 =>
  pure r3
theorem ring_Port_Places_ok (a0 : (Option Addr)) : Ref Try.prog 32 [.pointer a0] (ring_Port_Places a0) ring_Port_Places.out := by
  refine Ref.of (cd := ring_Port_Places.B) Try.func32 (by kernel_rfl) (by kernel_rfl) ?_
  show SJ ring_Port_Places.cx [.code ring_Port_Places.B] [(0, .pointer a0)] [] (ring_Port_Places a0) ring_Port_Places.F0
  unfold ring_Port_Places
  refine SJ.seq (by kernel_rfl) ?_
  refine SJ.region (id := 0) (by kernel_rfl) [0] (by kernel_rfl) ?_
  refine OJ.run [0] [] [0] (m2 := [(0, .pointer a0)]) (by kernel_rfl) (by kernel_rfl) ?_
  refine OJ.nil ?_
  refine SJ.seq (by kernel_rfl) ?_
  refine SJ.region (id := 1) (by kernel_rfl) [0, 1, 2, 3, 4, 5, 6] (by kernel_rfl) ?_
  refine OJ.run [0] [1, 2, 3, 4, 5, 6] [0, 4] (m2 := [(0, .pointer a0), (4, .pointer a0)]) (by kernel_rfl) (by kernel_rfl) ?_
  refine OJ.nilck (d := 5) (y := .tmp 4) (by kernel_rfl) (by kernel_rfl) (by kernel_rfl) (by kernel_rfl) (by kernel_rfl) (fun p1 => ?_)
  refine OJ.run [2] [3, 4, 5, 6] [0, 6] (m2 := [(0, .pointer a0), (6, .pointer (some (Addr.add p1 4)))]) (by kernel_rfl) (by kernel_rfl) ?_
  refine OJ.ld (d := 7) (T := 67) (y := .tmp 6) (pend2 := fun x2 => []) (by kernel_rfl) (by kernel_rfl) Ty67 (by kernel_rfl) (by kernel_rfl) (fun _ => rfl) (fun x2 => ?_)
  refine OJ.run [4] [5, 6] [0, 8] (m2 := [(0, .pointer a0), (8, .int .i64 (x2.len : Int))]) (by kernel_rfl) (by kernel_rfl) ?_
  refine OJ.mk (d := 9) (t := 67) (lo := .tmp 8) (ko := .tmp 8) (k1 := .i64) (k2 := .i64) (owed := []) (by kernel_rfl) (by kernel_rfl) Ty3 (by kernel_rfl) (by kernel_rfl) (by kernel_rfl) (by kernel_rfl) (by kernel_rfl) (by kernel_rfl) (fun r3 => ?_)
  refine OW.nil ?_
  refine OJ.run [6] [] [0, 3] (m2 := [(0, .pointer a0), (3, Sl.v r3)]) (by kernel_rfl) (by kernel_rfl) ?_
  refine OJ.nil ?_
  refine SJ.seq (by kernel_rfl) ?_
  refine SJ.region (id := 2) (by kernel_rfl) [0, 1, 2, 3, 4, 5] (by kernel_rfl) ?_
  refine OJ.run [0, 1] [2, 3, 4, 5] [3, 10, 11] (m2 := [(3, Sl.v r3), (10, Sl.v r3), (11, .pointer a0)]) (by kernel_rfl) (by kernel_rfl) ?_
  refine OJ.nilck (d := 12) (y := .tmp 11) (by kernel_rfl) (by kernel_rfl) (by kernel_rfl) (by kernel_rfl) (by kernel_rfl) (fun p4 => ?_)
  refine OJ.run [3] [4, 5] [3, 10, 13] (m2 := [(3, Sl.v r3), (10, Sl.v r3), (13, .pointer (some (Addr.add p4 4)))]) (by kernel_rfl) (by kernel_rfl) ?_
  refine OJ.ld (d := 14) (T := 67) (y := .tmp 13) (pend2 := fun x5 => []) (by kernel_rfl) (by kernel_rfl) Ty67 (by kernel_rfl) (by kernel_rfl) (fun _ => rfl) (fun x5 => ?_)
  refine OJ.cpy1 (n := 15) (t := 67) (u := 67) (so := .tmp 10) (xo := .tmp 14) (owed := []) (by kernel_rfl) (by kernel_rfl) Ty3 (by kernel_rfl) (by kernel_rfl) (by kernel_rfl) (by kernel_rfl) (by kernel_rfl) (fun r6 => ?_)
  refine OW.nil ?_
  refine OJ.nil ?_
  refine SJ.seq (by kernel_rfl) ?_
  refine SJ.region (id := 3) (by kernel_rfl) [0, 1] (by kernel_rfl) ?_
  refine OJ.run [0, 1] [] [2] (m2 := [(2, Sl.v r3)]) (by kernel_rfl) (by kernel_rfl) ?_
  refine OJ.nil ?_
  exact SJ.ret (by kernel_rfl) rfl (Res.run (ys := [Sl.v r3]) (.tmp (by kernel_rfl) .nil) rfl)

/-! ### (*weir/ring.Port).bytes: function 47 -/
noncomputable def ring_Port_bytes.B : Code := (Try.f47.body).getD .skip
noncomputable def ring_Port_bytes.cx : Fx := ⟨Try.prog, 47, Try.f47⟩
noncomputable def ring_Port_bytes.out (r_ : Sl) : Value := Sl.v r_
noncomputable def ring_Port_bytes.F0 (r_ : Sl) : Reach := .ret (ring_Port_bytes.out r_)
noncomputable def ring_Port_bytes.K1 (a0 : (Option Addr)) (a1 : Int) : M Sl :=
  nilck a0 >>= fun p11 =>
  ld cL (Addr.add p11 3) >>= fun x12 =>
  idx x12.a x12.len a1 1 >>= fun p13 =>
  ld cL p13 >>= fun x14 =>
  pure x14
theorem ring_Port_bytes.K1_ok (a0 : (Option Addr)) (a1 : Int) :
    SJ ring_Port_bytes.cx [.code (c2 (c2 ring_Port_bytes.B))] [(0, .pointer a0), (1, .int .i64 a1)] [] (ring_Port_bytes.K1 a0 a1) ring_Port_bytes.F0 := by
  unfold ring_Port_bytes.K1
  refine SJ.seq (by kernel_rfl) ?_
  refine SJ.region (id := 3) (by kernel_rfl) [0, 1, 2, 3, 4, 5, 6, 7] (by kernel_rfl) ?_
  refine OJ.run [0] [1, 2, 3, 4, 5, 6, 7] [1, 24] (m2 := [(1, .int .i64 a1), (24, .pointer a0)]) (by kernel_rfl) (by kernel_rfl) ?_
  refine OJ.nilck (d := 25) (y := .tmp 24) (by kernel_rfl) (by kernel_rfl) (by kernel_rfl) (by kernel_rfl) (by kernel_rfl) (fun p11 => ?_)
  refine OJ.run [2] [3, 4, 5, 6, 7] [1, 26] (m2 := [(1, .int .i64 a1), (26, .pointer (some (Addr.add p11 3)))]) (by kernel_rfl) (by kernel_rfl) ?_
  refine OJ.ld (d := 27) (T := 43) (y := .tmp 26) (pend2 := fun x12 => []) (by kernel_rfl) (by kernel_rfl) Ty43 (by kernel_rfl) (by kernel_rfl) (fun _ => rfl) (fun x12 => ?_)
  refine OJ.run [4] [5, 6, 7] [27, 28] (m2 := [(27, Sl.v x12), (28, .int .i64 a1)]) (by kernel_rfl) (by kernel_rfl) ?_
  refine OJ.idxS (d := 29) (T := 43) (y := .tmp 27) (j := .tmp 28) (E := 22) (cap := x12.cap) (k := .i64) (by kernel_rfl) (by kernel_rfl) (by kernel_rfl) (by kernel_rfl) (by kernel_rfl) (by kernel_rfl) (by kernel_rfl) (by kernel_rfl) (fun p13 => ?_)
  refine OJ.ld (d := 30) (T := 22) (y := .tmp 29) (pend2 := fun x14 => []) (by kernel_rfl) (by kernel_rfl) Ty22 (by kernel_rfl) (by kernel_rfl) (fun _ => rfl) (fun x14 => ?_)
  refine OJ.run [7] [] [4] (m2 := [(4, Sl.v x14)]) (by kernel_rfl) (by kernel_rfl) ?_
  refine OJ.nil ?_
  exact SJ.ret (by kernel_rfl) rfl (Res.run (ys := [Sl.v x14]) (.tmp (by kernel_rfl) .nil) rfl)
noncomputable def ring_Port_bytes (a0 : (Option Addr)) (a1 : Int) : M Sl :=
  nilck a0 >>= fun p1 =>
  ld cL (Addr.add p1 3) >>= fun x2 =>
  idx x2.a x2.len a1 1 >>= fun p3 =>
  ld cL p3 >>= fun x4 =>
  if x4.a = none then
    draw >>= fun _ =>
    nilck a0 >>= fun p15 =>
    ld cL (Addr.add p15 3) >>= fun x16 =>
    nilck a0 >>= fun p17 =>
    ld (cI .i64) p17 >>= fun x18 =>
    mkS (cI .u8) 5 1 0 x18 x18 >>= fun r19 =>
    same cL (Addr.add p15 3) x16 >>= fun _ =>
    idx x16.a x16.len a1 1 >>= fun p20 =>
    st cL p20 r19 >>= fun _ =>
    ring_Port_bytes.K1 a0 a1
  else
    ring_Port_bytes.K1 a0 a1
theorem ring_Port_bytes_ok (a0 : (Option Addr)) (a1 : Int) : Ref Try.prog 47 [.pointer a0, .int .i64 a1] (ring_Port_bytes a0 a1) ring_Port_bytes.out := by
  refine Ref.of (cd := ring_Port_bytes.B) Try.func47 (by kernel_rfl) (by kernel_rfl) ?_
  show SJ ring_Port_bytes.cx [.code ring_Port_bytes.B] [(0, .pointer a0), (1, .int .i64 a1)] [] (ring_Port_bytes a0 a1) ring_Port_bytes.F0
  unfold ring_Port_bytes
  refine SJ.seq (by kernel_rfl) ?_
  refine SJ.region (id := 0) (by kernel_rfl) [0] (by kernel_rfl) ?_
  refine OJ.run [0] [] [0, 1] (m2 := [(0, .pointer a0), (1, .int .i64 a1)]) (by kernel_rfl) (by kernel_rfl) ?_
  refine OJ.nil ?_
  refine SJ.seq (by kernel_rfl) ?_
  refine SJ.seq (by kernel_rfl) ?_
  refine SJ.region (id := 1) (by kernel_rfl) [0, 1, 2, 3, 4, 5, 6, 7] (by kernel_rfl) ?_
  refine OJ.run [0] [1, 2, 3, 4, 5, 6, 7] [0, 1, 5] (m2 := [(0, .pointer a0), (1, .int .i64 a1), (5, .pointer a0)]) (by kernel_rfl) (by kernel_rfl) ?_
  refine OJ.nilck (d := 6) (y := .tmp 5) (by kernel_rfl) (by kernel_rfl) (by kernel_rfl) (by kernel_rfl) (by kernel_rfl) (fun p1 => ?_)
  refine OJ.run [2] [3, 4, 5, 6, 7] [0, 1, 7] (m2 := [(0, .pointer a0), (1, .int .i64 a1), (7, .pointer (some (Addr.add p1 3)))]) (by kernel_rfl) (by kernel_rfl) ?_
  refine OJ.ld (d := 8) (T := 43) (y := .tmp 7) (pend2 := fun x2 => []) (by kernel_rfl) (by kernel_rfl) Ty43 (by kernel_rfl) (by kernel_rfl) (fun _ => rfl) (fun x2 => ?_)
  refine OJ.run [4] [5, 6, 7] [0, 1, 8, 9] (m2 := [(0, .pointer a0), (1, .int .i64 a1), (8, Sl.v x2), (9, .int .i64 a1)]) (by kernel_rfl) (by kernel_rfl) ?_
  refine OJ.idxS (d := 10) (T := 43) (y := .tmp 8) (j := .tmp 9) (E := 22) (cap := x2.cap) (k := .i64) (by kernel_rfl) (by kernel_rfl) (by kernel_rfl) (by kernel_rfl) (by kernel_rfl) (by kernel_rfl) (by kernel_rfl) (by kernel_rfl) (fun p3 => ?_)
  refine OJ.ld (d := 11) (T := 22) (y := .tmp 10) (pend2 := fun x4 => []) (by kernel_rfl) (by kernel_rfl) Ty22 (by kernel_rfl) (by kernel_rfl) (fun _ => rfl) (fun x4 => ?_)
  refine OJ.run [7] [] [0, 1, 12] (m2 := [(0, .pointer a0), (1, .int .i64 a1), (12, .bool (Option.isNone x4.a))]) (by kernel_rfl) (by kernel_rfl) ?_
  refine OJ.nil ?_
  refine SJ.cond (t := (.tmp 12)) (b := (Option.isNone x4.a)) (by kernel_rfl) (by kernel_rfl) Option.isNone_iff_eq_none (fun hc21 => ?_) (fun hc21 => ?_)
  · refine SJ.draw (id := 2) (kd := [0, 0, 0, 1, 0, 0, 0, 0, 1, 2, 0, 2]) (bef := [0, 1, 3, 7, 0, 0, 32, 96, 224, 480, 1023, 2047]) (ord := [0, 1, 2, 3, 4, 5, 6, 7, 8, 9, 10, 11]) (by kernel_rfl) mixed (by kernel_rfl) ?_
    refine OJ.run [0] [1, 2, 3, 4, 5, 6, 7, 8, 9, 10, 11] [0, 1, 13] (m2 := [(0, .pointer a0), (1, .int .i64 a1), (13, .pointer a0)]) (by kernel_rfl) (by kernel_rfl) ?_
    refine OJ.nilck (d := 14) (y := .tmp 13) (by kernel_rfl) (by kernel_rfl) (by kernel_rfl) (by kernel_rfl) (by kernel_rfl) (fun p15 => ?_)
    refine OJ.run [2] [3, 4, 5, 6, 7, 8, 9, 10, 11] [0, 1, 15] (m2 := [(0, .pointer a0), (1, .int .i64 a1), (15, .pointer (some (Addr.add p15 3)))]) (by kernel_rfl) (by kernel_rfl) ?_
    refine OJ.ld (d := 16) (T := 43) (y := .tmp 15) (pend2 := fun x16 => [⟨3, 43, (Addr.add p15 3), cL.val x16⟩]) (by kernel_rfl) (by kernel_rfl) Ty43 (by kernel_rfl) (by kernel_rfl) (fun _ => rfl) (fun x16 => ?_)
    refine OJ.run [4, 5] [6, 7, 8, 9, 10, 11] [0, 1, 16, 17, 18] (m2 := [(0, .pointer a0), (1, .int .i64 a1), (16, Sl.v x16), (17, .int .i64 a1), (18, .pointer a0)]) (by kernel_rfl) (by kernel_rfl) ?_
    refine OJ.nilck (d := 19) (y := .tmp 18) (by kernel_rfl) (by kernel_rfl) (by kernel_rfl) (by kernel_rfl) (by kernel_rfl) (fun p17 => ?_)
    refine OJ.run [7] [8, 9, 10, 11] [0, 1, 16, 17, 20] (m2 := [(0, .pointer a0), (1, .int .i64 a1), (16, Sl.v x16), (17, .int .i64 a1), (20, .pointer (some p17))]) (by kernel_rfl) (by kernel_rfl) ?_
    refine OJ.ld (d := 21) (T := 3) (y := .tmp 20) (pend2 := fun x18 => [⟨8, 3, p17, (cI .i64).val x18⟩, ⟨3, 43, (Addr.add p15 3), cL.val x16⟩]) (by kernel_rfl) (by kernel_rfl) Ty3 (by kernel_rfl) (by kernel_rfl) (fun _ => rfl) (fun x18 => ?_)
    refine OJ.mk (d := 22) (t := 22) (lo := .tmp 21) (ko := .tmp 21) (k1 := .i64) (k2 := .i64) (owed := [⟨3, 43, (Addr.add p15 3), cL.val x16⟩]) (by kernel_rfl) (by kernel_rfl) Ty5 (by kernel_rfl) (by kernel_rfl) (by kernel_rfl) (by kernel_rfl) (by kernel_rfl) (by kernel_rfl) (fun r19 => ?_)
    refine OW.same Ty43 ?_
    refine OW.nil ?_
    refine OJ.idxS (d := 23) (T := 43) (y := .tmp 16) (j := .tmp 17) (E := 22) (cap := x16.cap) (k := .i64) (by kernel_rfl) (by kernel_rfl) (by kernel_rfl) (by kernel_rfl) (by kernel_rfl) (by kernel_rfl) (by kernel_rfl) (by kernel_rfl) (fun p20 => ?_)
    refine OJ.st (T := 22) (y := .tmp 23) (z := .tmp 22) (owed := []) (by kernel_rfl) (by kernel_rfl) (by kernel_rfl) Ty22 (by kernel_rfl) (by kernel_rfl) ?_
    refine OW.nil ?_
    refine OJ.nil ?_
    refine SJ.less [0, 1] (m' := [(0, .pointer a0), (1, .int .i64 a1)]) (by kernel_rfl) ?_
    exact ring_Port_bytes.K1_ok a0 a1
  · refine SJ.skip (by kernel_rfl) ?_
    refine SJ.less [0, 1] (m' := [(0, .pointer a0), (1, .int .i64 a1)]) (by kernel_rfl) ?_
    exact ring_Port_bytes.K1_ok a0 a1

/-! ### (*weir/ring.Port).Arrive: function 16 -/
noncomputable def ring_Port_Arrive.B : Code := (Try.f16.body).getD .skip
noncomputable def ring_Port_Arrive.cx : Fx := ⟨Try.prog, 16, Try.f16⟩
noncomputable def ring_Port_Arrive.out (r_ : Int) : Value := .int .i64 r_
noncomputable def ring_Port_Arrive.F0 (r_ : Int) : Reach := .ret (ring_Port_Arrive.out r_)
noncomputable def ring_Port_Arrive (a0 : (Option Addr)) (a1 : Sl) : M Int :=
  if (a1.len : Int) > 65535 then
    pure 2
  else
    nilck a0 >>= fun p10 =>
    ld (cI .i64) p10 >>= fun x11 =>
    if (a1.len : Int) > x11 then
      pure 30
    else
      nilck a0 >>= fun p15 =>
      ld (cI .i64) (Addr.add (Addr.add p15 9) 2) >>= fun x16 =>
      if x16 = 0 then
        pure 31
      else
        nilck a0 >>= fun p17 =>
        ring_line_leave (some (Addr.add p17 9)) >>= fun r18 =>
        ring_Port_bytes a0 r18 >>= fun r19 =>
        cpyS (cI .u8) r19 a1 >>= fun r20 =>
        draw >>= fun _ =>
        nilck a0 >>= fun p21 =>
        ld cL (Addr.add p21 4) >>= fun x22 =>
        nilck a0 >>= fun p23 =>
        ld cL (Addr.add p23 5) >>= fun x24 =>
        idx x22.a x22.len r18 1 >>= fun p25 =>
        st (cI .i64) p25 3 >>= fun _ =>
        idx x24.a x24.len r18 1 >>= fun p26 =>
        st (cI .i64) p26 (a1.len : Int) >>= fun _ =>
        nilck a0 >>= fun p27 =>
        ring_line_join (some (Addr.add p27 12)) r18 >>= fun r28 =>
        pure 0
theorem ring_Port_Arrive_ok (a0 : (Option Addr)) (a1 : Sl) : Ref Try.prog 16 [.pointer a0, Sl.v a1] (ring_Port_Arrive a0 a1) ring_Port_Arrive.out := by
  refine Ref.of (cd := ring_Port_Arrive.B) Try.func16 (by kernel_rfl) (by kernel_rfl) ?_
  show SJ ring_Port_Arrive.cx [.code ring_Port_Arrive.B] [(0, .pointer a0), (1, Sl.v a1)] [] (ring_Port_Arrive a0 a1) ring_Port_Arrive.F0
  unfold ring_Port_Arrive
  refine SJ.seq (by kernel_rfl) ?_
  refine SJ.region (id := 0) (by kernel_rfl) [0] (by kernel_rfl) ?_
  refine OJ.run [0] [] [0, 1] (m2 := [(0, .pointer a0), (1, Sl.v a1)]) (by kernel_rfl) (by kernel_rfl) ?_
  refine OJ.nil ?_
  refine SJ.seq (by kernel_rfl) ?_
  refine SJ.block (id := 0) (by kernel_rfl) ?_
  refine SJ.seq (by kernel_rfl) ?_
  refine SJ.region (id := 1) (by kernel_rfl) [0, 1, 2, 3] (by kernel_rfl) ?_
  refine OJ.run [0, 1, 2, 3] [] [0, 1, 6] (m2 := [(0, .pointer a0), (1, Sl.v a1), (6, .bool (decide ((a1.len : Int) > 65535)))]) (by kernel_rfl) (by kernel_rfl) ?_
  refine OJ.nil ?_
  refine SJ.cond (t := (.tmp 6)) (b := decide ((a1.len : Int) > 65535)) (by kernel_rfl) (by kernel_rfl) decide_eq_true_iff (fun hc31 => ?_) (fun hc31 => ?_)
  · refine SJ.seq (by kernel_rfl) ?_
    refine SJ.region (id := 2) (by kernel_rfl) [0] (by kernel_rfl) ?_
    refine OJ.run [0] [] [4] (m2 := [(4, .int .i64 2)]) (by kernel_rfl) (by kernel_rfl) ?_
    refine OJ.nil ?_
    exact SJ.ret (by kernel_rfl) rfl (Res.run (ys := [.int .i64 2]) (.tmp (by kernel_rfl) .nil) rfl)
  · refine SJ.seq (by kernel_rfl) ?_
    refine SJ.region (id := 3) (by kernel_rfl) [0, 1, 2, 3, 4, 5, 6, 7] (by kernel_rfl) ?_
    refine OJ.run [0, 1, 2] [3, 4, 5, 6, 7] [0, 1, 12, 13] (m2 := [(0, .pointer a0), (1, Sl.v a1), (12, .int .i64 (a1.len : Int)), (13, .pointer a0)]) (by kernel_rfl) (by kernel_rfl) ?_
    refine OJ.nilck (d := 14) (y := .tmp 13) (by kernel_rfl) (by kernel_rfl) (by kernel_rfl) (by kernel_rfl) (by kernel_rfl) (fun p10 => ?_)
    refine OJ.run [4] [5, 6, 7] [0, 1, 12, 15] (m2 := [(0, .pointer a0), (1, Sl.v a1), (12, .int .i64 (a1.len : Int)), (15, .pointer (some p10))]) (by kernel_rfl) (by kernel_rfl) ?_
    refine OJ.ld (d := 16) (T := 3) (y := .tmp 15) (pend2 := fun x11 => []) (by kernel_rfl) (by kernel_rfl) Ty3 (by kernel_rfl) (by kernel_rfl) (fun _ => rfl) (fun x11 => ?_)
    refine OJ.run [6, 7] [] [0, 1, 10] (m2 := [(0, .pointer a0), (1, Sl.v a1), (10, .bool (decide ((a1.len : Int) > x11)))]) (by kernel_rfl) (by kernel_rfl) ?_
    refine OJ.nil ?_
    refine SJ.cond (t := (.tmp 10)) (b := decide ((a1.len : Int) > x11)) (by kernel_rfl) (by kernel_rfl) decide_eq_true_iff (fun hc30 => ?_) (fun hc30 => ?_)
    · refine SJ.seq (by kernel_rfl) ?_
      refine SJ.region (id := 4) (by kernel_rfl) [0] (by kernel_rfl) ?_
      refine OJ.run [0] [] [4] (m2 := [(4, .int .i64 30)]) (by kernel_rfl) (by kernel_rfl) ?_
      refine OJ.nil ?_
      exact SJ.ret (by kernel_rfl) rfl (Res.run (ys := [.int .i64 30]) (.tmp (by kernel_rfl) .nil) rfl)
    · refine SJ.seq (by kernel_rfl) ?_
      refine SJ.region (id := 5) (by kernel_rfl) [0, 1, 2, 3, 4, 5, 6] (by kernel_rfl) ?_
      refine OJ.run [0] [1, 2, 3, 4, 5, 6] [0, 1, 19] (m2 := [(0, .pointer a0), (1, Sl.v a1), (19, .pointer a0)]) (by kernel_rfl) (by kernel_rfl) ?_
      refine OJ.nilck (d := 20) (y := .tmp 19) (by kernel_rfl) (by kernel_rfl) (by kernel_rfl) (by kernel_rfl) (by kernel_rfl) (fun p15 => ?_)
      refine OJ.run [2, 3] [4, 5, 6] [0, 1, 22] (m2 := [(0, .pointer a0), (1, Sl.v a1), (22, .pointer (some (Addr.add (Addr.add p15 9) 2)))]) (by kernel_rfl) (by kernel_rfl) ?_
      refine OJ.ld (d := 23) (T := 3) (y := .tmp 22) (pend2 := fun x16 => []) (by kernel_rfl) (by kernel_rfl) Ty3 (by kernel_rfl) (by kernel_rfl) (fun _ => rfl) (fun x16 => ?_)
      refine OJ.run [5, 6] [] [0, 1, 18] (m2 := [(0, .pointer a0), (1, Sl.v a1), (18, .bool (x16 == 0))]) (by kernel_rfl) (by kernel_rfl) ?_
      refine OJ.nil ?_
      refine SJ.cond (t := (.tmp 18)) (b := (x16 == 0)) (by kernel_rfl) (by kernel_rfl) beq_iff_eq (fun hc29 => ?_) (fun hc29 => ?_)
      · refine SJ.seq (by kernel_rfl) ?_
        refine SJ.region (id := 6) (by kernel_rfl) [0] (by kernel_rfl) ?_
        refine OJ.run [0] [] [4] (m2 := [(4, .int .i64 31)]) (by kernel_rfl) (by kernel_rfl) ?_
        refine OJ.nil ?_
        exact SJ.ret (by kernel_rfl) rfl (Res.run (ys := [.int .i64 31]) (.tmp (by kernel_rfl) .nil) rfl)
      · refine SJ.skip (by kernel_rfl) ?_
        refine SJ.inBlock ?_
        refine SJ.seq (by kernel_rfl) ?_
        refine SJ.region (id := 7) (by kernel_rfl) [0, 1, 2, 3, 4] (by kernel_rfl) ?_
        refine OJ.run [0] [1, 2, 3, 4] [0, 1, 25] (m2 := [(0, .pointer a0), (1, Sl.v a1), (25, .pointer a0)]) (by kernel_rfl) (by kernel_rfl) ?_
        refine OJ.nilck (d := 26) (y := .tmp 25) (by kernel_rfl) (by kernel_rfl) (by kernel_rfl) (by kernel_rfl) (by kernel_rfl) (fun p17 => ?_)
        refine OJ.run [2] [3, 4] [0, 1, 27] (m2 := [(0, .pointer a0), (1, Sl.v a1), (27, .pointer (some (Addr.add p17 9)))]) (by kernel_rfl) (by kernel_rfl) ?_
        refine OJ.call (d := 28) (g := 46) (ats := #[86]) (args := [.tmp 27]) (vals := [.pointer (some (Addr.add p17 9))]) (owed := []) (by kernel_rfl) F46 (by kernel_rfl) (ring_line_leave_ok (some (Addr.add p17 9))) (by kernel_rfl) (by kernel_rfl) (by kernel_rfl) (fun r18 => ?_)
        refine OW.nil ?_
        refine OJ.run [4] [] [0, 1, 5] (m2 := [(0, .pointer a0), (1, Sl.v a1), (5, .int .i64 r18)]) (by kernel_rfl) (by kernel_rfl) ?_
        refine OJ.nil ?_
        refine SJ.seq (by kernel_rfl) ?_
        refine SJ.region (id := 8) (by kernel_rfl) [0, 1, 2, 3, 4] (by kernel_rfl) ?_
        refine OJ.run [0, 1] [2, 3, 4] [0, 1, 5, 29, 30] (m2 := [(0, .pointer a0), (1, Sl.v a1), (5, .int .i64 r18), (29, .pointer a0), (30, .int .i64 r18)]) (by kernel_rfl) (by kernel_rfl) ?_
        refine OJ.call (d := 31) (g := 47) (ats := #[23, 3]) (args := [.tmp 29, .tmp 30]) (vals := [.pointer a0, .int .i64 r18]) (owed := []) (by kernel_rfl) F47 (by kernel_rfl) (ring_Port_bytes_ok a0 r18) (by kernel_rfl) (by kernel_rfl) (by kernel_rfl) (fun r19 => ?_)
        refine OW.nil ?_
        refine OJ.run [3] [4] [0, 1, 5, 31, 32] (m2 := [(0, .pointer a0), (1, Sl.v a1), (5, .int .i64 r18), (31, Sl.v r19), (32, Sl.v a1)]) (by kernel_rfl) (by kernel_rfl) ?_
        refine OJ.cpy1 (n := 33) (t := 22) (u := 22) (so := .tmp 31) (xo := .tmp 32) (owed := []) (by kernel_rfl) (by kernel_rfl) Ty5 (by kernel_rfl) (by kernel_rfl) (by kernel_rfl) (by kernel_rfl) (by kernel_rfl) (fun r20 => ?_)
        refine OW.nil ?_
        refine OJ.nil ?_
        refine SJ.seq (by kernel_rfl) ?_
        refine SJ.draw (id := 9) (kd := [0, 0, 0, 1, 0, 0, 0, 0, 1, 0, 0, 0, 0, 2, 0, 2]) (bef := [0, 1, 3, 7, 0, 0, 32, 96, 224, 0, 0, 1024, 511, 4607, 16383, 32767]) (ord := [0, 1, 2, 3, 4, 5, 6, 7, 8, 9, 10, 11, 12, 13, 14, 15]) (by kernel_rfl) mixed (by kernel_rfl) ?_
        refine OJ.run [0] [1, 2, 3, 4, 5, 6, 7, 8, 9, 10, 11, 12, 13, 14, 15] [0, 1, 5, 34] (m2 := [(0, .pointer a0), (1, Sl.v a1), (5, .int .i64 r18), (34, .pointer a0)]) (by kernel_rfl) (by kernel_rfl) ?_
        refine OJ.nilck (d := 35) (y := .tmp 34) (by kernel_rfl) (by kernel_rfl) (by kernel_rfl) (by kernel_rfl) (by kernel_rfl) (fun p21 => ?_)
        refine OJ.run [2] [3, 4, 5, 6, 7, 8, 9, 10, 11, 12, 13, 14, 15] [0, 1, 5, 36] (m2 := [(0, .pointer a0), (1, Sl.v a1), (5, .int .i64 r18), (36, .pointer (some (Addr.add p21 4)))]) (by kernel_rfl) (by kernel_rfl) ?_
        refine OJ.ld (d := 37) (T := 67) (y := .tmp 36) (pend2 := fun x22 => [⟨3, 67, (Addr.add p21 4), cL.val x22⟩]) (by kernel_rfl) (by kernel_rfl) Ty67 (by kernel_rfl) (by kernel_rfl) (fun _ => rfl) (fun x22 => ?_)
        refine OJ.run [4, 5] [6, 7, 8, 9, 10, 11, 12, 13, 14, 15] [0, 1, 5, 37, 38, 39] (m2 := [(0, .pointer a0), (1, Sl.v a1), (5, .int .i64 r18), (37, Sl.v x22), (38, .int .i64 r18), (39, .pointer a0)]) (by kernel_rfl) (by kernel_rfl) ?_
        refine OJ.nilck (d := 40) (y := .tmp 39) (by kernel_rfl) (by kernel_rfl) (by kernel_rfl) (by kernel_rfl) (by kernel_rfl) (fun p23 => ?_)
        refine OJ.run [7] [8, 9, 10, 11, 12, 13, 14, 15] [0, 1, 5, 37, 38, 41] (m2 := [(0, .pointer a0), (1, Sl.v a1), (5, .int .i64 r18), (37, Sl.v x22), (38, .int .i64 r18), (41, .pointer (some (Addr.add p23 5)))]) (by kernel_rfl) (by kernel_rfl) ?_
        refine OJ.ld (d := 42) (T := 67) (y := .tmp 41) (pend2 := fun x24 => [⟨8, 67, (Addr.add p23 5), cL.val x24⟩, ⟨3, 67, (Addr.add p21 4), cL.val x22⟩]) (by kernel_rfl) (by kernel_rfl) Ty67 (by kernel_rfl) (by kernel_rfl) (fun _ => rfl) (fun x24 => ?_)
        refine OJ.run [9, 10, 11] [12, 13, 14, 15] [0, 5, 37, 38, 42, 43, 45] (m2 := [(0, .pointer a0), (5, .int .i64 r18), (37, Sl.v x22), (38, .int .i64 r18), (42, Sl.v x24), (43, .int .i64 r18), (45, .int .i64 (a1.len : Int))]) (by kernel_rfl) (by kernel_rfl) ?_
        refine OJ.idxS (d := 46) (T := 67) (y := .tmp 37) (j := .tmp 38) (E := 3) (cap := x22.cap) (k := .i64) (by kernel_rfl) (by kernel_rfl) (by kernel_rfl) (by kernel_rfl) (by kernel_rfl) (by kernel_rfl) (by kernel_rfl) (by kernel_rfl) (fun p25 => ?_)
        refine OJ.st (T := 3) (y := .tmp 46) (z := .const (.int .i64 3)) (owed := []) (by kernel_rfl) (by kernel_rfl) (by kernel_rfl) Ty3 (by kernel_rfl) (by kernel_rfl) ?_
        refine OW.nil ?_
        refine OJ.idxS (d := 47) (T := 67) (y := .tmp 42) (j := .tmp 43) (E := 3) (cap := x24.cap) (k := .i64) (by kernel_rfl) (by kernel_rfl) (by kernel_rfl) (by kernel_rfl) (by kernel_rfl) (by kernel_rfl) (by kernel_rfl) (by kernel_rfl) (fun p26 => ?_)
        refine OJ.st (T := 3) (y := .tmp 47) (z := .tmp 45) (owed := []) (by kernel_rfl) (by kernel_rfl) (by kernel_rfl) Ty3 (by kernel_rfl) (by kernel_rfl) ?_
        refine OW.nil ?_
        refine OJ.nil ?_
        refine SJ.seq (by kernel_rfl) ?_
        refine SJ.region (id := 10) (by kernel_rfl) [0, 1, 2, 3, 4] (by kernel_rfl) ?_
        refine OJ.run [0] [1, 2, 3, 4] [5, 48] (m2 := [(5, .int .i64 r18), (48, .pointer a0)]) (by kernel_rfl) (by kernel_rfl) ?_
        refine OJ.nilck (d := 49) (y := .tmp 48) (by kernel_rfl) (by kernel_rfl) (by kernel_rfl) (by kernel_rfl) (by kernel_rfl) (fun p27 => ?_)
        refine OJ.run [2, 3] [4] [50, 51] (m2 := [(50, .pointer (some (Addr.add p27 12))), (51, .int .i64 r18)]) (by kernel_rfl) (by kernel_rfl) ?_
        refine OJ.call (d := 52) (g := 45) (ats := #[86, 3]) (args := [.tmp 50, .tmp 51]) (vals := [.pointer (some (Addr.add p27 12)), .int .i64 r18]) (owed := []) (by kernel_rfl) F45 (by kernel_rfl) (ring_line_join_ok (some (Addr.add p27 12)) r18) (by kernel_rfl) (by kernel_rfl) (by kernel_rfl) (fun r28 => ?_)
        refine OW.nil ?_
        refine OJ.nil ?_
        refine SJ.seq (by kernel_rfl) ?_
        refine SJ.region (id := 11) (by kernel_rfl) [0] (by kernel_rfl) ?_
        refine OJ.run [0] [] [4] (m2 := [(4, .int .i64 0)]) (by kernel_rfl) (by kernel_rfl) ?_
        refine OJ.nil ?_
        exact SJ.ret (by kernel_rfl) rfl (Res.run (ys := [.int .i64 0]) (.tmp (by kernel_rfl) .nil) rfl)
end Go.Proofs.Ytoddkagehbcfjaa.Lx
