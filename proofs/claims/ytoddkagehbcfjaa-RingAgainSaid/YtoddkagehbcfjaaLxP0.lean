/- Programs of the M-world for Go functions, each with the proof that the Go text does what it says. Printed by lxgen.py. -/
import Derived.Test.YtoddkagehbcfjaaLxT
set_option linter.unusedVariables false
set_option linter.unusedSimpArgs false
namespace Go.Proofs.Ytoddkagehbcfjaa.Lx
open Go Go.Proofs
/-! ### weir/ring.newLine: function 44 -/
noncomputable def ring_newLine.B : Code := (Try.f44.body).getD .skip
noncomputable def ring_newLine.cx : Fx := ⟨Try.prog, 44, Try.f44⟩
noncomputable def ring_newLine.out (r_ : ring_line) : Value := c_ring_line.val r_
noncomputable def ring_newLine.F0 (r_ : ring_line) : Reach := .ret (ring_newLine.out r_)
noncomputable def ring_newLine (a0 : Int) : M ring_line :=
  slot 86 >>= fun b1 =>
  mkS (cI .i64) 3 8 0 a0 a0 >>= fun r2 =>
  pure (⟨r2, z_ring_line.first, z_ring_line.n⟩ : ring_line)
theorem ring_newLine_ok (a0 : Int) : Ref Try.prog 44 [.int .i64 a0] (ring_newLine a0) ring_newLine.out := by
  refine Ref.of (cd := ring_newLine.B) Try.func44 ?_
  show SJ ring_newLine.cx [.code ring_newLine.B] [(0, .int .i64 a0)] [] (ring_newLine a0) ring_newLine.F0
  unfold ring_newLine
  refine SJ.sr 1 ?_
  refine OJ.slotOf (d := 2) (op := (.alloc 86)) (cd := c_ring_line) (u := z_ring_line) (owed := []) (alloc_run Ty86) (fun b1 => ?_)
  refine OW.nil ?_
  refine OJ.nil ?_
  refine SJ.sr 4 ?_
  refine OJ.go 1 [(3, .int .i64 a0)] ?_
  refine OJ.mk (d := 4) (t := 67) (lo := .tmp 3) (ko := .tmp 3) (k1 := .i64) (k2 := .i64) (owed := []) Ty3 (fun r2 => ?_)
  refine OW.nil ?_
  refine OJ.build (d := 5) (T := 86) (parts := [(0, .tmp 4)]) (ps := [(0, cL.val r2)]) (cd := c_ring_line) (z0 := z_ring_line) (⟨r2, z_ring_line.first, z_ring_line.n⟩ : ring_line) Ty86 rfl (Filled.cons (cd := cL) (q := r2) (o := 0) (by kernel_rfl) (Up_ring_line_at_ z_ring_line r2) Filled.nil) ?_
  refine OJ.kst (y := .tmp 2) (z := .tmp 5) (cd := c_ring_line) (u := (⟨r2, z_ring_line.first, z_ring_line.n⟩ : ring_line)) (j := 0) (b := b1) (o := 0) (c_ring_line.enc (⟨r2, z_ring_line.first, z_ring_line.n⟩ : ring_line)) (owed := []) Ty86 rfl (Upd.whole ((Cod.len _ _).trans (Cod.len _ _).symm)) rfl ?_
  refine OW.nil ?_
  refine OJ.nil ?_
  exact SJ.ret rfl (Res.run (ys := [c_ring_line.val (⟨r2, z_ring_line.first, z_ring_line.n⟩ : ring_line)]) (.cell (j := 0) (b := b1) (cd := c_ring_line) (q := (⟨r2, z_ring_line.first, z_ring_line.n⟩ : ring_line)) (by kernel_rfl) rfl Ty86 (At.whole _) .nil) rfl)

/-! ### (*weir/ring.line).join: function 45 -/
noncomputable def ring_line_join.B : Code := (Try.f45.body).getD .skip
noncomputable def ring_line_join.cx : Fx := ⟨Try.prog, 45, Try.f45⟩
noncomputable def ring_line_join.out (r_ : Unit) : Value := .tuple #[]
noncomputable def ring_line_join.F0 (r_ : Unit) : Reach := .ret (ring_line_join.out r_)
noncomputable def ring_line_join (a0 : (Option Addr)) (a1 : Int) : M Unit :=
  draw >>= fun _ =>
  nilck a0 >>= fun p1 =>
  ld cL p1 >>= fun x2 =>
  nilck a0 >>= fun p3 =>
  ld (cI .i64) (Addr.add p3 1) >>= fun x4 =>
  nilck a0 >>= fun p5 =>
  ld (cI .i64) (Addr.add p5 2) >>= fun x6 =>
  nilck a0 >>= fun p7 =>
  ld cL p7 >>= fun x8 =>
  chk ((x8.len : Int) ≠ 0) >>= fun _ =>
  idx x2.a x2.len (Int.tmod (IntKind.wrap .i64 (x4 + x6)) (x8.len : Int)) 1 >>= fun p9 =>
  st (cI .i64) p9 a1 >>= fun _ =>
  nilck a0 >>= fun p10 =>
  ld (cI .i64) (Addr.add p10 2) >>= fun x11 =>
  nilck a0 >>= fun p12 =>
  st (cI .i64) (Addr.add p12 2) (IntKind.wrap .i64 (x11 + 1)) >>= fun _ =>
  pure ()
theorem ring_line_join_ok (a0 : (Option Addr)) (a1 : Int) : Ref Try.prog 45 [.pointer a0, .int .i64 a1] (ring_line_join a0 a1) ring_line_join.out := by
  refine Ref.of (cd := ring_line_join.B) Try.func45 ?_
  show SJ ring_line_join.cx [.code ring_line_join.B] [(0, .pointer a0), (1, .int .i64 a1)] [] (ring_line_join a0 a1) ring_line_join.F0
  unfold ring_line_join
  refine SJ.seq ?_
  refine SJ.draw (id := 0) (kd := [0, 0, 0, 1, 0, 0, 0, 1, 0, 0, 0, 1, 0, 0, 0, 0, 1, 0, 0, 0, 0, 2]) (bef := [0, 1, 3, 7, 0, 16, 48, 112, 0, 256, 768, 1792, 4080, 0, 8192, 24576, 57344, 122880, 262128, 0, 1048575, 2097151]) (ord := [0, 1, 2, 3, 4, 5, 6, 7, 8, 9, 10, 11, 12, 13, 14, 15, 16, 17, 18, 19, 20, 21]) mixed ?_
  refine OJ.go 1 [(4, .pointer a0)] ?_
  refine OJ.nilck (d := 5) (y := .tmp 4) (fun p1 => ?_)
  refine OJ.go 1 [(6, .pointer (some p1))] ?_
  refine OJ.ld (d := 7) (y := .tmp 6) (pend2 := fun x2 => [⟨3, 67, p1, cL.val x2⟩]) Ty67 (fun _ => rfl) (fun x2 => ?_)
  refine OJ.go 1 [(8, .pointer a0)] ?_
  refine OJ.nilck (d := 9) (y := .tmp 8) (fun p3 => ?_)
  refine OJ.go 1 [(10, .pointer (some (Addr.add p3 1)))] ?_
  refine OJ.ld (d := 11) (y := .tmp 10) (pend2 := fun x4 => [⟨7, 3, (Addr.add p3 1), (cI .i64).val x4⟩, ⟨3, 67, p1, cL.val x2⟩]) Ty3 (fun _ => rfl) (fun x4 => ?_)
  refine OJ.go 1 [(12, .pointer a0)] ?_
  refine OJ.nilck (d := 13) (y := .tmp 12) (fun p5 => ?_)
  refine OJ.go 1 [(14, .pointer (some (Addr.add p5 2)))] ?_
  refine OJ.ld (d := 15) (y := .tmp 14) (pend2 := fun x6 => [⟨11, 3, (Addr.add p5 2), (cI .i64).val x6⟩, ⟨7, 3, (Addr.add p3 1), (cI .i64).val x4⟩, ⟨3, 67, p1, cL.val x2⟩]) Ty3 (fun _ => rfl) (fun x6 => ?_)
  refine OJ.go 2 [(17, .pointer a0), (16, .int .i64 (IntKind.wrap .i64 (x4 + x6)))] ?_
  refine OJ.nilck (d := 18) (y := .tmp 17) (fun p7 => ?_)
  refine OJ.go 1 [(19, .pointer (some p7))] ?_
  refine OJ.ld (d := 20) (y := .tmp 19) (pend2 := fun x8 => [⟨16, 67, p7, cL.val x8⟩, ⟨11, 3, (Addr.add p5 2), (cI .i64).val x6⟩, ⟨7, 3, (Addr.add p3 1), (cI .i64).val x4⟩, ⟨3, 67, p1, cL.val x2⟩]) Ty67 (fun _ => rfl) (fun x8 => ?_)
  refine OJ.go 1 [(21, .int .i64 (x8.len : Int))] ?_
  refine OJ.rem (d := 22) (T := 3) (yT := 3) (y := .tmp 16) (z := .tmp 21) (p := (IntKind.wrap .i64 (x4 + x6))) (q := (x8.len : Int)) (k := .i64) (fun hq13 => ?_)
  refine OJ.go 1 [(23, .int .i64 a1)] ?_
  refine OJ.idxS (d := 24) (T := 67) (y := .tmp 7) (j := .tmp 22) (E := 3) (cap := x2.cap) (k := .i64) (fun p9 => ?_)
  refine OJ.st (y := .tmp 24) (z := .tmp 23) (owed := []) Ty3 ?_
  refine OW.nil ?_
  refine OJ.nil ?_
  refine SJ.rg 8 ?_
  refine OJ.go 1 [(25, .pointer a0)] ?_
  refine OJ.nilck (d := 26) (y := .tmp 25) (fun p10 => ?_)
  refine OJ.go 1 [(27, .pointer (some (Addr.add p10 2)))] ?_
  refine OJ.ld (d := 28) (y := .tmp 27) (pend2 := fun x11 => []) Ty3 (fun _ => rfl) (fun x11 => ?_)
  refine OJ.go 1 [(29, .int .i64 (IntKind.wrap .i64 (x11 + 1)))] ?_
  refine OJ.nilck (d := 30) (y := .tmp 25) (fun p12 => ?_)
  refine OJ.go 1 [(31, .pointer (some (Addr.add p12 2)))] ?_
  refine OJ.st (y := .tmp 31) (z := .tmp 29) (owed := []) Ty3 ?_
  refine OW.nil ?_
  refine OJ.nil ?_
  exact SJ.end_ rfl (Res.run (ys := []) .nil rfl)

/-! ### weir/ring.New: function 13 -/
noncomputable def ring_New.B : Code := (Try.f13.body).getD .skip
noncomputable def ring_New.cx : Fx := ⟨Try.prog, 13, Try.f13⟩
noncomputable def ring_New.out (r_ : ((Option Addr) × Int)) : Value := .tuple #[.pointer r_.1, .int .i64 r_.2]
noncomputable def ring_New.F0 (r_ : ((Option Addr) × Int)) : Reach := .ret (ring_New.out r_)
noncomputable def ring_New.F1 (a2 : Int) (j38 : Addr) : (LS Int ((Option Addr) × Int)) → Reach := loopF [.inLoop (c1 (c1 (c2 (c1 (c2 (c2 (c2 (c2 ring_New.B)))))))), .inBlock 0, .code (c2 (c2 (c2 (c2 (c2 ring_New.B)))))] (fun s_ : Int => [(10, .pointer (some j38)), (73, .int .i64 a2), (74, .int .i64 s_)]) (fun s_ : Int => []) ring_New.F0
noncomputable def ring_New.L1 (a2 : Int) (j38 : Addr) (s43 : Int) : M (LS Int ((Option Addr) × Int)) :=
  if s43 < a2 then
    ld cL (Addr.add j38 4) >>= fun x48 =>
    idx x48.a x48.len s43 1 >>= fun p49 =>
    st (cI .i64) p49 1 >>= fun _ =>
    ring_line_join (some (Addr.add j38 6)) s43 >>= fun r50 =>
    pure (LS.next (IntKind.wrap .i64 (s43 + 1)))
  else
    pure (LS.done ((some j38), 0))
theorem ring_New.L1_ok (a2 : Int) (j38 : Addr) (s43 : Int) :
    SJ ring_New.cx [.code (c1 (c1 (c2 (c1 (c2 (c2 (c2 (c2 ring_New.B)))))))), .inLoop (c1 (c1 (c2 (c1 (c2 (c2 (c2 (c2 ring_New.B)))))))), .inBlock 0, .code (c2 (c2 (c2 (c2 (c2 ring_New.B)))))] [(10, .pointer (some j38)), (73, .int .i64 a2), (74, .int .i64 s43)] [] (ring_New.L1 a2 j38 s43) (ring_New.F1 a2 j38) := by
  unfold ring_New.L1
  refine SJ.sr 1 ?_
  refine OJ.go 1 [(75, .bool (decide (s43 < a2)))] ?_
  refine OJ.nil ?_
  refine SJ.seq ?_
  refine SJ.cond (t := (.tmp 75)) (b := decide (s43 < a2)) decide_eq_true_iff (fun hc51 => ?_) (fun hc51 => ?_)
  · refine SJ.skip ?_
    refine SJ.seq ?_
    refine SJ.block (id := 1) ?_
    refine SJ.sr 2 ?_
    refine OJ.go 2 [(11, .int .i64 s43), (76, .int .i64 s43)] ?_
    refine OJ.nil ?_
    refine SJ.sr 7 ?_
    refine OJ.go 3 [(79, .pointer (some (Addr.add j38 4))), (78, .pointer (some j38)), (77, .pointer (some j38))] ?_
    refine OJ.ld (d := 80) (y := .tmp 79) (pend2 := fun x48 => []) Ty67 (fun _ => rfl) (fun x48 => ?_)
    refine OJ.go 1 [(81, .int .i64 s43)] ?_
    refine OJ.idxS (d := 82) (T := 67) (y := .tmp 80) (j := .tmp 81) (E := 3) (cap := x48.cap) (k := .i64) (fun p49 => ?_)
    refine OJ.st (y := .tmp 82) (z := .const (.int .i64 1)) (owed := []) Ty3 ?_
    refine OW.nil ?_
    refine OJ.nil ?_
    refine SJ.rg 5 ?_
    refine OJ.go 4 [(86, .int .i64 s43), (85, .pointer (some (Addr.add j38 6))), (84, .pointer (some j38)), (83, .pointer (some j38))] ?_
    refine OJ.call (d := 87) (g := 45) (ats := #[86, 3]) (args := [.tmp 85, .tmp 86]) (owed := []) F45 (ring_line_join_ok (some (Addr.add j38 6)) s43) (fun r50 => ?_)
    refine OW.nil ?_
    refine OJ.nil ?_
    refine SJ.inBlock ?_
    refine SJ.rg 2 ?_
    refine OJ.go 2 [(74, .int .i64 (IntKind.wrap .i64 (s43 + 1))), (88, .int .i64 (IntKind.wrap .i64 (s43 + 1)))] ?_
    refine OJ.nil ?_
    exact SJ.at_ [10, 73, 74] rfl
  · refine SJ.exit (id := 0) (by rfl) ?_
    refine SJ.sr 3 ?_
    refine OJ.go 3 [(9, .int .i64 0), (8, .pointer (some j38)), (89, .pointer (some j38))] ?_
    refine OJ.nil ?_
    exact SJ.ret rfl (Res.run (ys := [.pointer (some j38), .int .i64 0]) (.tmp (by kernel_rfl) (.tmp (by kernel_rfl) .nil)) rfl)
noncomputable def ring_New.K1 (a0 : Int) (a1 : Int) (a2 : Int) (j38 : Addr) : M ((Option Addr) × Int) :=
  ring_newLine a2 >>= fun r39 =>
  ring_newLine a0 >>= fun r40 =>
  ring_newLine a0 >>= fun r41 =>
  ring_newLine a1 >>= fun r42 =>
  st c_ring_line (Addr.add j38 6) r39 >>= fun _ =>
  st c_ring_line (Addr.add j38 9) r40 >>= fun _ =>
  st c_ring_line (Addr.add j38 12) r41 >>= fun _ =>
  st c_ring_line (Addr.add j38 15) r42 >>= fun _ =>
  loopM (fun s_ : Int => ring_New.L1 a2 j38 s_) 0
theorem ring_New.K1_ok (a0 : Int) (a1 : Int) (a2 : Int) (j38 : Addr) :
    SJ ring_New.cx [.code (c2 (c2 (c2 ring_New.B)))] [(0, .int .i64 a0), (1, .int .i64 a1), (2, .int .i64 a2), (10, .pointer (some j38))] [] (ring_New.K1 a0 a1 a2 j38) ring_New.F0 := by
  unfold ring_New.K1
  refine SJ.sr 24 ?_
  refine OJ.go 5 [(57, .int .i64 a2), (56, .pointer (some j38)), (55, .pointer (some j38)), (54, .pointer (some j38)), (53, .pointer (some j38))] ?_
  refine OJ.call (d := 58) (g := 44) (ats := #[3]) (args := [.tmp 57]) (owed := []) F44 (ring_newLine_ok a2) (fun r39 => ?_)
  refine OW.nil ?_
  refine OJ.go 1 [(59, .int .i64 a0)] ?_
  refine OJ.call (d := 60) (g := 44) (ats := #[3]) (args := [.tmp 59]) (owed := []) F44 (ring_newLine_ok a0) (fun r40 => ?_)
  refine OW.nil ?_
  refine OJ.go 1 [(61, .int .i64 a0)] ?_
  refine OJ.call (d := 62) (g := 44) (ats := #[3]) (args := [.tmp 61]) (owed := []) F44 (ring_newLine_ok a0) (fun r41 => ?_)
  refine OW.nil ?_
  refine OJ.go 1 [(63, .int .i64 a1)] ?_
  refine OJ.call (d := 64) (g := 44) (ats := #[3]) (args := [.tmp 63]) (owed := []) F44 (ring_newLine_ok a1) (fun r42 => ?_)
  refine OW.nil ?_
  refine OJ.go 2 [(66, .pointer (some (Addr.add j38 6))), (65, .pointer (some j38))] ?_
  refine OJ.st (y := .tmp 66) (z := .tmp 58) (owed := []) Ty86 ?_
  refine OW.nil ?_
  refine OJ.go 2 [(68, .pointer (some (Addr.add j38 9))), (67, .pointer (some j38))] ?_
  refine OJ.st (y := .tmp 68) (z := .tmp 60) (owed := []) Ty86 ?_
  refine OW.nil ?_
  refine OJ.go 2 [(70, .pointer (some (Addr.add j38 12))), (69, .pointer (some j38))] ?_
  refine OJ.st (y := .tmp 70) (z := .tmp 62) (owed := []) Ty86 ?_
  refine OW.nil ?_
  refine OJ.go 2 [(72, .pointer (some (Addr.add j38 15))), (71, .pointer (some j38))] ?_
  refine OJ.st (y := .tmp 72) (z := .tmp 64) (owed := []) Ty86 ?_
  refine OW.nil ?_
  refine OJ.nil ?_
  refine SJ.seq ?_
  refine SJ.sr 2 ?_
  refine OJ.go 2 [(74, .int .i64 0), (73, .int .i64 a2)] ?_
  refine OJ.nil ?_
  refine SJ.block (id := 0) ?_
  exact SJ.loop (fun s_ : Int => [(10, .pointer (some j38)), (73, .int .i64 a2), (74, .int .i64 s_)]) (fun s_ : Int => []) [10, 73, 74] rfl (fun _ _ => rfl) (fun s_ => ring_New.L1_ok a2 j38 s_)
noncomputable def ring_New (a0 : Int) (a1 : Int) (a2 : Int) (a3 : Int) : M ((Option Addr) × Int) :=
  (if a0 < 1 then
      pure true
    else
      pure (decide (a0 > 4096))) >>= fun y1 =>
  (if y1 = true then
      pure true
    else
      pure (decide (a1 < 1))) >>= fun y2 =>
  (if y2 = true then
      pure true
    else
      pure (decide (a1 > 4096))) >>= fun y3 =>
  (if y3 = true then
      pure true
    else
      pure (decide (a2 < 1))) >>= fun y4 =>
  (if y4 = true then
      pure true
    else
      pure (decide (a2 > 8192))) >>= fun y5 =>
  (if y5 = true then
      pure true
    else
      pure (decide (a3 < 64))) >>= fun y6 =>
  (if y6 = true then
      pure true
    else
      pure (decide (a3 > 65535))) >>= fun y7 =>
  if y7 = true then
    pure (none, 1)
  else
    draws 13 3 (opsOf (c1 (c2 (c2 ring_New.B)))) >>= fun o8 =>
    if bfr o8 4 6 = true then
      if bfr o8 4 8 = true then
        if bfr o8 6 8 = true then
          mkS cL 22 24 Sl.nil a2 a2 >>= fun r55 =>
          mkS (cI .i64) 3 8 0 a2 a2 >>= fun r56 =>
          mkS (cI .i64) 3 8 0 a2 a2 >>= fun r57 =>
          newv 88 c_ring_Port (⟨a3, a0, a1, r55, r56, r57, z_ring_Port.free, z_ring_Port.posted, z_ring_Port.filled, z_ring_Port.queued⟩ : ring_Port) >>= fun b58 =>
          ring_New.K1 a0 a1 a2 (pt b58 0)
        else
          mkS cL 22 24 Sl.nil a2 a2 >>= fun r59 =>
          mkS (cI .i64) 3 8 0 a2 a2 >>= fun r60 =>
          mkS (cI .i64) 3 8 0 a2 a2 >>= fun r61 =>
          newv 88 c_ring_Port (⟨a3, a0, a1, r59, r61, r60, z_ring_Port.free, z_ring_Port.posted, z_ring_Port.filled, z_ring_Port.queued⟩ : ring_Port) >>= fun b62 =>
          ring_New.K1 a0 a1 a2 (pt b62 0)
      else
        mkS (cI .i64) 3 8 0 a2 a2 >>= fun r63 =>
        mkS cL 22 24 Sl.nil a2 a2 >>= fun r64 =>
        mkS (cI .i64) 3 8 0 a2 a2 >>= fun r65 =>
        newv 88 c_ring_Port (⟨a3, a0, a1, r64, r65, r63, z_ring_Port.free, z_ring_Port.posted, z_ring_Port.filled, z_ring_Port.queued⟩ : ring_Port) >>= fun b66 =>
        ring_New.K1 a0 a1 a2 (pt b66 0)
    else
      if bfr o8 6 8 = true then
        if bfr o8 4 8 = true then
          mkS (cI .i64) 3 8 0 a2 a2 >>= fun r69 =>
          mkS cL 22 24 Sl.nil a2 a2 >>= fun r70 =>
          mkS (cI .i64) 3 8 0 a2 a2 >>= fun r71 =>
          newv 88 c_ring_Port (⟨a3, a0, a1, r70, r69, r71, z_ring_Port.free, z_ring_Port.posted, z_ring_Port.filled, z_ring_Port.queued⟩ : ring_Port) >>= fun b72 =>
          ring_New.K1 a0 a1 a2 (pt b72 0)
        else
          mkS (cI .i64) 3 8 0 a2 a2 >>= fun r73 =>
          mkS (cI .i64) 3 8 0 a2 a2 >>= fun r74 =>
          mkS cL 22 24 Sl.nil a2 a2 >>= fun r75 =>
          newv 88 c_ring_Port (⟨a3, a0, a1, r75, r73, r74, z_ring_Port.free, z_ring_Port.posted, z_ring_Port.filled, z_ring_Port.queued⟩ : ring_Port) >>= fun b76 =>
          ring_New.K1 a0 a1 a2 (pt b76 0)
      else
        mkS (cI .i64) 3 8 0 a2 a2 >>= fun r77 =>
        mkS (cI .i64) 3 8 0 a2 a2 >>= fun r78 =>
        mkS cL 22 24 Sl.nil a2 a2 >>= fun r79 =>
        newv 88 c_ring_Port (⟨a3, a0, a1, r79, r78, r77, z_ring_Port.free, z_ring_Port.posted, z_ring_Port.filled, z_ring_Port.queued⟩ : ring_Port) >>= fun b80 =>
        ring_New.K1 a0 a1 a2 (pt b80 0)
theorem ring_New_ok (a0 : Int) (a1 : Int) (a2 : Int) (a3 : Int) : Ref Try.prog 13 [.int .i64 a0, .int .i64 a1, .int .i64 a2, .int .i64 a3] (ring_New a0 a1 a2 a3) ring_New.out := by
  refine Ref.of (cd := ring_New.B) Try.func13 ?_
  show SJ ring_New.cx [.code ring_New.B] [(0, .int .i64 a0), (1, .int .i64 a1), (2, .int .i64 a2), (3, .int .i64 a3)] [] (ring_New a0 a1 a2 a3) ring_New.F0
  unfold ring_New
  refine SJ.sr 2 ?_
  refine OJ.go 2 [(9, .int .i64 0), (8, .pointer none)] ?_
  refine OJ.nil ?_
  refine SJ.seq ?_
  refine SJ.sr 30 ?_
  refine OJ.go 3 [(14, .bool (decide (a0 < 1))), (13, .bool (decide (a0 < 1))), (12, .int .i64 a0)] ?_
  refine OJ.join (b := decide (a0 < 1)) [3, 4, 5] [6, 7, 8, 9, 10, 11, 12, 13, 14, 15, 16, 17, 18, 19, 20, 21, 22, 23, 24, 25, 26, 27, 28, 29] [0, 1, 2, 3, 17] (fun y1 => [(0, .int .i64 a0), (1, .int .i64 a1), (2, .int .i64 a2), (3, .int .i64 a3), (17, .bool y1)]) [] [] (t := 14) decide_eq_true_iff (fun hp_ => ?_) (fun hp_ => ?_) (fun _ _ _ _ _ _ h_ => h_) (fun y1 => ?_)
  · refine OJ.go 3 [(17, .bool true), (16, undef), (15, undef)] ?_
    exact OJ.nil ⟨(Cov.mem Cov.nil), rfl, _, rfl, by kernel_rfl⟩
  · refine OJ.go 3 [(17, .bool (decide (a0 > 4096))), (16, .bool (decide (a0 > 4096))), (15, .int .i64 a0)] ?_
    exact OJ.nil ⟨(Cov.mem Cov.nil), rfl, _, rfl, by kernel_rfl⟩
  · refine OJ.go 1 [(18, .bool y1)] ?_
    refine OJ.join (b := y1) [7, 8, 9] [10, 11, 12, 13, 14, 15, 16, 17, 18, 19, 20, 21, 22, 23, 24, 25, 26, 27, 28, 29] [0, 1, 2, 3, 21] (fun y2 => [(0, .int .i64 a0), (1, .int .i64 a1), (2, .int .i64 a2), (3, .int .i64 a3), (21, .bool y2)]) [] [] (t := 18) Iff.rfl (fun hp_ => ?_) (fun hp_ => ?_) (fun _ _ _ _ _ _ h_ => h_) (fun y2 => ?_)
    · refine OJ.go 3 [(21, .bool true), (20, undef), (19, undef)] ?_
      exact OJ.nil ⟨(Cov.mem Cov.nil), rfl, _, rfl, by kernel_rfl⟩
    · refine OJ.go 3 [(21, .bool (decide (a1 < 1))), (20, .bool (decide (a1 < 1))), (19, .int .i64 a1)] ?_
      exact OJ.nil ⟨(Cov.mem Cov.nil), rfl, _, rfl, by kernel_rfl⟩
    · refine OJ.go 1 [(22, .bool y2)] ?_
      refine OJ.join (b := y2) [11, 12, 13] [14, 15, 16, 17, 18, 19, 20, 21, 22, 23, 24, 25, 26, 27, 28, 29] [0, 1, 2, 3, 25] (fun y3 => [(0, .int .i64 a0), (1, .int .i64 a1), (2, .int .i64 a2), (3, .int .i64 a3), (25, .bool y3)]) [] [] (t := 22) Iff.rfl (fun hp_ => ?_) (fun hp_ => ?_) (fun _ _ _ _ _ _ h_ => h_) (fun y3 => ?_)
      · refine OJ.go 3 [(25, .bool true), (24, undef), (23, undef)] ?_
        exact OJ.nil ⟨(Cov.mem Cov.nil), rfl, _, rfl, by kernel_rfl⟩
      · refine OJ.go 3 [(25, .bool (decide (a1 > 4096))), (24, .bool (decide (a1 > 4096))), (23, .int .i64 a1)] ?_
        exact OJ.nil ⟨(Cov.mem Cov.nil), rfl, _, rfl, by kernel_rfl⟩
      · refine OJ.go 1 [(26, .bool y3)] ?_
        refine OJ.join (b := y3) [15, 16, 17] [18, 19, 20, 21, 22, 23, 24, 25, 26, 27, 28, 29] [0, 1, 2, 3, 29] (fun y4 => [(0, .int .i64 a0), (1, .int .i64 a1), (2, .int .i64 a2), (3, .int .i64 a3), (29, .bool y4)]) [] [] (t := 26) Iff.rfl (fun hp_ => ?_) (fun hp_ => ?_) (fun _ _ _ _ _ _ h_ => h_) (fun y4 => ?_)
        · refine OJ.go 3 [(29, .bool true), (28, undef), (27, undef)] ?_
          exact OJ.nil ⟨(Cov.mem Cov.nil), rfl, _, rfl, by kernel_rfl⟩
        · refine OJ.go 3 [(29, .bool (decide (a2 < 1))), (28, .bool (decide (a2 < 1))), (27, .int .i64 a2)] ?_
          exact OJ.nil ⟨(Cov.mem Cov.nil), rfl, _, rfl, by kernel_rfl⟩
        · refine OJ.go 1 [(30, .bool y4)] ?_
          refine OJ.join (b := y4) [19, 20, 21] [22, 23, 24, 25, 26, 27, 28, 29] [0, 1, 2, 3, 33] (fun y5 => [(0, .int .i64 a0), (1, .int .i64 a1), (2, .int .i64 a2), (3, .int .i64 a3), (33, .bool y5)]) [] [] (t := 30) Iff.rfl (fun hp_ => ?_) (fun hp_ => ?_) (fun _ _ _ _ _ _ h_ => h_) (fun y5 => ?_)
          · refine OJ.go 3 [(33, .bool true), (32, undef), (31, undef)] ?_
            exact OJ.nil ⟨(Cov.mem Cov.nil), rfl, _, rfl, by kernel_rfl⟩
          · refine OJ.go 3 [(33, .bool (decide (a2 > 8192))), (32, .bool (decide (a2 > 8192))), (31, .int .i64 a2)] ?_
            exact OJ.nil ⟨(Cov.mem Cov.nil), rfl, _, rfl, by kernel_rfl⟩
          · refine OJ.go 1 [(34, .bool y5)] ?_
            refine OJ.join (b := y5) [23, 24, 25] [26, 27, 28, 29] [0, 1, 2, 3, 37] (fun y6 => [(0, .int .i64 a0), (1, .int .i64 a1), (2, .int .i64 a2), (3, .int .i64 a3), (37, .bool y6)]) [] [] (t := 34) Iff.rfl (fun hp_ => ?_) (fun hp_ => ?_) (fun _ _ _ _ _ _ h_ => h_) (fun y6 => ?_)
            · refine OJ.go 3 [(37, .bool true), (36, undef), (35, undef)] ?_
              exact OJ.nil ⟨(Cov.mem Cov.nil), rfl, _, rfl, by kernel_rfl⟩
            · refine OJ.go 3 [(37, .bool (decide (a3 < 64))), (36, .bool (decide (a3 < 64))), (35, .int .i64 a3)] ?_
              exact OJ.nil ⟨(Cov.mem Cov.nil), rfl, _, rfl, by kernel_rfl⟩
            · refine OJ.go 1 [(38, .bool y6)] ?_
              refine OJ.join (b := y6) [27, 28, 29] [] [0, 1, 2, 3, 41] (fun y7 => [(0, .int .i64 a0), (1, .int .i64 a1), (2, .int .i64 a2), (3, .int .i64 a3), (41, .bool y7)]) [] [] (t := 38) Iff.rfl (fun hp_ => ?_) (fun hp_ => ?_) (fun _ _ _ _ _ _ h_ => h_) (fun y7 => ?_)
              · refine OJ.go 3 [(41, .bool true), (40, undef), (39, undef)] ?_
                exact OJ.nil ⟨(Cov.mem Cov.nil), rfl, _, rfl, by kernel_rfl⟩
              · refine OJ.go 3 [(41, .bool (decide (a3 > 65535))), (40, .bool (decide (a3 > 65535))), (39, .int .i64 a3)] ?_
                exact OJ.nil ⟨(Cov.mem Cov.nil), rfl, _, rfl, by kernel_rfl⟩
              · refine OJ.nil ?_
                refine SJ.cond (t := (.tmp 41)) (b := y7) Iff.rfl (fun hc81 => ?_) (fun hc81 => ?_)
                · refine SJ.sr 2 ?_
                  refine OJ.go 2 [(9, .int .i64 1), (8, .pointer none)] ?_
                  refine OJ.nil ?_
                  exact SJ.ret rfl (Res.run (ys := [.pointer none, .int .i64 1]) (.tmp (by kernel_rfl) (.tmp (by kernel_rfl) .nil)) rfl)
                · refine SJ.skip ?_
                  refine SJ.seq ?_
                  refine SJ.draws (id := 3) (kd := [0, 0, 0, 0, 2, 0, 2, 0, 2, 0, 2, 0]) (bef := [0, 0, 0, 0, 8, 0, 32, 0, 128, 511, 1023, 2047]) (ord := [0, 1, 2, 3, 4, 5, 6, 7, 8, 9, 10, 11]) (E := [(4, 6), (4, 8), (6, 8)]) mixed (fun o8 hg_ => ?_)
                  refine SJ.bfr hg_ (by decide) (fun ho52 => ?_) (fun ho52 => ?_)
                  · refine SJ.bfr hg_ (by decide) (fun ho53 => ?_) (fun ho53 => ?_)
                    · refine SJ.bfr hg_ (by decide) (fun ho54 => ?_) (fun ho54 => ?_)
                      · refine SJ.leaf hg_ (kd := [0, 0, 0, 0, 2, 0, 2, 0, 2, 0, 2, 0]) (bef := [0, 0, 0, 0, 8, 0, 32, 0, 128, 511, 1023, 2047]) (ord := [0, 1, 2, 3, 4, 5, 6, 7, 8, 9, 10, 11]) (E := [(4, 6), (4, 8), (6, 8)]) (allB.cons ho52 (allB.cons ho53 (allB.cons ho54 allB.nil))) ?_
                        refine OJ.go 4 [(45, .int .i64 a2), (44, .int .i64 a1), (43, .int .i64 a0), (42, .int .i64 a3)] ?_
                        refine OJ.mk (d := 46) (t := 43) (lo := .tmp 45) (ko := .tmp 45) (k1 := .i64) (k2 := .i64) (owed := []) Ty22 (fun r55 => ?_)
                        refine OW.nil ?_
                        refine OJ.go 1 [(47, .int .i64 a2)] ?_
                        refine OJ.mk (d := 48) (t := 67) (lo := .tmp 47) (ko := .tmp 47) (k1 := .i64) (k2 := .i64) (owed := []) Ty3 (fun r56 => ?_)
                        refine OW.nil ?_
                        refine OJ.go 1 [(49, .int .i64 a2)] ?_
                        refine OJ.mk (d := 50) (t := 67) (lo := .tmp 49) (ko := .tmp 49) (k1 := .i64) (k2 := .i64) (owed := []) Ty3 (fun r57 => ?_)
                        refine OW.nil ?_
                        refine OJ.build (d := 51) (T := 88) (parts := [(0, .tmp 42), (1, .tmp 43), (2, .tmp 44), (3, .tmp 46), (4, .tmp 48), (5, .tmp 50)]) (ps := [(0, (cI .i64).val a3), (1, (cI .i64).val a0), (2, (cI .i64).val a1), (3, cL.val r55), (4, cL.val r56), (5, cL.val r57)]) (cd := c_ring_Port) (z0 := z_ring_Port) (⟨a3, a0, a1, r55, r56, r57, z_ring_Port.free, z_ring_Port.posted, z_ring_Port.filled, z_ring_Port.queued⟩ : ring_Port) Ty88 rfl (Filled.cons (cd := (cI .i64)) (q := a3) (o := 0) (by kernel_rfl) (Up_ring_Port_size z_ring_Port a3) (Filled.cons (cd := (cI .i64)) (q := a0) (o := 1) (by kernel_rfl) (Up_ring_Port_rx (⟨a3, z_ring_Port.rx, z_ring_Port.tx, z_ring_Port.pool, z_ring_Port.place, z_ring_Port.length, z_ring_Port.free, z_ring_Port.posted, z_ring_Port.filled, z_ring_Port.queued⟩ : ring_Port) a0) (Filled.cons (cd := (cI .i64)) (q := a1) (o := 2) (by kernel_rfl) (Up_ring_Port_tx (⟨a3, a0, z_ring_Port.tx, z_ring_Port.pool, z_ring_Port.place, z_ring_Port.length, z_ring_Port.free, z_ring_Port.posted, z_ring_Port.filled, z_ring_Port.queued⟩ : ring_Port) a1) (Filled.cons (cd := cL) (q := r55) (o := 3) (by kernel_rfl) (Up_ring_Port_pool (⟨a3, a0, a1, z_ring_Port.pool, z_ring_Port.place, z_ring_Port.length, z_ring_Port.free, z_ring_Port.posted, z_ring_Port.filled, z_ring_Port.queued⟩ : ring_Port) r55) (Filled.cons (cd := cL) (q := r56) (o := 4) (by kernel_rfl) (Up_ring_Port_place (⟨a3, a0, a1, r55, z_ring_Port.place, z_ring_Port.length, z_ring_Port.free, z_ring_Port.posted, z_ring_Port.filled, z_ring_Port.queued⟩ : ring_Port) r56) (Filled.cons (cd := cL) (q := r57) (o := 5) (by kernel_rfl) (Up_ring_Port_length (⟨a3, a0, a1, r55, r56, z_ring_Port.length, z_ring_Port.free, z_ring_Port.posted, z_ring_Port.filled, z_ring_Port.queued⟩ : ring_Port) r57) Filled.nil)))))) ?_
                        refine OJ.newOf (d := 52) (op := (.box 88 (.tmp 51))) (cd := c_ring_Port) (u := (⟨a3, a0, a1, r55, r56, r57, z_ring_Port.free, z_ring_Port.posted, z_ring_Port.filled, z_ring_Port.queued⟩ : ring_Port)) (owed := []) (box_run (by kernel_rfl)) (fun b58 => ?_)
                        refine OW.nil ?_
                        refine OJ.go 1 [(10, .pointer (some (pt b58 0)))] ?_
                        refine OJ.nil ?_
                        refine SJ.less [0, 1, 2, 10] (m' := [(0, .int .i64 a0), (1, .int .i64 a1), (2, .int .i64 a2), (10, .pointer (some (pt b58 0)))]) ?_
                        exact ring_New.K1_ok a0 a1 a2 (pt b58 0)
                      · refine SJ.leaf hg_ (kd := [0, 0, 0, 0, 2, 0, 2, 0, 2, 0, 2, 0]) (bef := [0, 0, 0, 0, 8, 0, 32, 0, 128, 511, 1023, 2047]) (ord := [0, 1, 2, 3, 4, 5, 7, 8, 6, 9, 10, 11]) (E := [(4, 8), (4, 6), (8, 6)]) (allB.cons ho53 (allB.cons ho52 (allB.cons ho54 allB.nil))) ?_
                        refine OJ.go 4 [(45, .int .i64 a2), (44, .int .i64 a1), (43, .int .i64 a0), (42, .int .i64 a3)] ?_
                        refine OJ.mk (d := 46) (t := 43) (lo := .tmp 45) (ko := .tmp 45) (k1 := .i64) (k2 := .i64) (owed := []) Ty22 (fun r59 => ?_)
                        refine OW.nil ?_
                        refine OJ.go 2 [(49, .int .i64 a2), (47, .int .i64 a2)] ?_
                        refine OJ.mk (d := 50) (t := 67) (lo := .tmp 49) (ko := .tmp 49) (k1 := .i64) (k2 := .i64) (owed := []) Ty3 (fun r60 => ?_)
                        refine OW.nil ?_
                        refine OJ.mk (d := 48) (t := 67) (lo := .tmp 47) (ko := .tmp 47) (k1 := .i64) (k2 := .i64) (owed := []) Ty3 (fun r61 => ?_)
                        refine OW.nil ?_
                        refine OJ.build (d := 51) (T := 88) (parts := [(0, .tmp 42), (1, .tmp 43), (2, .tmp 44), (3, .tmp 46), (4, .tmp 48), (5, .tmp 50)]) (ps := [(0, (cI .i64).val a3), (1, (cI .i64).val a0), (2, (cI .i64).val a1), (3, cL.val r59), (4, cL.val r61), (5, cL.val r60)]) (cd := c_ring_Port) (z0 := z_ring_Port) (⟨a3, a0, a1, r59, r61, r60, z_ring_Port.free, z_ring_Port.posted, z_ring_Port.filled, z_ring_Port.queued⟩ : ring_Port) Ty88 rfl (Filled.cons (cd := (cI .i64)) (q := a3) (o := 0) (by kernel_rfl) (Up_ring_Port_size z_ring_Port a3) (Filled.cons (cd := (cI .i64)) (q := a0) (o := 1) (by kernel_rfl) (Up_ring_Port_rx (⟨a3, z_ring_Port.rx, z_ring_Port.tx, z_ring_Port.pool, z_ring_Port.place, z_ring_Port.length, z_ring_Port.free, z_ring_Port.posted, z_ring_Port.filled, z_ring_Port.queued⟩ : ring_Port) a0) (Filled.cons (cd := (cI .i64)) (q := a1) (o := 2) (by kernel_rfl) (Up_ring_Port_tx (⟨a3, a0, z_ring_Port.tx, z_ring_Port.pool, z_ring_Port.place, z_ring_Port.length, z_ring_Port.free, z_ring_Port.posted, z_ring_Port.filled, z_ring_Port.queued⟩ : ring_Port) a1) (Filled.cons (cd := cL) (q := r59) (o := 3) (by kernel_rfl) (Up_ring_Port_pool (⟨a3, a0, a1, z_ring_Port.pool, z_ring_Port.place, z_ring_Port.length, z_ring_Port.free, z_ring_Port.posted, z_ring_Port.filled, z_ring_Port.queued⟩ : ring_Port) r59) (Filled.cons (cd := cL) (q := r61) (o := 4) (by kernel_rfl) (Up_ring_Port_place (⟨a3, a0, a1, r59, z_ring_Port.place, z_ring_Port.length, z_ring_Port.free, z_ring_Port.posted, z_ring_Port.filled, z_ring_Port.queued⟩ : ring_Port) r61) (Filled.cons (cd := cL) (q := r60) (o := 5) (by kernel_rfl) (Up_ring_Port_length (⟨a3, a0, a1, r59, r61, z_ring_Port.length, z_ring_Port.free, z_ring_Port.posted, z_ring_Port.filled, z_ring_Port.queued⟩ : ring_Port) r60) Filled.nil)))))) ?_
                        refine OJ.newOf (d := 52) (op := (.box 88 (.tmp 51))) (cd := c_ring_Port) (u := (⟨a3, a0, a1, r59, r61, r60, z_ring_Port.free, z_ring_Port.posted, z_ring_Port.filled, z_ring_Port.queued⟩ : ring_Port)) (owed := []) (box_run (by kernel_rfl)) (fun b62 => ?_)
                        refine OW.nil ?_
                        refine OJ.go 1 [(10, .pointer (some (pt b62 0)))] ?_
                        refine OJ.nil ?_
                        refine SJ.less [0, 1, 2, 10] (m' := [(0, .int .i64 a0), (1, .int .i64 a1), (2, .int .i64 a2), (10, .pointer (some (pt b62 0)))]) ?_
                        exact ring_New.K1_ok a0 a1 a2 (pt b62 0)
                    · refine SJ.leaf hg_ (kd := [0, 0, 0, 0, 2, 0, 2, 0, 2, 0, 2, 0]) (bef := [0, 0, 0, 0, 8, 0, 32, 0, 128, 511, 1023, 2047]) (ord := [0, 1, 2, 3, 7, 8, 4, 5, 6, 9, 10, 11]) (E := [(8, 4), (8, 6), (4, 6)]) (allB.cons ho53 (allB.cons (bfr_trans ho53 ho52) (allB.cons ho52 allB.nil))) ?_
                      refine OJ.go 5 [(49, .int .i64 a2), (45, .int .i64 a2), (44, .int .i64 a1), (43, .int .i64 a0), (42, .int .i64 a3)] ?_
                      refine OJ.mk (d := 50) (t := 67) (lo := .tmp 49) (ko := .tmp 49) (k1 := .i64) (k2 := .i64) (owed := []) Ty3 (fun r63 => ?_)
                      refine OW.nil ?_
                      refine OJ.mk (d := 46) (t := 43) (lo := .tmp 45) (ko := .tmp 45) (k1 := .i64) (k2 := .i64) (owed := []) Ty22 (fun r64 => ?_)
                      refine OW.nil ?_
                      refine OJ.go 1 [(47, .int .i64 a2)] ?_
                      refine OJ.mk (d := 48) (t := 67) (lo := .tmp 47) (ko := .tmp 47) (k1 := .i64) (k2 := .i64) (owed := []) Ty3 (fun r65 => ?_)
                      refine OW.nil ?_
                      refine OJ.build (d := 51) (T := 88) (parts := [(0, .tmp 42), (1, .tmp 43), (2, .tmp 44), (3, .tmp 46), (4, .tmp 48), (5, .tmp 50)]) (ps := [(0, (cI .i64).val a3), (1, (cI .i64).val a0), (2, (cI .i64).val a1), (3, cL.val r64), (4, cL.val r65), (5, cL.val r63)]) (cd := c_ring_Port) (z0 := z_ring_Port) (⟨a3, a0, a1, r64, r65, r63, z_ring_Port.free, z_ring_Port.posted, z_ring_Port.filled, z_ring_Port.queued⟩ : ring_Port) Ty88 rfl (Filled.cons (cd := (cI .i64)) (q := a3) (o := 0) (by kernel_rfl) (Up_ring_Port_size z_ring_Port a3) (Filled.cons (cd := (cI .i64)) (q := a0) (o := 1) (by kernel_rfl) (Up_ring_Port_rx (⟨a3, z_ring_Port.rx, z_ring_Port.tx, z_ring_Port.pool, z_ring_Port.place, z_ring_Port.length, z_ring_Port.free, z_ring_Port.posted, z_ring_Port.filled, z_ring_Port.queued⟩ : ring_Port) a0) (Filled.cons (cd := (cI .i64)) (q := a1) (o := 2) (by kernel_rfl) (Up_ring_Port_tx (⟨a3, a0, z_ring_Port.tx, z_ring_Port.pool, z_ring_Port.place, z_ring_Port.length, z_ring_Port.free, z_ring_Port.posted, z_ring_Port.filled, z_ring_Port.queued⟩ : ring_Port) a1) (Filled.cons (cd := cL) (q := r64) (o := 3) (by kernel_rfl) (Up_ring_Port_pool (⟨a3, a0, a1, z_ring_Port.pool, z_ring_Port.place, z_ring_Port.length, z_ring_Port.free, z_ring_Port.posted, z_ring_Port.filled, z_ring_Port.queued⟩ : ring_Port) r64) (Filled.cons (cd := cL) (q := r65) (o := 4) (by kernel_rfl) (Up_ring_Port_place (⟨a3, a0, a1, r64, z_ring_Port.place, z_ring_Port.length, z_ring_Port.free, z_ring_Port.posted, z_ring_Port.filled, z_ring_Port.queued⟩ : ring_Port) r65) (Filled.cons (cd := cL) (q := r63) (o := 5) (by kernel_rfl) (Up_ring_Port_length (⟨a3, a0, a1, r64, r65, z_ring_Port.length, z_ring_Port.free, z_ring_Port.posted, z_ring_Port.filled, z_ring_Port.queued⟩ : ring_Port) r63) Filled.nil)))))) ?_
                      refine OJ.newOf (d := 52) (op := (.box 88 (.tmp 51))) (cd := c_ring_Port) (u := (⟨a3, a0, a1, r64, r65, r63, z_ring_Port.free, z_ring_Port.posted, z_ring_Port.filled, z_ring_Port.queued⟩ : ring_Port)) (owed := []) (box_run (by kernel_rfl)) (fun b66 => ?_)
                      refine OW.nil ?_
                      refine OJ.go 1 [(10, .pointer (some (pt b66 0)))] ?_
                      refine OJ.nil ?_
                      refine SJ.less [0, 1, 2, 10] (m' := [(0, .int .i64 a0), (1, .int .i64 a1), (2, .int .i64 a2), (10, .pointer (some (pt b66 0)))]) ?_
                      exact ring_New.K1_ok a0 a1 a2 (pt b66 0)
                  · refine SJ.bfr hg_ (by decide) (fun ho67 => ?_) (fun ho67 => ?_)
                    · refine SJ.bfr hg_ (by decide) (fun ho68 => ?_) (fun ho68 => ?_)
                      · refine SJ.leaf hg_ (kd := [0, 0, 0, 0, 2, 0, 2, 0, 2, 0, 2, 0]) (bef := [0, 0, 0, 0, 8, 0, 32, 0, 128, 511, 1023, 2047]) (ord := [0, 1, 2, 3, 5, 6, 4, 7, 8, 9, 10, 11]) (E := [(6, 4), (6, 8), (4, 8)]) (allB.cons ho52 (allB.cons ho67 (allB.cons ho68 allB.nil))) ?_
                        refine OJ.go 5 [(47, .int .i64 a2), (45, .int .i64 a2), (44, .int .i64 a1), (43, .int .i64 a0), (42, .int .i64 a3)] ?_
                        refine OJ.mk (d := 48) (t := 67) (lo := .tmp 47) (ko := .tmp 47) (k1 := .i64) (k2 := .i64) (owed := []) Ty3 (fun r69 => ?_)
                        refine OW.nil ?_
                        refine OJ.mk (d := 46) (t := 43) (lo := .tmp 45) (ko := .tmp 45) (k1 := .i64) (k2 := .i64) (owed := []) Ty22 (fun r70 => ?_)
                        refine OW.nil ?_
                        refine OJ.go 1 [(49, .int .i64 a2)] ?_
                        refine OJ.mk (d := 50) (t := 67) (lo := .tmp 49) (ko := .tmp 49) (k1 := .i64) (k2 := .i64) (owed := []) Ty3 (fun r71 => ?_)
                        refine OW.nil ?_
                        refine OJ.build (d := 51) (T := 88) (parts := [(0, .tmp 42), (1, .tmp 43), (2, .tmp 44), (3, .tmp 46), (4, .tmp 48), (5, .tmp 50)]) (ps := [(0, (cI .i64).val a3), (1, (cI .i64).val a0), (2, (cI .i64).val a1), (3, cL.val r70), (4, cL.val r69), (5, cL.val r71)]) (cd := c_ring_Port) (z0 := z_ring_Port) (⟨a3, a0, a1, r70, r69, r71, z_ring_Port.free, z_ring_Port.posted, z_ring_Port.filled, z_ring_Port.queued⟩ : ring_Port) Ty88 rfl (Filled.cons (cd := (cI .i64)) (q := a3) (o := 0) (by kernel_rfl) (Up_ring_Port_size z_ring_Port a3) (Filled.cons (cd := (cI .i64)) (q := a0) (o := 1) (by kernel_rfl) (Up_ring_Port_rx (⟨a3, z_ring_Port.rx, z_ring_Port.tx, z_ring_Port.pool, z_ring_Port.place, z_ring_Port.length, z_ring_Port.free, z_ring_Port.posted, z_ring_Port.filled, z_ring_Port.queued⟩ : ring_Port) a0) (Filled.cons (cd := (cI .i64)) (q := a1) (o := 2) (by kernel_rfl) (Up_ring_Port_tx (⟨a3, a0, z_ring_Port.tx, z_ring_Port.pool, z_ring_Port.place, z_ring_Port.length, z_ring_Port.free, z_ring_Port.posted, z_ring_Port.filled, z_ring_Port.queued⟩ : ring_Port) a1) (Filled.cons (cd := cL) (q := r70) (o := 3) (by kernel_rfl) (Up_ring_Port_pool (⟨a3, a0, a1, z_ring_Port.pool, z_ring_Port.place, z_ring_Port.length, z_ring_Port.free, z_ring_Port.posted, z_ring_Port.filled, z_ring_Port.queued⟩ : ring_Port) r70) (Filled.cons (cd := cL) (q := r69) (o := 4) (by kernel_rfl) (Up_ring_Port_place (⟨a3, a0, a1, r70, z_ring_Port.place, z_ring_Port.length, z_ring_Port.free, z_ring_Port.posted, z_ring_Port.filled, z_ring_Port.queued⟩ : ring_Port) r69) (Filled.cons (cd := cL) (q := r71) (o := 5) (by kernel_rfl) (Up_ring_Port_length (⟨a3, a0, a1, r70, r69, z_ring_Port.length, z_ring_Port.free, z_ring_Port.posted, z_ring_Port.filled, z_ring_Port.queued⟩ : ring_Port) r71) Filled.nil)))))) ?_
                        refine OJ.newOf (d := 52) (op := (.box 88 (.tmp 51))) (cd := c_ring_Port) (u := (⟨a3, a0, a1, r70, r69, r71, z_ring_Port.free, z_ring_Port.posted, z_ring_Port.filled, z_ring_Port.queued⟩ : ring_Port)) (owed := []) (box_run (by kernel_rfl)) (fun b72 => ?_)
                        refine OW.nil ?_
                        refine OJ.go 1 [(10, .pointer (some (pt b72 0)))] ?_
                        refine OJ.nil ?_
                        refine SJ.less [0, 1, 2, 10] (m' := [(0, .int .i64 a0), (1, .int .i64 a1), (2, .int .i64 a2), (10, .pointer (some (pt b72 0)))]) ?_
                        exact ring_New.K1_ok a0 a1 a2 (pt b72 0)
                      · refine SJ.leaf hg_ (kd := [0, 0, 0, 0, 2, 0, 2, 0, 2, 0, 2, 0]) (bef := [0, 0, 0, 0, 8, 0, 32, 0, 128, 511, 1023, 2047]) (ord := [0, 1, 2, 3, 5, 6, 7, 8, 4, 9, 10, 11]) (E := [(6, 8), (6, 4), (8, 4)]) (allB.cons ho67 (allB.cons ho52 (allB.cons ho68 allB.nil))) ?_
                        refine OJ.go 5 [(47, .int .i64 a2), (45, .int .i64 a2), (44, .int .i64 a1), (43, .int .i64 a0), (42, .int .i64 a3)] ?_
                        refine OJ.mk (d := 48) (t := 67) (lo := .tmp 47) (ko := .tmp 47) (k1 := .i64) (k2 := .i64) (owed := []) Ty3 (fun r73 => ?_)
                        refine OW.nil ?_
                        refine OJ.go 1 [(49, .int .i64 a2)] ?_
                        refine OJ.mk (d := 50) (t := 67) (lo := .tmp 49) (ko := .tmp 49) (k1 := .i64) (k2 := .i64) (owed := []) Ty3 (fun r74 => ?_)
                        refine OW.nil ?_
                        refine OJ.mk (d := 46) (t := 43) (lo := .tmp 45) (ko := .tmp 45) (k1 := .i64) (k2 := .i64) (owed := []) Ty22 (fun r75 => ?_)
                        refine OW.nil ?_
                        refine OJ.build (d := 51) (T := 88) (parts := [(0, .tmp 42), (1, .tmp 43), (2, .tmp 44), (3, .tmp 46), (4, .tmp 48), (5, .tmp 50)]) (ps := [(0, (cI .i64).val a3), (1, (cI .i64).val a0), (2, (cI .i64).val a1), (3, cL.val r75), (4, cL.val r73), (5, cL.val r74)]) (cd := c_ring_Port) (z0 := z_ring_Port) (⟨a3, a0, a1, r75, r73, r74, z_ring_Port.free, z_ring_Port.posted, z_ring_Port.filled, z_ring_Port.queued⟩ : ring_Port) Ty88 rfl (Filled.cons (cd := (cI .i64)) (q := a3) (o := 0) (by kernel_rfl) (Up_ring_Port_size z_ring_Port a3) (Filled.cons (cd := (cI .i64)) (q := a0) (o := 1) (by kernel_rfl) (Up_ring_Port_rx (⟨a3, z_ring_Port.rx, z_ring_Port.tx, z_ring_Port.pool, z_ring_Port.place, z_ring_Port.length, z_ring_Port.free, z_ring_Port.posted, z_ring_Port.filled, z_ring_Port.queued⟩ : ring_Port) a0) (Filled.cons (cd := (cI .i64)) (q := a1) (o := 2) (by kernel_rfl) (Up_ring_Port_tx (⟨a3, a0, z_ring_Port.tx, z_ring_Port.pool, z_ring_Port.place, z_ring_Port.length, z_ring_Port.free, z_ring_Port.posted, z_ring_Port.filled, z_ring_Port.queued⟩ : ring_Port) a1) (Filled.cons (cd := cL) (q := r75) (o := 3) (by kernel_rfl) (Up_ring_Port_pool (⟨a3, a0, a1, z_ring_Port.pool, z_ring_Port.place, z_ring_Port.length, z_ring_Port.free, z_ring_Port.posted, z_ring_Port.filled, z_ring_Port.queued⟩ : ring_Port) r75) (Filled.cons (cd := cL) (q := r73) (o := 4) (by kernel_rfl) (Up_ring_Port_place (⟨a3, a0, a1, r75, z_ring_Port.place, z_ring_Port.length, z_ring_Port.free, z_ring_Port.posted, z_ring_Port.filled, z_ring_Port.queued⟩ : ring_Port) r73) (Filled.cons (cd := cL) (q := r74) (o := 5) (by kernel_rfl) (Up_ring_Port_length (⟨a3, a0, a1, r75, r73, z_ring_Port.length, z_ring_Port.free, z_ring_Port.posted, z_ring_Port.filled, z_ring_Port.queued⟩ : ring_Port) r74) Filled.nil)))))) ?_
                        refine OJ.newOf (d := 52) (op := (.box 88 (.tmp 51))) (cd := c_ring_Port) (u := (⟨a3, a0, a1, r75, r73, r74, z_ring_Port.free, z_ring_Port.posted, z_ring_Port.filled, z_ring_Port.queued⟩ : ring_Port)) (owed := []) (box_run (by kernel_rfl)) (fun b76 => ?_)
                        refine OW.nil ?_
                        refine OJ.go 1 [(10, .pointer (some (pt b76 0)))] ?_
                        refine OJ.nil ?_
                        refine SJ.less [0, 1, 2, 10] (m' := [(0, .int .i64 a0), (1, .int .i64 a1), (2, .int .i64 a2), (10, .pointer (some (pt b76 0)))]) ?_
                        exact ring_New.K1_ok a0 a1 a2 (pt b76 0)
                    · refine SJ.leaf hg_ (kd := [0, 0, 0, 0, 2, 0, 2, 0, 2, 0, 2, 0]) (bef := [0, 0, 0, 0, 8, 0, 32, 0, 128, 511, 1023, 2047]) (ord := [0, 1, 2, 3, 5, 7, 8, 6, 4, 9, 10, 11]) (E := [(8, 6), (8, 4), (6, 4)]) (allB.cons ho67 (allB.cons (bfr_trans ho67 ho52) (allB.cons ho52 allB.nil))) ?_
                      refine OJ.go 6 [(49, .int .i64 a2), (47, .int .i64 a2), (45, .int .i64 a2), (44, .int .i64 a1), (43, .int .i64 a0), (42, .int .i64 a3)] ?_
                      refine OJ.mk (d := 50) (t := 67) (lo := .tmp 49) (ko := .tmp 49) (k1 := .i64) (k2 := .i64) (owed := []) Ty3 (fun r77 => ?_)
                      refine OW.nil ?_
                      refine OJ.mk (d := 48) (t := 67) (lo := .tmp 47) (ko := .tmp 47) (k1 := .i64) (k2 := .i64) (owed := []) Ty3 (fun r78 => ?_)
                      refine OW.nil ?_
                      refine OJ.mk (d := 46) (t := 43) (lo := .tmp 45) (ko := .tmp 45) (k1 := .i64) (k2 := .i64) (owed := []) Ty22 (fun r79 => ?_)
                      refine OW.nil ?_
                      refine OJ.build (d := 51) (T := 88) (parts := [(0, .tmp 42), (1, .tmp 43), (2, .tmp 44), (3, .tmp 46), (4, .tmp 48), (5, .tmp 50)]) (ps := [(0, (cI .i64).val a3), (1, (cI .i64).val a0), (2, (cI .i64).val a1), (3, cL.val r79), (4, cL.val r78), (5, cL.val r77)]) (cd := c_ring_Port) (z0 := z_ring_Port) (⟨a3, a0, a1, r79, r78, r77, z_ring_Port.free, z_ring_Port.posted, z_ring_Port.filled, z_ring_Port.queued⟩ : ring_Port) Ty88 rfl (Filled.cons (cd := (cI .i64)) (q := a3) (o := 0) (by kernel_rfl) (Up_ring_Port_size z_ring_Port a3) (Filled.cons (cd := (cI .i64)) (q := a0) (o := 1) (by kernel_rfl) (Up_ring_Port_rx (⟨a3, z_ring_Port.rx, z_ring_Port.tx, z_ring_Port.pool, z_ring_Port.place, z_ring_Port.length, z_ring_Port.free, z_ring_Port.posted, z_ring_Port.filled, z_ring_Port.queued⟩ : ring_Port) a0) (Filled.cons (cd := (cI .i64)) (q := a1) (o := 2) (by kernel_rfl) (Up_ring_Port_tx (⟨a3, a0, z_ring_Port.tx, z_ring_Port.pool, z_ring_Port.place, z_ring_Port.length, z_ring_Port.free, z_ring_Port.posted, z_ring_Port.filled, z_ring_Port.queued⟩ : ring_Port) a1) (Filled.cons (cd := cL) (q := r79) (o := 3) (by kernel_rfl) (Up_ring_Port_pool (⟨a3, a0, a1, z_ring_Port.pool, z_ring_Port.place, z_ring_Port.length, z_ring_Port.free, z_ring_Port.posted, z_ring_Port.filled, z_ring_Port.queued⟩ : ring_Port) r79) (Filled.cons (cd := cL) (q := r78) (o := 4) (by kernel_rfl) (Up_ring_Port_place (⟨a3, a0, a1, r79, z_ring_Port.place, z_ring_Port.length, z_ring_Port.free, z_ring_Port.posted, z_ring_Port.filled, z_ring_Port.queued⟩ : ring_Port) r78) (Filled.cons (cd := cL) (q := r77) (o := 5) (by kernel_rfl) (Up_ring_Port_length (⟨a3, a0, a1, r79, r78, z_ring_Port.length, z_ring_Port.free, z_ring_Port.posted, z_ring_Port.filled, z_ring_Port.queued⟩ : ring_Port) r77) Filled.nil)))))) ?_
                      refine OJ.newOf (d := 52) (op := (.box 88 (.tmp 51))) (cd := c_ring_Port) (u := (⟨a3, a0, a1, r79, r78, r77, z_ring_Port.free, z_ring_Port.posted, z_ring_Port.filled, z_ring_Port.queued⟩ : ring_Port)) (owed := []) (box_run (by kernel_rfl)) (fun b80 => ?_)
                      refine OW.nil ?_
                      refine OJ.go 1 [(10, .pointer (some (pt b80 0)))] ?_
                      refine OJ.nil ?_
                      refine SJ.less [0, 1, 2, 10] (m' := [(0, .int .i64 a0), (1, .int .i64 a1), (2, .int .i64 a2), (10, .pointer (some (pt b80 0)))]) ?_
                      exact ring_New.K1_ok a0 a1 a2 (pt b80 0)

/-! ### weir/weirlaw3.num: function 14 -/
noncomputable def weirlaw3_num.B : Code := (Try.f14.body).getD .skip
noncomputable def weirlaw3_num.cx : Fx := ⟨Try.prog, 14, Try.f14⟩
noncomputable def weirlaw3_num.out (r_ : Int) : Value := .int .i64 r_
noncomputable def weirlaw3_num.F0 (r_ : Int) : Reach := .ret (weirlaw3_num.out r_)
noncomputable def weirlaw3_num (a0 : Int) : M Int :=
  pure a0
theorem weirlaw3_num_ok (a0 : Int) : Ref Try.prog 14 [.int .i64 a0] (weirlaw3_num a0) weirlaw3_num.out := by
  refine Ref.of (cd := weirlaw3_num.B) Try.func14 ?_
  show SJ weirlaw3_num.cx [.code weirlaw3_num.B] [(0, .int .i64 a0)] [] (weirlaw3_num a0) weirlaw3_num.F0
  unfold weirlaw3_num
  refine SJ.sr 1 ?_
  refine OJ.go 1 [(2, .int .i64 0)] ?_
  refine OJ.nil ?_
  refine SJ.sr 2 ?_
  refine OJ.go 2 [(2, .int .i64 a0), (3, .int .i64 a0)] ?_
  refine OJ.nil ?_
  exact SJ.ret rfl (Res.run (ys := [.int .i64 a0]) (.tmp (by kernel_rfl) .nil) rfl)

/-! ### weir/weirref3.out: function 62 -/
noncomputable def weirref3_out.B : Code := (Try.f62.body).getD .skip
noncomputable def weirref3_out.cx : Fx := ⟨Try.prog, 62, Try.f62⟩
noncomputable def weirref3_out.out (r_ : Bool) : Value := .bool r_
noncomputable def weirref3_out.F0 (r_ : Bool) : Reach := .ret (weirref3_out.out r_)
noncomputable def weirref3_out (a0 : Int) (a1 : Int) (a2 : Int) : M Bool :=
  (if a0 < a1 then
      pure true
    else
      pure (decide (a0 > a2))) >>= fun y1 =>
  pure y1
theorem weirref3_out_ok (a0 : Int) (a1 : Int) (a2 : Int) : Ref Try.prog 62 [.int .i64 a0, .int .i64 a1, .int .i64 a2] (weirref3_out a0 a1 a2) weirref3_out.out := by
  refine Ref.of (cd := weirref3_out.B) Try.func62 ?_
  show SJ weirref3_out.cx [.code weirref3_out.B] [(0, .int .i64 a0), (1, .int .i64 a1), (2, .int .i64 a2)] [] (weirref3_out a0 a1 a2) weirref3_out.F0
  unfold weirref3_out
  refine SJ.sr 1 ?_
  refine OJ.go 1 [(6, .bool false)] ?_
  refine OJ.nil ?_
  refine SJ.sr 9 ?_
  refine OJ.go 4 [(10, .bool (decide (a0 < a1))), (9, .bool (decide (a0 < a1))), (8, .int .i64 a1), (7, .int .i64 a0)] ?_
  refine OJ.join (b := decide (a0 < a1)) [4, 5, 6, 7] [8] [14] (fun y1 => [(14, .bool y1)]) [] [] (t := 10) decide_eq_true_iff (fun hp_ => ?_) (fun hp_ => ?_) (fun _ _ _ _ _ _ h_ => h_) (fun y1 => ?_)
  · refine OJ.go 4 [(14, .bool true), (13, undef), (12, undef), (11, undef)] ?_
    exact OJ.nil ⟨(Cov.mem Cov.nil), rfl, _, rfl, by kernel_rfl⟩
  · refine OJ.go 4 [(14, .bool (decide (a0 > a2))), (13, .bool (decide (a0 > a2))), (12, .int .i64 a2), (11, .int .i64 a0)] ?_
    exact OJ.nil ⟨(Cov.mem Cov.nil), rfl, _, rfl, by kernel_rfl⟩
  · refine OJ.go 1 [(6, .bool y1)] ?_
    refine OJ.nil ?_
    exact SJ.ret rfl (Res.run (ys := [.bool y1]) (.tmp (by kernel_rfl) .nil) rfl)

/-! ### weir/weirref3.New: function 51 -/
noncomputable def weirref3_New.B : Code := (Try.f51.body).getD .skip
noncomputable def weirref3_New.cx : Fx := ⟨Try.prog, 51, Try.f51⟩
noncomputable def weirref3_New.out (r_ : (weirref3_Port × Int)) : Value := .tuple #[c_weirref3_Port.val r_.1, .int .i64 r_.2]
noncomputable def weirref3_New.F0 (r_ : (weirref3_Port × Int)) : Reach := .ret (weirref3_New.out r_)
noncomputable def weirref3_New.F1 (a2 : Int) (b1 : Nat) (b9 : Nat) : (LS (Int × weirref3_Port) (weirref3_Port × Int)) → Reach := loopF [.inLoop (c1 (c1 (c2 (c1 (c2 (c2 (c2 weirref3_New.B))))))), .inBlock 0, .code (c2 (c2 (c2 (c2 weirref3_New.B))))] (fun s_ : (Int × weirref3_Port) => [(2, .int .i64 a2), (8, .pointer (some (pt b1 0))), (10, .pointer (some (pt b9 0))), (11, .int .i64 s_.1)]) (fun s_ : (Int × weirref3_Port) => [(b9, c_weirref3_Port.enc s_.2), (b1, c_weirref3_Port.enc z_weirref3_Port)]) weirref3_New.F0
noncomputable def weirref3_New.L1 (a2 : Int) (s10 : Int) (s11 : weirref3_Port) : M (LS (Int × weirref3_Port) (weirref3_Port × Int)) :=
  if s10 < a2 then
    slot 110 >>= fun b15 =>
    appl c_weirref3_Buf 110 48 z_weirref3_Buf s11.L [(⟨1, s10, z_weirref3_Buf.N, z_weirref3_Buf.Data⟩ : weirref3_Buf)] >>= fun r16 =>
    pure (LS.next (IntKind.wrap .i64 (s10 + 1), (⟨s11.Rx, s11.Tx, s11.Size, r16, s11.Now⟩ : weirref3_Port)))
  else
    pure (LS.done ((⟨s11.Rx, s11.Tx, s11.Size, s11.L, a2⟩ : weirref3_Port), 0))
theorem weirref3_New.L1_ok (a2 : Int) (b1 : Nat) (b9 : Nat) (s10 : Int) (s11 : weirref3_Port) :
    SJ weirref3_New.cx [.code (c1 (c1 (c2 (c1 (c2 (c2 (c2 weirref3_New.B))))))), .inLoop (c1 (c1 (c2 (c1 (c2 (c2 (c2 weirref3_New.B))))))), .inBlock 0, .code (c2 (c2 (c2 (c2 weirref3_New.B))))] [(2, .int .i64 a2), (8, .pointer (some (pt b1 0))), (10, .pointer (some (pt b9 0))), (11, .int .i64 s10)] [(b9, c_weirref3_Port.enc s11), (b1, c_weirref3_Port.enc z_weirref3_Port)] (weirref3_New.L1 a2 s10 s11) (weirref3_New.F1 a2 b1 b9) := by
  unfold weirref3_New.L1
  refine SJ.seq ?_
  refine SJ.sr 3 ?_
  refine OJ.go 3 [(33, .bool (decide (s10 < a2))), (32, .int .i64 a2), (31, .int .i64 s10)] ?_
  refine OJ.nil ?_
  refine SJ.cond (t := (.tmp 33)) (b := decide (s10 < a2)) decide_eq_true_iff (fun hc17 => ?_) (fun hc17 => ?_)
  · refine SJ.skip ?_
    refine SJ.seq ?_
    refine SJ.block (id := 1) ?_
    refine SJ.rg 8 ?_
    refine OJ.go 1 [(36, .pointer (some (pt b9 3)))] ?_
    refine OJ.kld (d := 37) (y := .tmp 36) (cd := cL) (j := 0) (b := b9) (o := 3) s11.L (pend2 := []) Ty57 rfl (At_weirref3_Port_L s11) rfl ?_
    refine OJ.go 1 [(38, .int .i64 s10)] ?_
    refine OJ.build (d := 39) (T := 110) (parts := [(0, .const (.int .i64 1)), (1, .tmp 38)]) (ps := [(0, (cI .i64).val 1), (1, (cI .i64).val s10)]) (cd := c_weirref3_Buf) (z0 := z_weirref3_Buf) (⟨1, s10, z_weirref3_Buf.N, z_weirref3_Buf.Data⟩ : weirref3_Buf) Ty110 rfl (Filled.cons (cd := (cI .i64)) (q := 1) (o := 0) (by kernel_rfl) (Up_weirref3_Buf_Place z_weirref3_Buf 1) (Filled.cons (cd := (cI .i64)) (q := s10) (o := 1) (by kernel_rfl) (Up_weirref3_Buf_Since (⟨1, z_weirref3_Buf.Since, z_weirref3_Buf.N, z_weirref3_Buf.Data⟩ : weirref3_Buf) s10) Filled.nil)) ?_
    refine OJ.rowSlot (d := 40) (t := 57) (parts := [(0, .tmp 39)]) (ps := [(0, c_weirref3_Buf.val (⟨1, s10, z_weirref3_Buf.N, z_weirref3_Buf.Data⟩ : weirref3_Buf))]) (cd := c_weirref3_Buf) (⟨[(⟨1, s10, z_weirref3_Buf.N, z_weirref3_Buf.Data⟩ : weirref3_Buf)], rfl⟩ : Vec weirref3_Buf 1) (owed := []) Ty110 (Filled.cons (cd := c_weirref3_Buf) (q := (⟨1, s10, z_weirref3_Buf.N, z_weirref3_Buf.Data⟩ : weirref3_Buf)) (o := 0) rfl (Upd.arr (i := 0) (by decide) (by decide)) Filled.nil) (fun b15 => ?_)
    refine OW.nil ?_
    refine OJ.appl (d := 41) (t := 57) (u := 57) (so := .tmp 37) (xo := .tmp 40) (j := 0) (b := b15) (l := (c_weirref3_Buf.arr 1).enc (⟨[(⟨1, s10, z_weirref3_Buf.N, z_weirref3_Buf.Data⟩ : weirref3_Buf)], rfl⟩ : Vec weirref3_Buf 1)) (n := 1) (k := 1) [(⟨1, s10, z_weirref3_Buf.N, z_weirref3_Buf.Data⟩ : weirref3_Buf)] (owed := []) Ty110 (by rfl) (Cod.arr_enc _ _ _) (by rfl) (fun r16 => ?_)
    refine OW.nil ?_
    refine OJ.go 1 [(42, .pointer (some (pt b9 3)))] ?_
    refine OJ.kst (y := .tmp 42) (z := .tmp 41) (cd := cL) (u := r16) (j := 1) (b := b9) (o := 3) (c_weirref3_Port.enc (⟨s11.Rx, s11.Tx, s11.Size, r16, s11.Now⟩ : weirref3_Port)) (owed := []) Ty57 rfl (Up_weirref3_Port_L s11 r16) rfl ?_
    refine OW.nil ?_
    refine OJ.nil ?_
    refine SJ.inBlock ?_
    refine SJ.rg 3 ?_
    refine OJ.go 3 [(11, .int .i64 (IntKind.wrap .i64 (s10 + 1))), (35, .int .i64 (IntKind.wrap .i64 (s10 + 1))), (34, .int .i64 s10)] ?_
    refine OJ.nil ?_
    refine SJ.forget (List.Sublist.cons _ (List.Sublist.cons_cons _ (List.Sublist.cons_cons _ List.Sublist.slnil))) ?_
    exact SJ.at_ [2, 8, 10, 11] rfl
  · refine SJ.exit (id := 0) (by rfl) ?_
    refine SJ.sr 3 ?_
    refine OJ.go 2 [(44, .pointer (some (pt b9 4))), (43, .int .i64 a2)] ?_
    refine OJ.kst (y := .tmp 44) (z := .tmp 43) (cd := (cI .i64)) (u := a2) (j := 0) (b := b9) (o := 4) (c_weirref3_Port.enc (⟨s11.Rx, s11.Tx, s11.Size, s11.L, a2⟩ : weirref3_Port)) (owed := []) Ty3 rfl (Up_weirref3_Port_Now s11 a2) rfl ?_
    refine OW.nil ?_
    refine OJ.nil ?_
    refine SJ.sr 3 ?_
    refine OJ.kld (d := 45) (y := .tmp 10) (cd := c_weirref3_Port) (j := 0) (b := b9) (o := 0) (⟨s11.Rx, s11.Tx, s11.Size, s11.L, a2⟩ : weirref3_Port) (pend2 := []) Ty59 rfl (At.whole _) rfl ?_
    refine OJ.kst (y := .tmp 8) (z := .tmp 45) (cd := c_weirref3_Port) (u := (⟨s11.Rx, s11.Tx, s11.Size, s11.L, a2⟩ : weirref3_Port)) (j := 1) (b := b1) (o := 0) (c_weirref3_Port.enc (⟨s11.Rx, s11.Tx, s11.Size, s11.L, a2⟩ : weirref3_Port)) (owed := []) Ty59 rfl (Upd.whole ((Cod.len _ _).trans (Cod.len _ _).symm)) rfl ?_
    refine OW.nil ?_
    refine OJ.go 1 [(9, .int .i64 0)] ?_
    refine OJ.nil ?_
    exact SJ.ret rfl (Res.run (ys := [c_weirref3_Port.val (⟨s11.Rx, s11.Tx, s11.Size, s11.L, a2⟩ : weirref3_Port), .int .i64 0]) (.cell (j := 1) (b := b1) (cd := c_weirref3_Port) (q := (⟨s11.Rx, s11.Tx, s11.Size, s11.L, a2⟩ : weirref3_Port)) (by kernel_rfl) rfl Ty59 (At.whole _) (.tmp (by kernel_rfl) .nil)) rfl)
noncomputable def weirref3_New (a0 : Int) (a1 : Int) (a2 : Int) (a3 : Int) : M (weirref3_Port × Int) :=
  slot 59 >>= fun b1 =>
  weirref3_out a0 1 4096 >>= fun r2 =>
  (if r2 = true then
      pure true
    else
      weirref3_out a1 1 4096 >>= fun r3 =>
      pure r3) >>= fun y4 =>
  (if y4 = true then
      pure true
    else
      weirref3_out a2 1 8192 >>= fun r5 =>
      pure r5) >>= fun y6 =>
  (if y6 = true then
      pure true
    else
      weirref3_out a3 64 65535 >>= fun r7 =>
      pure r7) >>= fun y8 =>
  if y8 = true then
    pure (z_weirref3_Port, 1)
  else
    slot 59 >>= fun b9 =>
    loopM (fun s_ : (Int × weirref3_Port) => weirref3_New.L1 a2 s_.1 s_.2) (0, (⟨a0, a1, a3, z_weirref3_Port.L, z_weirref3_Port.Now⟩ : weirref3_Port))
theorem weirref3_New_ok (a0 : Int) (a1 : Int) (a2 : Int) (a3 : Int) : Ref Try.prog 51 [.int .i64 a0, .int .i64 a1, .int .i64 a2, .int .i64 a3] (weirref3_New a0 a1 a2 a3) weirref3_New.out := by
  refine Ref.of (cd := weirref3_New.B) Try.func51 ?_
  show SJ weirref3_New.cx [.code weirref3_New.B] [(0, .int .i64 a0), (1, .int .i64 a1), (2, .int .i64 a2), (3, .int .i64 a3)] [] (weirref3_New a0 a1 a2 a3) weirref3_New.F0
  unfold weirref3_New
  refine SJ.sr 2 ?_
  refine OJ.slotOf (d := 8) (op := (.alloc 59)) (cd := c_weirref3_Port) (u := z_weirref3_Port) (owed := []) (alloc_run Ty59) (fun b1 => ?_)
  refine OW.nil ?_
  refine OJ.go 1 [(9, .int .i64 0)] ?_
  refine OJ.nil ?_
  refine SJ.seq ?_
  refine SJ.sr 14 ?_
  refine OJ.go 1 [(12, .int .i64 a0)] ?_
  refine OJ.call (d := 13) (g := 62) (ats := #[3, 3, 3]) (args := [.tmp 12, .const (.int .i64 1), .const (.int .i64 4096)]) (owed := []) F62 (weirref3_out_ok a0 1 4096) (fun r2 => ?_)
  refine OW.nil ?_
  refine OJ.go 1 [(14, .bool r2)] ?_
  refine OJ.join (b := r2) [3, 4, 5] [6, 7, 8, 9, 10, 11, 12, 13] [0, 1, 2, 3, 8, 17] (fun y4 => [(0, .int .i64 a0), (1, .int .i64 a1), (2, .int .i64 a2), (3, .int .i64 a3), (8, .pointer (some (pt b1 0))), (17, .bool y4)]) [] [] (t := 14) Iff.rfl (fun hp_ => ?_) (fun hp_ => ?_) (fun _ _ _ _ _ _ h_ => h_) (fun y4 => ?_)
  · refine OJ.go 3 [(17, .bool true), (16, undef), (15, undef)] ?_
    exact OJ.nil ⟨(Cov.mem Cov.nil), rfl, _, rfl, by kernel_rfl⟩
  · refine OJ.go 1 [(15, .int .i64 a1)] ?_
    refine OJ.call (d := 16) (g := 62) (ats := #[3, 3, 3]) (args := [.tmp 15, .const (.int .i64 1), .const (.int .i64 4096)]) (owed := []) F62 (weirref3_out_ok a1 1 4096) (fun r3 => ?_)
    refine OW.nil ?_
    refine OJ.go 1 [(17, .bool r3)] ?_
    exact OJ.nil ⟨(Cov.mem Cov.nil), rfl, _, rfl, by kernel_rfl⟩
  · refine OJ.go 1 [(18, .bool y4)] ?_
    refine OJ.join (b := y4) [7, 8, 9] [10, 11, 12, 13] [0, 1, 2, 3, 8, 21] (fun y6 => [(0, .int .i64 a0), (1, .int .i64 a1), (2, .int .i64 a2), (3, .int .i64 a3), (8, .pointer (some (pt b1 0))), (21, .bool y6)]) [] [] (t := 18) Iff.rfl (fun hp_ => ?_) (fun hp_ => ?_) (fun _ _ _ _ _ _ h_ => h_) (fun y6 => ?_)
    · refine OJ.go 3 [(21, .bool true), (20, undef), (19, undef)] ?_
      exact OJ.nil ⟨(Cov.mem Cov.nil), rfl, _, rfl, by kernel_rfl⟩
    · refine OJ.go 1 [(19, .int .i64 a2)] ?_
      refine OJ.call (d := 20) (g := 62) (ats := #[3, 3, 3]) (args := [.tmp 19, .const (.int .i64 1), .const (.int .i64 8192)]) (owed := []) F62 (weirref3_out_ok a2 1 8192) (fun r5 => ?_)
      refine OW.nil ?_
      refine OJ.go 1 [(21, .bool r5)] ?_
      exact OJ.nil ⟨(Cov.mem Cov.nil), rfl, _, rfl, by kernel_rfl⟩
    · refine OJ.go 1 [(22, .bool y6)] ?_
      refine OJ.join (b := y6) [11, 12, 13] [] [0, 1, 2, 3, 8, 25] (fun y8 => [(0, .int .i64 a0), (1, .int .i64 a1), (2, .int .i64 a2), (3, .int .i64 a3), (8, .pointer (some (pt b1 0))), (25, .bool y8)]) [] [] (t := 22) Iff.rfl (fun hp_ => ?_) (fun hp_ => ?_) (fun _ _ _ _ _ _ h_ => h_) (fun y8 => ?_)
      · refine OJ.go 3 [(25, .bool true), (24, undef), (23, undef)] ?_
        exact OJ.nil ⟨(Cov.mem Cov.nil), rfl, _, rfl, by kernel_rfl⟩
      · refine OJ.go 1 [(23, .int .i64 a3)] ?_
        refine OJ.call (d := 24) (g := 62) (ats := #[3, 3, 3]) (args := [.tmp 23, .const (.int .i64 64), .const (.int .i64 65535)]) (owed := []) F62 (weirref3_out_ok a3 64 65535) (fun r7 => ?_)
        refine OW.nil ?_
        refine OJ.go 1 [(25, .bool r7)] ?_
        exact OJ.nil ⟨(Cov.mem Cov.nil), rfl, _, rfl, by kernel_rfl⟩
      · refine OJ.nil ?_
        refine SJ.cond (t := (.tmp 25)) (b := y8) Iff.rfl (fun hc18 => ?_) (fun hc18 => ?_)
        · refine SJ.sr 3 ?_
          refine OJ.build (d := 26) (T := 59) (parts := []) (ps := []) (cd := c_weirref3_Port) (z0 := z_weirref3_Port) z_weirref3_Port Ty59 rfl Filled.nil ?_
          refine OJ.kst (y := .tmp 8) (z := .tmp 26) (cd := c_weirref3_Port) (u := z_weirref3_Port) (j := 0) (b := b1) (o := 0) (c_weirref3_Port.enc z_weirref3_Port) (owed := []) Ty59 rfl (Upd.whole ((Cod.len _ _).trans (Cod.len _ _).symm)) rfl ?_
          refine OW.nil ?_
          refine OJ.go 1 [(9, .int .i64 1)] ?_
          refine OJ.nil ?_
          exact SJ.ret rfl (Res.run (ys := [c_weirref3_Port.val z_weirref3_Port, .int .i64 1]) (.cell (j := 0) (b := b1) (cd := c_weirref3_Port) (q := z_weirref3_Port) (by kernel_rfl) rfl Ty59 (At.whole _) (.tmp (by kernel_rfl) .nil)) rfl)
        · refine SJ.skip ?_
          refine SJ.sr 6 ?_
          refine OJ.go 3 [(29, .int .i64 a3), (28, .int .i64 a1), (27, .int .i64 a0)] ?_
          refine OJ.build (d := 30) (T := 59) (parts := [(0, .tmp 27), (1, .tmp 28), (2, .tmp 29)]) (ps := [(0, (cI .i64).val a0), (1, (cI .i64).val a1), (2, (cI .i64).val a3)]) (cd := c_weirref3_Port) (z0 := z_weirref3_Port) (⟨a0, a1, a3, z_weirref3_Port.L, z_weirref3_Port.Now⟩ : weirref3_Port) Ty59 rfl (Filled.cons (cd := (cI .i64)) (q := a0) (o := 0) (by kernel_rfl) (Up_weirref3_Port_Rx z_weirref3_Port a0) (Filled.cons (cd := (cI .i64)) (q := a1) (o := 1) (by kernel_rfl) (Up_weirref3_Port_Tx (⟨a0, z_weirref3_Port.Tx, z_weirref3_Port.Size, z_weirref3_Port.L, z_weirref3_Port.Now⟩ : weirref3_Port) a1) (Filled.cons (cd := (cI .i64)) (q := a3) (o := 2) (by kernel_rfl) (Up_weirref3_Port_Size (⟨a0, a1, z_weirref3_Port.Size, z_weirref3_Port.L, z_weirref3_Port.Now⟩ : weirref3_Port) a3) Filled.nil))) ?_
          refine OJ.slotOf (d := 10) (op := (.alloc 59)) (cd := c_weirref3_Port) (u := z_weirref3_Port) (owed := []) (alloc_run Ty59) (fun b9 => ?_)
          refine OW.nil ?_
          refine OJ.kst (y := .tmp 10) (z := .tmp 30) (cd := c_weirref3_Port) (u := (⟨a0, a1, a3, z_weirref3_Port.L, z_weirref3_Port.Now⟩ : weirref3_Port)) (j := 0) (b := b9) (o := 0) (c_weirref3_Port.enc (⟨a0, a1, a3, z_weirref3_Port.L, z_weirref3_Port.Now⟩ : weirref3_Port)) (owed := []) Ty59 rfl (Upd.whole ((Cod.len _ _).trans (Cod.len _ _).symm)) rfl ?_
          refine OW.nil ?_
          refine OJ.nil ?_
          refine SJ.seq ?_
          refine SJ.sr 1 ?_
          refine OJ.go 1 [(11, .int .i64 0)] ?_
          refine OJ.nil ?_
          refine SJ.block (id := 0) ?_
          exact SJ.loop (fun s_ : (Int × weirref3_Port) => [(2, .int .i64 a2), (8, .pointer (some (pt b1 0))), (10, .pointer (some (pt b9 0))), (11, .int .i64 s_.1)]) (fun s_ : (Int × weirref3_Port) => [(b9, c_weirref3_Port.enc s_.2), (b1, c_weirref3_Port.enc z_weirref3_Port)]) [2, 8, 10, 11] rfl (fun _ _ => rfl) (fun s_ => weirref3_New.L1_ok a2 b1 b9 s_.1 s_.2)

/-! ### weir/weirlaw3.made: function 30 -/
noncomputable def weirlaw3_made.B : Code := (Try.f30.body).getD .skip
noncomputable def weirlaw3_made.cx : Fx := ⟨Try.prog, 30, Try.f30⟩
noncomputable def weirlaw3_made.out (r_ : (weirlaw3_Side × Bool)) : Value := .tuple #[c_weirlaw3_Side.val r_.1, .bool r_.2]
noncomputable def weirlaw3_made.F0 (r_ : (weirlaw3_Side × Bool)) : Reach := .ret (weirlaw3_made.out r_)
noncomputable def weirlaw3_made (a0 : Int) (a1 : Int) (a2 : Int) (a3 : Int) : M (weirlaw3_Side × Bool) :=
  slot 62 >>= fun b1 =>
  ring_New a0 a1 a2 a3 >>= fun r2 =>
  weirref3_New a0 a1 a2 a3 >>= fun r3 =>
  slot 59 >>= fun b4 =>
  weirlaw3_num r2.2 >>= fun r5 =>
  (if r5 ≠ r3.2 then
      pure true
    else
      pure (!((Option.isNone r2.1) == (r3.2 != 0)))) >>= fun y6 =>
  if y6 = true then
    pure (z_weirlaw3_Side, false)
  else
    if r3.2 = 0 then
      pure ((⟨r2.1, r3.1, z_weirlaw3_Side.W⟩ : weirlaw3_Side), true)
    else
      ring_New 2 2 3 64 >>= fun r7 =>
      weirref3_New 2 2 3 64 >>= fun r8 =>
      draw >>= fun _ =>
      (if ¬ (r7.1 = none) then
          weirlaw3_num r7.2 >>= fun r9 =>
          pure (r9 == 0)
        else
          pure false) >>= fun y10 =>
      pure ((⟨r7.1, r8.1, z_weirlaw3_Side.W⟩ : weirlaw3_Side), y10)
theorem weirlaw3_made_ok (a0 : Int) (a1 : Int) (a2 : Int) (a3 : Int) : Ref Try.prog 30 [.int .i64 a0, .int .i64 a1, .int .i64 a2, .int .i64 a3] (weirlaw3_made a0 a1 a2 a3) weirlaw3_made.out := by
  refine Ref.of (cd := weirlaw3_made.B) Try.func30 ?_
  show SJ weirlaw3_made.cx [.code weirlaw3_made.B] [(0, .int .i64 a0), (1, .int .i64 a1), (2, .int .i64 a2), (3, .int .i64 a3)] [] (weirlaw3_made a0 a1 a2 a3) weirlaw3_made.F0
  unfold weirlaw3_made
  refine SJ.sr 2 ?_
  refine OJ.slotOf (d := 8) (op := (.alloc 62)) (cd := c_weirlaw3_Side) (u := z_weirlaw3_Side) (owed := []) (alloc_run Ty62) (fun b1 => ?_)
  refine OW.nil ?_
  refine OJ.go 1 [(9, .bool false)] ?_
  refine OJ.nil ?_
  refine SJ.sr 10 ?_
  refine OJ.go 4 [(18, .int .i64 a3), (17, .int .i64 a2), (16, .int .i64 a1), (15, .int .i64 a0)] ?_
  refine OJ.call (d := 19) (g := 13) (ats := #[3, 3, 3, 3]) (args := [.tmp 15, .tmp 16, .tmp 17, .tmp 18]) (owed := []) F13 (ring_New_ok a0 a1 a2 a3) (fun r2 => ?_)
  refine OW.nil ?_
  refine OJ.go 5 [(11, .int .i64 r2.2), (10, .pointer r2.1), (21, .int .i64 r2.2), (20, .pointer r2.1), (14, .tuple #[.pointer r2.1, .int .i64 r2.2])] ?_
  refine OJ.nil ?_
  refine SJ.sr 11 ?_
  refine OJ.go 4 [(26, .int .i64 a3), (25, .int .i64 a2), (24, .int .i64 a1), (23, .int .i64 a0)] ?_
  refine OJ.call (d := 27) (g := 51) (ats := #[3, 3, 3, 3]) (args := [.tmp 23, .tmp 24, .tmp 25, .tmp 26]) (owed := []) F51 (weirref3_New_ok a0 a1 a2 a3) (fun r3 => ?_)
  refine OW.nil ?_
  refine OJ.go 3 [(29, .int .i64 r3.2), (28, c_weirref3_Port.val r3.1), (22, .tuple #[c_weirref3_Port.val r3.1, .int .i64 r3.2])] ?_
  refine OJ.slotOf (d := 12) (op := (.alloc 59)) (cd := c_weirref3_Port) (u := z_weirref3_Port) (owed := []) (alloc_run Ty59) (fun b4 => ?_)
  refine OW.nil ?_
  refine OJ.kst (y := .tmp 12) (z := .tmp 28) (cd := c_weirref3_Port) (u := r3.1) (j := 0) (b := b4) (o := 0) (c_weirref3_Port.enc r3.1) (owed := []) Ty59 rfl (Upd.whole ((Cod.len _ _).trans (Cod.len _ _).symm)) rfl ?_
  refine OW.nil ?_
  refine OJ.go 1 [(13, .int .i64 r3.2)] ?_
  refine OJ.nil ?_
  refine SJ.seq ?_
  refine SJ.sr 11 ?_
  refine OJ.go 1 [(30, .int .i64 r2.2)] ?_
  refine OJ.call (d := 31) (g := 14) (ats := #[24]) (args := [.tmp 30]) (owed := []) F14 (weirlaw3_num_ok r2.2) (fun r5 => ?_)
  refine OW.nil ?_
  refine OJ.go 3 [(34, .bool (r5 != r3.2)), (33, .bool (r5 != r3.2)), (32, .int .i64 r3.2)] ?_
  refine OJ.join (b := (r5 != r3.2)) [5, 6, 7, 8, 9, 10] [] [8, 10, 12, 13, 40] (fun y6 => [(8, .pointer (some (pt b1 0))), (10, .pointer r2.1), (12, .pointer (some (pt b4 0))), (13, .int .i64 r3.2), (40, .bool y6)]) [] [] (t := 34) bne_iff_ne (fun hp_ => ?_) (fun hp_ => ?_) (fun _ _ _ _ _ _ h_ => h_) (fun y6 => ?_)
  · refine OJ.go 6 [(40, .bool true), (39, undef), (38, undef), (37, undef), (36, undef), (35, undef)] ?_
    exact OJ.nil ⟨(Cov.mem Cov.nil), rfl, _, rfl, by kernel_rfl⟩
  · refine OJ.go 6 [(40, .bool (!((Option.isNone r2.1) == (r3.2 != 0)))), (39, .bool (!((Option.isNone r2.1) == (r3.2 != 0)))), (38, .bool (r3.2 != 0)), (37, .int .i64 r3.2), (36, .bool (Option.isNone r2.1)), (35, .pointer r2.1)] ?_
    exact OJ.nil ⟨(Cov.mem Cov.nil), rfl, _, rfl, by kernel_rfl⟩
  · refine OJ.nil ?_
    refine SJ.cond (t := (.tmp 40)) (b := y6) Iff.rfl (fun hc12 => ?_) (fun hc12 => ?_)
    · refine SJ.sr 3 ?_
      refine OJ.build (d := 41) (T := 62) (parts := []) (ps := []) (cd := c_weirlaw3_Side) (z0 := z_weirlaw3_Side) z_weirlaw3_Side Ty62 rfl Filled.nil ?_
      refine OJ.kst (y := .tmp 8) (z := .tmp 41) (cd := c_weirlaw3_Side) (u := z_weirlaw3_Side) (j := 1) (b := b1) (o := 0) (c_weirlaw3_Side.enc z_weirlaw3_Side) (owed := []) Ty62 rfl (Upd.whole ((Cod.len _ _).trans (Cod.len _ _).symm)) rfl ?_
      refine OW.nil ?_
      refine OJ.go 1 [(9, .bool false)] ?_
      refine OJ.nil ?_
      exact SJ.ret rfl (Res.run (ys := [c_weirlaw3_Side.val z_weirlaw3_Side, .bool false]) (.cell (j := 1) (b := b1) (cd := c_weirlaw3_Side) (q := z_weirlaw3_Side) (by kernel_rfl) rfl Ty62 (At.whole _) (.tmp (by kernel_rfl) .nil)) rfl)
    · refine SJ.skip ?_
      refine SJ.seq ?_
      refine SJ.sr 2 ?_
      refine OJ.go 2 [(43, .bool (r3.2 == 0)), (42, .int .i64 r3.2)] ?_
      refine OJ.nil ?_
      refine SJ.cond (t := (.tmp 43)) (b := (r3.2 == 0)) beq_iff_eq (fun hc11 => ?_) (fun hc11 => ?_)
      · refine SJ.sr 5 ?_
        refine OJ.go 1 [(44, .pointer r2.1)] ?_
        refine OJ.kld (d := 45) (y := .tmp 12) (cd := c_weirref3_Port) (j := 0) (b := b4) (o := 0) r3.1 (pend2 := []) Ty59 rfl (At.whole _) rfl ?_
        refine OJ.build (d := 46) (T := 62) (parts := [(0, .tmp 44), (1, .tmp 45)]) (ps := [(0, cP.val r2.1), (1, c_weirref3_Port.val r3.1)]) (cd := c_weirlaw3_Side) (z0 := z_weirlaw3_Side) (⟨r2.1, r3.1, z_weirlaw3_Side.W⟩ : weirlaw3_Side) Ty62 rfl (Filled.cons (cd := cP) (q := r2.1) (o := 0) (by kernel_rfl) (Up_weirlaw3_Side_P z_weirlaw3_Side r2.1) (Filled.cons (cd := c_weirref3_Port) (q := r3.1) (o := 1) (by kernel_rfl) (Up_weirlaw3_Side_R (⟨r2.1, z_weirlaw3_Side.R, z_weirlaw3_Side.W⟩ : weirlaw3_Side) r3.1) Filled.nil)) ?_
        refine OJ.kst (y := .tmp 8) (z := .tmp 46) (cd := c_weirlaw3_Side) (u := (⟨r2.1, r3.1, z_weirlaw3_Side.W⟩ : weirlaw3_Side)) (j := 1) (b := b1) (o := 0) (c_weirlaw3_Side.enc (⟨r2.1, r3.1, z_weirlaw3_Side.W⟩ : weirlaw3_Side)) (owed := []) Ty62 rfl (Upd.whole ((Cod.len _ _).trans (Cod.len _ _).symm)) rfl ?_
        refine OW.nil ?_
        refine OJ.go 1 [(9, .bool true)] ?_
        refine OJ.nil ?_
        exact SJ.ret rfl (Res.run (ys := [c_weirlaw3_Side.val (⟨r2.1, r3.1, z_weirlaw3_Side.W⟩ : weirlaw3_Side), .bool true]) (.cell (j := 1) (b := b1) (cd := c_weirlaw3_Side) (q := (⟨r2.1, r3.1, z_weirlaw3_Side.W⟩ : weirlaw3_Side)) (by kernel_rfl) rfl Ty62 (At.whole _) (.tmp (by kernel_rfl) .nil)) rfl)
      · refine SJ.skip ?_
        refine SJ.sr 6 ?_
        refine OJ.call (d := 48) (g := 13) (ats := #[3, 3, 3, 3]) (args := [.const (.int .i64 2), .const (.int .i64 2), .const (.int .i64 3), .const (.int .i64 64)]) (owed := []) F13 (ring_New_ok 2 2 3 64) (fun r7 => ?_)
        refine OW.nil ?_
        refine OJ.go 5 [(11, .int .i64 r7.2), (10, .pointer r7.1), (50, .int .i64 r7.2), (49, .pointer r7.1), (47, .tuple #[.pointer r7.1, .int .i64 r7.2])] ?_
        refine OJ.nil ?_
        refine SJ.sr 5 ?_
        refine OJ.call (d := 52) (g := 51) (ats := #[3, 3, 3, 3]) (args := [.const (.int .i64 2), .const (.int .i64 2), .const (.int .i64 3), .const (.int .i64 64)]) (owed := []) F51 (weirref3_New_ok 2 2 3 64) (fun r8 => ?_)
        refine OW.nil ?_
        refine OJ.go 3 [(54, .int .i64 r8.2), (53, c_weirref3_Port.val r8.1), (51, .tuple #[c_weirref3_Port.val r8.1, .int .i64 r8.2])] ?_
        refine OJ.kst (y := .tmp 12) (z := .tmp 53) (cd := c_weirref3_Port) (u := r8.1) (j := 0) (b := b4) (o := 0) (c_weirref3_Port.enc r8.1) (owed := []) Ty59 rfl (Upd.whole ((Cod.len _ _).trans (Cod.len _ _).symm)) rfl ?_
        refine OW.nil ?_
        refine OJ.nil ?_
        refine SJ.seq ?_
        refine SJ.draw (id := 9) (kd := [0, 1, 0, 0, 0, 0, 0, 2, 0, 0, 2, 0]) (bef := [0, 0, 3, 0, 8, 24, 56, 120, 248, 504, 255, 2047]) (ord := [0, 1, 2, 3, 4, 5, 6, 7, 8, 9, 10, 11]) mixed ?_
        refine OJ.go 1 [(55, .pointer r7.1)] ?_
        refine OJ.kld (d := 56) (y := .tmp 12) (cd := c_weirref3_Port) (j := 0) (b := b4) (o := 0) r8.1 (pend2 := [⟨1, 59, (pt b4 0), c_weirref3_Port.val r8.1⟩]) Ty59 rfl (At.whole _) rfl ?_
        refine OJ.build (d := 57) (T := 62) (parts := [(0, .tmp 55), (1, .tmp 56)]) (ps := [(0, cP.val r7.1), (1, c_weirref3_Port.val r8.1)]) (cd := c_weirlaw3_Side) (z0 := z_weirlaw3_Side) (⟨r7.1, r8.1, z_weirlaw3_Side.W⟩ : weirlaw3_Side) Ty62 rfl (Filled.cons (cd := cP) (q := r7.1) (o := 0) (by kernel_rfl) (Up_weirlaw3_Side_P z_weirlaw3_Side r7.1) (Filled.cons (cd := c_weirref3_Port) (q := r8.1) (o := 1) (by kernel_rfl) (Up_weirlaw3_Side_R (⟨r7.1, z_weirlaw3_Side.R, z_weirlaw3_Side.W⟩ : weirlaw3_Side) r8.1) Filled.nil)) ?_
        refine OJ.go 3 [(60, .bool (!(Option.isNone r7.1))), (59, .bool (!(Option.isNone r7.1))), (58, .pointer r7.1)] ?_
        refine OJ.join (b := (!(Option.isNone r7.1))) [6, 7, 8, 9] [10, 11] [8, 57, 64] (fun y10 => [(8, .pointer (some (pt b1 0))), (57, c_weirlaw3_Side.val (⟨r7.1, r8.1, z_weirlaw3_Side.W⟩ : weirlaw3_Side)), (64, .bool y10)]) [⟨1, 59, (pt b4 0), c_weirref3_Port.val r8.1⟩] [] (t := 60) (bnot_iff Option.isNone_iff_eq_none) (fun hp_ => ?_) (fun hp_ => ?_) (fun _ _ _ _ _ _ h_ => h_) (fun y10 => ?_)
        · refine OJ.go 1 [(61, .int .i64 r7.2)] ?_
          refine OJ.call (d := 62) (g := 14) (ats := #[24]) (args := [.tmp 61]) (owed := [⟨1, 59, (pt b4 0), c_weirref3_Port.val r8.1⟩]) F14 (weirlaw3_num_ok r7.2) (fun r9 => ?_)
          refine OW.known (j := 0) (q := r8.1) Ty59 rfl (At.whole _) ?_
          refine OW.nil ?_
          refine OJ.go 2 [(64, .bool (r9 == 0)), (63, .bool (r9 == 0))] ?_
          exact OJ.nil ⟨(Cov.mem (Cov.keep (List.mem_of_getElem? (i := 0) rfl) Cov.nil)), rfl, _, rfl, by kernel_rfl⟩
        · refine OJ.go 4 [(64, .bool false), (63, undef), (62, undef), (61, undef)] ?_
          exact OJ.nil ⟨(Cov.mem (Cov.keep (List.mem_of_getElem? (i := 0) rfl) Cov.nil)), rfl, _, rfl, by kernel_rfl⟩
        · refine OJ.kst (y := .tmp 8) (z := .tmp 57) (cd := c_weirlaw3_Side) (u := (⟨r7.1, r8.1, z_weirlaw3_Side.W⟩ : weirlaw3_Side)) (j := 1) (b := b1) (o := 0) (c_weirlaw3_Side.enc (⟨r7.1, r8.1, z_weirlaw3_Side.W⟩ : weirlaw3_Side)) (owed := []) Ty62 rfl (Upd.whole ((Cod.len _ _).trans (Cod.len _ _).symm)) rfl ?_
          refine OW.nil ?_
          refine OJ.go 1 [(9, .bool y10)] ?_
          refine OJ.nil ?_
          exact SJ.ret rfl (Res.run (ys := [c_weirlaw3_Side.val (⟨r7.1, r8.1, z_weirlaw3_Side.W⟩ : weirlaw3_Side), .bool y10]) (.cell (j := 1) (b := b1) (cd := c_weirlaw3_Side) (q := (⟨r7.1, r8.1, z_weirlaw3_Side.W⟩ : weirlaw3_Side)) (by kernel_rfl) rfl Ty62 (At.whole _) (.tmp (by kernel_rfl) .nil)) rfl)

/-! ### weir/weirlaw3.wide: function 20 -/
noncomputable def weirlaw3_wide.B : Code := (Try.f20.body).getD .skip
noncomputable def weirlaw3_wide.cx : Fx := ⟨Try.prog, 20, Try.f20⟩
noncomputable def weirlaw3_wide.out (r_ : Sl) : Value := Sl.v r_
noncomputable def weirlaw3_wide.F0 (r_ : Sl) : Reach := .ret (weirlaw3_wide.out r_)
noncomputable def weirlaw3_wide (a0 : Sl) : M Sl :=
  appS (cI .u8) 5 1 0 Sl.nil a0 >>= fun r1 =>
  slot 5 >>= fun b2 =>
  appl (cI .u8) 5 1 0 r1 [91, 92, 93] >>= fun r3 =>
  pure r3
theorem weirlaw3_wide_ok (a0 : Sl) : Ref Try.prog 20 [Sl.v a0] (weirlaw3_wide a0) weirlaw3_wide.out := by
  refine Ref.of (cd := weirlaw3_wide.B) Try.func20 ?_
  show SJ weirlaw3_wide.cx [.code weirlaw3_wide.B] [(0, Sl.v a0)] [] (weirlaw3_wide a0) weirlaw3_wide.F0
  unfold weirlaw3_wide
  refine SJ.sr 1 ?_
  refine OJ.go 1 [(2, Sl.v Sl.nil)] ?_
  refine OJ.nil ?_
  refine SJ.sr 1 ?_
  refine OJ.go 1 [(3, Sl.v Sl.nil)] ?_
  refine OJ.nil ?_
  refine SJ.sr 4 ?_
  refine OJ.go 2 [(5, Sl.v a0), (4, Sl.v Sl.nil)] ?_
  refine OJ.appS (d := 6) (t := 22) (u := 22) (so := .tmp 4) (xo := .tmp 5) (owed := []) Ty5 (fun r1 => ?_)
  refine OW.nil ?_
  refine OJ.go 1 [(3, Sl.v r1)] ?_
  refine OJ.nil ?_
  refine SJ.sr 4 ?_
  refine OJ.go 1 [(7, Sl.v r1)] ?_
  refine OJ.rowSlot (d := 8) (t := 22) (parts := [(0, .const (.int .u8 91)), (1, .const (.int .u8 92)), (2, .const (.int .u8 93))]) (ps := [(0, (cI .u8).val 91), (1, (cI .u8).val 92), (2, (cI .u8).val 93)]) (cd := (cI .u8)) (⟨[91, 92, 93], rfl⟩ : Vec Int 3) (owed := []) Ty5 (Filled.cons (cd := (cI .u8)) (q := 91) (o := 0) rfl (Upd.arr (i := 0) (by decide) (by decide)) (Filled.cons (cd := (cI .u8)) (q := 92) (o := 1) rfl (Upd.arr (i := 1) (by decide) (by decide)) (Filled.cons (cd := (cI .u8)) (q := 93) (o := 2) rfl (Upd.arr (i := 2) (by decide) (by decide)) Filled.nil))) (fun b2 => ?_)
  refine OW.nil ?_
  refine OJ.appl (d := 9) (t := 22) (u := 22) (so := .tmp 7) (xo := .tmp 8) (j := 0) (b := b2) (l := ((cI .u8).arr 3).enc (⟨[91, 92, 93], rfl⟩ : Vec Int 3)) (n := 3) (k := 3) [91, 92, 93] (owed := []) Ty5 (by rfl) (Cod.arr_enc _ _ _) (by rfl) (fun r3 => ?_)
  refine OW.nil ?_
  refine OJ.go 1 [(2, Sl.v r3)] ?_
  refine OJ.nil ?_
  exact SJ.ret rfl (Res.run (ys := [Sl.v r3]) (.tmp (by kernel_rfl) .nil) rfl)

/-! ### (*weir/ring.line).leave: function 46 -/
noncomputable def ring_line_leave.B : Code := (Try.f46.body).getD .skip
noncomputable def ring_line_leave.cx : Fx := ⟨Try.prog, 46, Try.f46⟩
noncomputable def ring_line_leave.out (r_ : Int) : Value := .int .i64 r_
noncomputable def ring_line_leave.F0 (r_ : Int) : Reach := .ret (ring_line_leave.out r_)
noncomputable def ring_line_leave (a0 : (Option Addr)) : M Int :=
  draw >>= fun _ =>
  nilck a0 >>= fun p1 =>
  ld cL p1 >>= fun x2 =>
  nilck a0 >>= fun p3 =>
  ld (cI .i64) (Addr.add p3 1) >>= fun x4 =>
  idx x2.a x2.len x4 1 >>= fun p5 =>
  ld (cI .i64) p5 >>= fun x6 =>
  draw >>= fun _ =>
  nilck a0 >>= fun p7 =>
  ld (cI .i64) (Addr.add p7 1) >>= fun x8 =>
  nilck a0 >>= fun p9 =>
  ld cL p9 >>= fun x10 =>
  chk ((x10.len : Int) ≠ 0) >>= fun _ =>
  nilck a0 >>= fun p11 =>
  st (cI .i64) (Addr.add p11 1) (Int.tmod (IntKind.wrap .i64 (x8 + 1)) (x10.len : Int)) >>= fun _ =>
  nilck a0 >>= fun p12 =>
  ld (cI .i64) (Addr.add p12 2) >>= fun x13 =>
  nilck a0 >>= fun p14 =>
  st (cI .i64) (Addr.add p14 2) (IntKind.wrap .i64 (x13 - 1)) >>= fun _ =>
  pure x6
theorem ring_line_leave_ok (a0 : (Option Addr)) : Ref Try.prog 46 [.pointer a0] (ring_line_leave a0) ring_line_leave.out := by
  refine Ref.of (cd := ring_line_leave.B) Try.func46 ?_
  show SJ ring_line_leave.cx [.code ring_line_leave.B] [(0, .pointer a0)] [] (ring_line_leave a0) ring_line_leave.F0
  unfold ring_line_leave
  refine SJ.sr 1 ?_
  refine OJ.go 1 [(2, .int .i64 0)] ?_
  refine OJ.nil ?_
  refine SJ.seq ?_
  refine SJ.draw (id := 1) (kd := [0, 0, 0, 1, 0, 0, 0, 1, 0, 1, 0]) (bef := [0, 1, 3, 7, 0, 16, 48, 112, 255, 511, 1023]) (ord := [0, 1, 2, 3, 4, 5, 6, 7, 8, 9, 10]) mixed ?_
  refine OJ.go 1 [(4, .pointer a0)] ?_
  refine OJ.nilck (d := 5) (y := .tmp 4) (fun p1 => ?_)
  refine OJ.go 1 [(6, .pointer (some p1))] ?_
  refine OJ.ld (d := 7) (y := .tmp 6) (pend2 := fun x2 => [⟨3, 67, p1, cL.val x2⟩]) Ty67 (fun _ => rfl) (fun x2 => ?_)
  refine OJ.go 1 [(8, .pointer a0)] ?_
  refine OJ.nilck (d := 9) (y := .tmp 8) (fun p3 => ?_)
  refine OJ.go 1 [(10, .pointer (some (Addr.add p3 1)))] ?_
  refine OJ.ld (d := 11) (y := .tmp 10) (pend2 := fun x4 => [⟨7, 3, (Addr.add p3 1), (cI .i64).val x4⟩, ⟨3, 67, p1, cL.val x2⟩]) Ty3 (fun _ => rfl) (fun x4 => ?_)
  refine OJ.idxS (d := 12) (T := 67) (y := .tmp 7) (j := .tmp 11) (E := 3) (cap := x2.cap) (k := .i64) (fun p5 => ?_)
  refine OJ.ld (d := 13) (y := .tmp 12) (pend2 := fun x6 => [⟨9, 3, p5, (cI .i64).val x6⟩, ⟨7, 3, (Addr.add p3 1), (cI .i64).val x4⟩, ⟨3, 67, p1, cL.val x2⟩]) Ty3 (fun _ => rfl) (fun x6 => ?_)
  refine OJ.go 1 [(3, .int .i64 x6)] ?_
  refine OJ.nil ?_
  refine SJ.seq ?_
  refine SJ.draw (id := 2) (kd := [0, 0, 0, 0, 1, 0, 0, 0, 0, 1, 0, 0, 0, 0, 2]) (bef := [0, 0, 2, 6, 14, 30, 0, 64, 192, 448, 960, 2046, 4095, 8191, 16383]) (ord := [0, 1, 2, 3, 4, 5, 6, 7, 8, 9, 10, 11, 12, 13, 14]) mixed ?_
  refine OJ.go 2 [(15, .pointer a0), (14, .pointer a0)] ?_
  refine OJ.nilck (d := 16) (y := .tmp 15) (fun p7 => ?_)
  refine OJ.go 1 [(17, .pointer (some (Addr.add p7 1)))] ?_
  refine OJ.ld (d := 18) (y := .tmp 17) (pend2 := fun x8 => [⟨4, 3, (Addr.add p7 1), (cI .i64).val x8⟩]) Ty3 (fun _ => rfl) (fun x8 => ?_)
  refine OJ.go 2 [(20, .pointer a0), (19, .int .i64 (IntKind.wrap .i64 (x8 + 1)))] ?_
  refine OJ.nilck (d := 21) (y := .tmp 20) (fun p9 => ?_)
  refine OJ.go 1 [(22, .pointer (some p9))] ?_
  refine OJ.ld (d := 23) (y := .tmp 22) (pend2 := fun x10 => [⟨9, 67, p9, cL.val x10⟩, ⟨4, 3, (Addr.add p7 1), (cI .i64).val x8⟩]) Ty67 (fun _ => rfl) (fun x10 => ?_)
  refine OJ.go 1 [(24, .int .i64 (x10.len : Int))] ?_
  refine OJ.rem (d := 25) (T := 3) (yT := 3) (y := .tmp 19) (z := .tmp 24) (p := (IntKind.wrap .i64 (x8 + 1))) (q := (x10.len : Int)) (k := .i64) (fun hq15 => ?_)
  refine OJ.nilck (d := 26) (y := .tmp 14) (fun p11 => ?_)
  refine OJ.go 1 [(27, .pointer (some (Addr.add p11 1)))] ?_
  refine OJ.st (y := .tmp 27) (z := .tmp 25) (owed := []) Ty3 ?_
  refine OW.nil ?_
  refine OJ.nil ?_
  refine SJ.sr 8 ?_
  refine OJ.go 1 [(28, .pointer a0)] ?_
  refine OJ.nilck (d := 29) (y := .tmp 28) (fun p12 => ?_)
  refine OJ.go 1 [(30, .pointer (some (Addr.add p12 2)))] ?_
  refine OJ.ld (d := 31) (y := .tmp 30) (pend2 := fun x13 => []) Ty3 (fun _ => rfl) (fun x13 => ?_)
  refine OJ.go 1 [(32, .int .i64 (IntKind.wrap .i64 (x13 - 1)))] ?_
  refine OJ.nilck (d := 33) (y := .tmp 28) (fun p14 => ?_)
  refine OJ.go 1 [(34, .pointer (some (Addr.add p14 2)))] ?_
  refine OJ.st (y := .tmp 34) (z := .tmp 32) (owed := []) Ty3 ?_
  refine OW.nil ?_
  refine OJ.nil ?_
  refine SJ.sr 2 ?_
  refine OJ.go 2 [(2, .int .i64 x6), (35, .int .i64 x6)] ?_
  refine OJ.nil ?_
  exact SJ.ret rfl (Res.run (ys := [.int .i64 x6]) (.tmp (by kernel_rfl) .nil) rfl)

/-! ### (*weir/ring.Port).bytes: function 47 -/
noncomputable def ring_Port_bytes.B : Code := (Try.f47.body).getD .skip
noncomputable def ring_Port_bytes.cx : Fx := ⟨Try.prog, 47, Try.f47⟩
noncomputable def ring_Port_bytes.out (r_ : Sl) : Value := Sl.v r_
noncomputable def ring_Port_bytes.F0 (r_ : Sl) : Reach := .ret (ring_Port_bytes.out r_)
noncomputable def ring_Port_bytes.K1 (a0 : (Option Addr)) (a1 : Int) : M Sl :=
  nilck a0 >>= fun p11 =>
  ld cL (Addr.add p11 3) >>= fun x12 =>
  idx x12.a x12.len a1 1 >>= fun p13 =>
  ld cL p13 >>= fun x14 =>
  pure x14
theorem ring_Port_bytes.K1_ok (a0 : (Option Addr)) (a1 : Int) :
    SJ ring_Port_bytes.cx [.code (c2 (c2 ring_Port_bytes.B))] [(0, .pointer a0), (1, .int .i64 a1)] [] (ring_Port_bytes.K1 a0 a1) ring_Port_bytes.F0 := by
  unfold ring_Port_bytes.K1
  refine SJ.sr 8 ?_
  refine OJ.go 1 [(24, .pointer a0)] ?_
  refine OJ.nilck (d := 25) (y := .tmp 24) (fun p11 => ?_)
  refine OJ.go 1 [(26, .pointer (some (Addr.add p11 3)))] ?_
  refine OJ.ld (d := 27) (y := .tmp 26) (pend2 := fun x12 => []) Ty43 (fun _ => rfl) (fun x12 => ?_)
  refine OJ.go 1 [(28, .int .i64 a1)] ?_
  refine OJ.idxS (d := 29) (T := 43) (y := .tmp 27) (j := .tmp 28) (E := 22) (cap := x12.cap) (k := .i64) (fun p13 => ?_)
  refine OJ.ld (d := 30) (y := .tmp 29) (pend2 := fun x14 => []) Ty22 (fun _ => rfl) (fun x14 => ?_)
  refine OJ.go 1 [(4, Sl.v x14)] ?_
  refine OJ.nil ?_
  exact SJ.ret rfl (Res.run (ys := [Sl.v x14]) (.tmp (by kernel_rfl) .nil) rfl)
noncomputable def ring_Port_bytes (a0 : (Option Addr)) (a1 : Int) : M Sl :=
  nilck a0 >>= fun p1 =>
  ld cL (Addr.add p1 3) >>= fun x2 =>
  idx x2.a x2.len a1 1 >>= fun p3 =>
  ld cL p3 >>= fun x4 =>
  if x4.a = none then
    draw >>= fun _ =>
    nilck a0 >>= fun p15 =>
    ld cL (Addr.add p15 3) >>= fun x16 =>
    nilck a0 >>= fun p17 =>
    ld (cI .i64) p17 >>= fun x18 =>
    mkS (cI .u8) 5 1 0 x18 x18 >>= fun r19 =>
    same cL (Addr.add p15 3) x16 >>= fun _ =>
    idx x16.a x16.len a1 1 >>= fun p20 =>
    st cL p20 r19 >>= fun _ =>
    ring_Port_bytes.K1 a0 a1
  else
    ring_Port_bytes.K1 a0 a1
theorem ring_Port_bytes_ok (a0 : (Option Addr)) (a1 : Int) : Ref Try.prog 47 [.pointer a0, .int .i64 a1] (ring_Port_bytes a0 a1) ring_Port_bytes.out := by
  refine Ref.of (cd := ring_Port_bytes.B) Try.func47 ?_
  show SJ ring_Port_bytes.cx [.code ring_Port_bytes.B] [(0, .pointer a0), (1, .int .i64 a1)] [] (ring_Port_bytes a0 a1) ring_Port_bytes.F0
  unfold ring_Port_bytes
  refine SJ.sr 1 ?_
  refine OJ.go 1 [(4, Sl.v Sl.nil)] ?_
  refine OJ.nil ?_
  refine SJ.seq ?_
  refine SJ.sr 8 ?_
  refine OJ.go 1 [(5, .pointer a0)] ?_
  refine OJ.nilck (d := 6) (y := .tmp 5) (fun p1 => ?_)
  refine OJ.go 1 [(7, .pointer (some (Addr.add p1 3)))] ?_
  refine OJ.ld (d := 8) (y := .tmp 7) (pend2 := fun x2 => []) Ty43 (fun _ => rfl) (fun x2 => ?_)
  refine OJ.go 1 [(9, .int .i64 a1)] ?_
  refine OJ.idxS (d := 10) (T := 43) (y := .tmp 8) (j := .tmp 9) (E := 22) (cap := x2.cap) (k := .i64) (fun p3 => ?_)
  refine OJ.ld (d := 11) (y := .tmp 10) (pend2 := fun x4 => []) Ty22 (fun _ => rfl) (fun x4 => ?_)
  refine OJ.go 1 [(12, .bool (Option.isNone x4.a))] ?_
  refine OJ.nil ?_
  refine SJ.cond (t := (.tmp 12)) (b := (Option.isNone x4.a)) Option.isNone_iff_eq_none (fun hc21 => ?_) (fun hc21 => ?_)
  · refine SJ.draw (id := 2) (kd := [0, 0, 0, 1, 0, 0, 0, 0, 1, 2, 0, 2]) (bef := [0, 1, 3, 7, 0, 0, 32, 96, 224, 480, 1023, 2047]) (ord := [0, 1, 2, 3, 4, 5, 6, 7, 8, 9, 10, 11]) mixed ?_
    refine OJ.go 1 [(13, .pointer a0)] ?_
    refine OJ.nilck (d := 14) (y := .tmp 13) (fun p15 => ?_)
    refine OJ.go 1 [(15, .pointer (some (Addr.add p15 3)))] ?_
    refine OJ.ld (d := 16) (y := .tmp 15) (pend2 := fun x16 => [⟨3, 43, (Addr.add p15 3), cL.val x16⟩]) Ty43 (fun _ => rfl) (fun x16 => ?_)
    refine OJ.go 2 [(18, .pointer a0), (17, .int .i64 a1)] ?_
    refine OJ.nilck (d := 19) (y := .tmp 18) (fun p17 => ?_)
    refine OJ.go 1 [(20, .pointer (some p17))] ?_
    refine OJ.ld (d := 21) (y := .tmp 20) (pend2 := fun x18 => [⟨8, 3, p17, (cI .i64).val x18⟩, ⟨3, 43, (Addr.add p15 3), cL.val x16⟩]) Ty3 (fun _ => rfl) (fun x18 => ?_)
    refine OJ.mk (d := 22) (t := 22) (lo := .tmp 21) (ko := .tmp 21) (k1 := .i64) (k2 := .i64) (owed := [⟨3, 43, (Addr.add p15 3), cL.val x16⟩]) Ty5 (fun r19 => ?_)
    refine OW.same Ty43 ?_
    refine OW.nil ?_
    refine OJ.idxS (d := 23) (T := 43) (y := .tmp 16) (j := .tmp 17) (E := 22) (cap := x16.cap) (k := .i64) (fun p20 => ?_)
    refine OJ.st (y := .tmp 23) (z := .tmp 22) (owed := []) Ty22 ?_
    refine OW.nil ?_
    refine OJ.nil ?_
    refine SJ.less [0, 1] (m' := [(0, .pointer a0), (1, .int .i64 a1)]) ?_
    exact ring_Port_bytes.K1_ok a0 a1
  · refine SJ.skip ?_
    refine SJ.less [0, 1] (m' := [(0, .pointer a0), (1, .int .i64 a1)]) ?_
    exact ring_Port_bytes.K1_ok a0 a1

/-! ### (*weir/ring.Port).Arrive: function 16 -/
noncomputable def ring_Port_Arrive.B : Code := (Try.f16.body).getD .skip
noncomputable def ring_Port_Arrive.cx : Fx := ⟨Try.prog, 16, Try.f16⟩
noncomputable def ring_Port_Arrive.out (r_ : Int) : Value := .int .i64 r_
noncomputable def ring_Port_Arrive.F0 (r_ : Int) : Reach := .ret (ring_Port_Arrive.out r_)
noncomputable def ring_Port_Arrive (a0 : (Option Addr)) (a1 : Sl) : M Int :=
  if (a1.len : Int) > 65535 then
    pure 2
  else
    nilck a0 >>= fun p10 =>
    ld (cI .i64) p10 >>= fun x11 =>
    if (a1.len : Int) > x11 then
      pure 30
    else
      nilck a0 >>= fun p15 =>
      ld (cI .i64) (Addr.add (Addr.add p15 9) 2) >>= fun x16 =>
      if x16 = 0 then
        pure 31
      else
        nilck a0 >>= fun p17 =>
        ring_line_leave (some (Addr.add p17 9)) >>= fun r18 =>
        ring_Port_bytes a0 r18 >>= fun r19 =>
        cpyS (cI .u8) r19 a1 >>= fun r20 =>
        draw >>= fun _ =>
        nilck a0 >>= fun p21 =>
        ld cL (Addr.add p21 4) >>= fun x22 =>
        nilck a0 >>= fun p23 =>
        ld cL (Addr.add p23 5) >>= fun x24 =>
        idx x22.a x22.len r18 1 >>= fun p25 =>
        st (cI .i64) p25 3 >>= fun _ =>
        idx x24.a x24.len r18 1 >>= fun p26 =>
        st (cI .i64) p26 (a1.len : Int) >>= fun _ =>
        nilck a0 >>= fun p27 =>
        ring_line_join (some (Addr.add p27 12)) r18 >>= fun r28 =>
        pure 0
theorem ring_Port_Arrive_ok (a0 : (Option Addr)) (a1 : Sl) : Ref Try.prog 16 [.pointer a0, Sl.v a1] (ring_Port_Arrive a0 a1) ring_Port_Arrive.out := by
  refine Ref.of (cd := ring_Port_Arrive.B) Try.func16 ?_
  show SJ ring_Port_Arrive.cx [.code ring_Port_Arrive.B] [(0, .pointer a0), (1, Sl.v a1)] [] (ring_Port_Arrive a0 a1) ring_Port_Arrive.F0
  unfold ring_Port_Arrive
  refine SJ.sr 1 ?_
  refine OJ.go 1 [(4, .int .i64 0)] ?_
  refine OJ.nil ?_
  refine SJ.seq ?_
  refine SJ.block (id := 0) ?_
  refine SJ.sr 4 ?_
  refine OJ.go 4 [(6, .bool (decide ((a1.len : Int) > 65535))), (9, .bool (decide ((a1.len : Int) > 65535))), (8, .int .i64 (a1.len : Int)), (7, Sl.v a1)] ?_
  refine OJ.nil ?_
  refine SJ.cond (t := (.tmp 6)) (b := decide ((a1.len : Int) > 65535)) decide_eq_true_iff (fun hc31 => ?_) (fun hc31 => ?_)
  · refine SJ.sr 1 ?_
    refine OJ.go 1 [(4, .int .i64 2)] ?_
    refine OJ.nil ?_
    exact SJ.ret rfl (Res.run (ys := [.int .i64 2]) (.tmp (by kernel_rfl) .nil) rfl)
  · refine SJ.sr 8 ?_
    refine OJ.go 3 [(13, .pointer a0), (12, .int .i64 (a1.len : Int)), (11, Sl.v a1)] ?_
    refine OJ.nilck (d := 14) (y := .tmp 13) (fun p10 => ?_)
    refine OJ.go 1 [(15, .pointer (some p10))] ?_
    refine OJ.ld (d := 16) (y := .tmp 15) (pend2 := fun x11 => []) Ty3 (fun _ => rfl) (fun x11 => ?_)
    refine OJ.go 2 [(10, .bool (decide ((a1.len : Int) > x11))), (17, .bool (decide ((a1.len : Int) > x11)))] ?_
    refine OJ.nil ?_
    refine SJ.cond (t := (.tmp 10)) (b := decide ((a1.len : Int) > x11)) decide_eq_true_iff (fun hc30 => ?_) (fun hc30 => ?_)
    · refine SJ.sr 1 ?_
      refine OJ.go 1 [(4, .int .i64 30)] ?_
      refine OJ.nil ?_
      exact SJ.ret rfl (Res.run (ys := [.int .i64 30]) (.tmp (by kernel_rfl) .nil) rfl)
    · refine SJ.sr 7 ?_
      refine OJ.go 1 [(19, .pointer a0)] ?_
      refine OJ.nilck (d := 20) (y := .tmp 19) (fun p15 => ?_)
      refine OJ.go 2 [(22, .pointer (some (Addr.add (Addr.add p15 9) 2))), (21, .pointer (some (Addr.add p15 9)))] ?_
      refine OJ.ld (d := 23) (y := .tmp 22) (pend2 := fun x16 => []) Ty3 (fun _ => rfl) (fun x16 => ?_)
      refine OJ.go 2 [(18, .bool (x16 == 0)), (24, .bool (x16 == 0))] ?_
      refine OJ.nil ?_
      refine SJ.cond (t := (.tmp 18)) (b := (x16 == 0)) beq_iff_eq (fun hc29 => ?_) (fun hc29 => ?_)
      · refine SJ.sr 1 ?_
        refine OJ.go 1 [(4, .int .i64 31)] ?_
        refine OJ.nil ?_
        exact SJ.ret rfl (Res.run (ys := [.int .i64 31]) (.tmp (by kernel_rfl) .nil) rfl)
      · refine SJ.skip ?_
        refine SJ.inBlock ?_
        refine SJ.sr 5 ?_
        refine OJ.go 1 [(25, .pointer a0)] ?_
        refine OJ.nilck (d := 26) (y := .tmp 25) (fun p17 => ?_)
        refine OJ.go 1 [(27, .pointer (some (Addr.add p17 9)))] ?_
        refine OJ.call (d := 28) (g := 46) (ats := #[86]) (args := [.tmp 27]) (owed := []) F46 (ring_line_leave_ok (some (Addr.add p17 9))) (fun r18 => ?_)
        refine OW.nil ?_
        refine OJ.go 1 [(5, .int .i64 r18)] ?_
        refine OJ.nil ?_
        refine SJ.sr 5 ?_
        refine OJ.go 2 [(30, .int .i64 r18), (29, .pointer a0)] ?_
        refine OJ.call (d := 31) (g := 47) (ats := #[23, 3]) (args := [.tmp 29, .tmp 30]) (owed := []) F47 (ring_Port_bytes_ok a0 r18) (fun r19 => ?_)
        refine OW.nil ?_
        refine OJ.go 1 [(32, Sl.v a1)] ?_
        refine OJ.cpy1 (n := 33) (t := 22) (u := 22) (so := .tmp 31) (xo := .tmp 32) (owed := []) Ty5 (fun r20 => ?_)
        refine OW.nil ?_
        refine OJ.nil ?_
        refine SJ.seq ?_
        refine SJ.draw (id := 9) (kd := [0, 0, 0, 1, 0, 0, 0, 0, 1, 0, 0, 0, 0, 2, 0, 2]) (bef := [0, 1, 3, 7, 0, 0, 32, 96, 224, 0, 0, 1024, 511, 4607, 16383, 32767]) (ord := [0, 1, 2, 3, 4, 5, 6, 7, 8, 9, 10, 11, 12, 13, 14, 15]) mixed ?_
        refine OJ.go 1 [(34, .pointer a0)] ?_
        refine OJ.nilck (d := 35) (y := .tmp 34) (fun p21 => ?_)
        refine OJ.go 1 [(36, .pointer (some (Addr.add p21 4)))] ?_
        refine OJ.ld (d := 37) (y := .tmp 36) (pend2 := fun x22 => [⟨3, 67, (Addr.add p21 4), cL.val x22⟩]) Ty67 (fun _ => rfl) (fun x22 => ?_)
        refine OJ.go 2 [(39, .pointer a0), (38, .int .i64 r18)] ?_
        refine OJ.nilck (d := 40) (y := .tmp 39) (fun p23 => ?_)
        refine OJ.go 1 [(41, .pointer (some (Addr.add p23 5)))] ?_
        refine OJ.ld (d := 42) (y := .tmp 41) (pend2 := fun x24 => [⟨8, 67, (Addr.add p23 5), cL.val x24⟩, ⟨3, 67, (Addr.add p21 4), cL.val x22⟩]) Ty67 (fun _ => rfl) (fun x24 => ?_)
        refine OJ.go 3 [(45, .int .i64 (a1.len : Int)), (44, Sl.v a1), (43, .int .i64 r18)] ?_
        refine OJ.idxS (d := 46) (T := 67) (y := .tmp 37) (j := .tmp 38) (E := 3) (cap := x22.cap) (k := .i64) (fun p25 => ?_)
        refine OJ.st (y := .tmp 46) (z := .const (.int .i64 3)) (owed := []) Ty3 ?_
        refine OW.nil ?_
        refine OJ.idxS (d := 47) (T := 67) (y := .tmp 42) (j := .tmp 43) (E := 3) (cap := x24.cap) (k := .i64) (fun p26 => ?_)
        refine OJ.st (y := .tmp 47) (z := .tmp 45) (owed := []) Ty3 ?_
        refine OW.nil ?_
        refine OJ.nil ?_
        refine SJ.sr 5 ?_
        refine OJ.go 1 [(48, .pointer a0)] ?_
        refine OJ.nilck (d := 49) (y := .tmp 48) (fun p27 => ?_)
        refine OJ.go 2 [(51, .int .i64 r18), (50, .pointer (some (Addr.add p27 12)))] ?_
        refine OJ.call (d := 52) (g := 45) (ats := #[86, 3]) (args := [.tmp 50, .tmp 51]) (owed := []) F45 (ring_line_join_ok (some (Addr.add p27 12)) r18) (fun r28 => ?_)
        refine OW.nil ?_
        refine OJ.nil ?_
        refine SJ.sr 1 ?_
        refine OJ.go 1 [(4, .int .i64 0)] ?_
        refine OJ.nil ?_
        exact SJ.ret rfl (Res.run (ys := [.int .i64 0]) (.tmp (by kernel_rfl) .nil) rfl)

/-! ### weir/weirref3.first: function 77 -/
noncomputable def weirref3_first.B : Code := (Try.f77.body).getD .skip
noncomputable def weirref3_first.cx : Fx := ⟨Try.prog, 77, Try.f77⟩
noncomputable def weirref3_first.out (r_ : Int) : Value := .int .i64 r_
noncomputable def weirref3_first.F0 (r_ : Int) : Reach := .ret (weirref3_first.out r_)
noncomputable def weirref3_first.F1 (a0 : weirref3_Port) (a1 : Int) (b1 : Nat) : (LS (Int × Int) Int) → Reach := loopF [.inLoop (c1 (c1 (c2 (c1 (c2 (c2 weirref3_first.B)))))), .inBlock 0, .code (c2 (c2 (c2 weirref3_first.B)))] (fun s_ : (Int × Int) => [(1, .int .i64 a1), (2, .pointer (some (pt b1 0))), (5, .int .i64 s_.1), (6, .int .i64 s_.2)]) (fun s_ : (Int × Int) => [(b1, c_weirref3_Port.enc a0)]) weirref3_first.F0
noncomputable def weirref3_first.L1 (a0 : weirref3_Port) (a1 : Int) (s2 : Int) (s3 : Int) : M (LS (Int × Int) Int) :=
  if s3 < (a0.L.len : Int) then
    draw >>= fun _ =>
    idx a0.L.a a0.L.len s3 4 >>= fun p14 =>
    ld (cI .i64) p14 >>= fun x15 =>
    (if x15 = a1 then
        (if s2 < 0 then
            pure true
          else
            idx a0.L.a a0.L.len s3 4 >>= fun p16 =>
            ld (cI .i64) (Addr.add p16 1) >>= fun x17 =>
            idx a0.L.a a0.L.len s2 4 >>= fun p18 =>
            ld (cI .i64) (Addr.add p18 1) >>= fun x19 =>
            pure (decide (x17 < x19))) >>= fun y20 =>
        pure y20
      else
        pure false) >>= fun y21 =>
    if y21 = true then
      pure (LS.next (s3, IntKind.wrap .i64 (s3 + 1)))
    else
      pure (LS.next (s2, IntKind.wrap .i64 (s3 + 1)))
  else
    pure (LS.done s2)
theorem weirref3_first.L1_ok (a0 : weirref3_Port) (a1 : Int) (b1 : Nat) (s2 : Int) (s3 : Int) :
    SJ weirref3_first.cx [.code (c1 (c1 (c2 (c1 (c2 (c2 weirref3_first.B)))))), .inLoop (c1 (c1 (c2 (c1 (c2 (c2 weirref3_first.B)))))), .inBlock 0, .code (c2 (c2 (c2 weirref3_first.B)))] [(1, .int .i64 a1), (2, .pointer (some (pt b1 0))), (5, .int .i64 s2), (6, .int .i64 s3)] [(b1, c_weirref3_Port.enc a0)] (weirref3_first.L1 a0 a1 s2 s3) (weirref3_first.F1 a0 a1 b1) := by
  unfold weirref3_first.L1
  refine SJ.seq ?_
  refine SJ.sr 5 ?_
  refine OJ.go 2 [(8, .pointer (some (pt b1 3))), (7, .int .i64 s3)] ?_
  refine OJ.kld (d := 9) (y := .tmp 8) (cd := cL) (j := 0) (b := b1) (o := 3) a0.L (pend2 := []) Ty57 rfl (At_weirref3_Port_L a0) rfl ?_
  refine OJ.go 2 [(11, .bool (decide (s3 < (a0.L.len : Int)))), (10, .int .i64 (a0.L.len : Int))] ?_
  refine OJ.nil ?_
  refine SJ.cond (t := (.tmp 11)) (b := decide (s3 < (a0.L.len : Int))) decide_eq_true_iff (fun hc23 => ?_) (fun hc23 => ?_)
  · refine SJ.skip ?_
    refine SJ.seq ?_
    refine SJ.block (id := 1) ?_
    refine SJ.seq ?_
    refine SJ.draw (id := 5) (kd := [0, 1, 0, 0, 0, 1, 0, 0, 0, 0, 0, 0, 0, 1, 0, 0, 0, 1, 0, 1, 0, 0, 0, 1, 0, 0, 0]) (bef := [0, 1, 0, 7, 15, 31, 0, 127, 255, 511, 1023, 2047, 4095, 8191, 4095, 32767, 65535, 131071, 4095, 266239, 4095, 1839103, 3936255, 8130559, 16777215, 33554431, 67108863]) (ord := [0, 1, 2, 3, 4, 5, 6, 7, 8, 9, 10, 11, 12, 13, 14, 15, 16, 17, 18, 19, 20, 21, 22, 23, 24, 25, 26]) mixed ?_
    refine OJ.go 1 [(14, .pointer (some (pt b1 3)))] ?_
    refine OJ.kld (d := 15) (y := .tmp 14) (cd := cL) (j := 0) (b := b1) (o := 3) a0.L (pend2 := [⟨1, 57, (pt b1 3), cL.val a0.L⟩]) Ty57 rfl (At_weirref3_Port_L a0) rfl ?_
    refine OJ.go 1 [(16, .int .i64 s3)] ?_
    refine OJ.idxS (d := 17) (T := 57) (y := .tmp 15) (j := .tmp 16) (E := 110) (cap := a0.L.cap) (k := .i64) (fun p14 => ?_)
    refine OJ.go 1 [(18, .pointer (some p14))] ?_
    refine OJ.ld (d := 19) (y := .tmp 18) (pend2 := fun x15 => [⟨5, 3, p14, (cI .i64).val x15⟩, ⟨1, 57, (pt b1 3), cL.val a0.L⟩]) Ty3 (fun _ => rfl) (fun x15 => ?_)
    refine OJ.go 3 [(22, .bool (x15 == a1)), (21, .bool (x15 == a1)), (20, .int .i64 a1)] ?_
    refine OJ.join (b := (x15 == a1)) [9, 10, 11, 12, 13, 14, 15, 16, 17, 18, 19, 20, 21, 22, 23, 24, 25, 26] [] [1, 2, 5, 6, 40] (fun y21 => [(1, .int .i64 a1), (2, .pointer (some (pt b1 0))), (5, .int .i64 s2), (6, .int .i64 s3), (40, .bool y21)]) [⟨19, 57, (pt b1 3), cL.val a0.L⟩, ⟨13, 57, (pt b1 3), cL.val a0.L⟩, ⟨5, 3, p14, (cI .i64).val x15⟩, ⟨1, 57, (pt b1 3), cL.val a0.L⟩] [17, 23] (t := 22) beq_iff_eq (fun hp_ => ?_) (fun hp_ => ?_) (fun _ _ _ _ _ _ h_ => h_) (fun y21 => ?_)
    · refine OJ.go 3 [(25, .bool (decide (s2 < 0))), (24, .bool (decide (s2 < 0))), (23, .int .i64 s2)] ?_
      refine OJ.join (b := decide (s2 < 0)) [12, 13, 14, 15, 16, 17, 18, 19, 20, 21, 22, 23, 24, 25] [26] [1, 2, 5, 6, 22, 39] (fun y20 => [(1, .int .i64 a1), (2, .pointer (some (pt b1 0))), (5, .int .i64 s2), (6, .int .i64 s3), (22, .bool true), (39, .bool y20)]) [⟨19, 57, (pt b1 3), cL.val a0.L⟩, ⟨13, 57, (pt b1 3), cL.val a0.L⟩, ⟨5, 3, p14, (cI .i64).val x15⟩, ⟨1, 57, (pt b1 3), cL.val a0.L⟩] [17, 23] (t := 25) decide_eq_true_iff (fun hp_ => ?_) (fun hp_ => ?_) (fun _ _ _ _ _ hq_ h_ => ⟨fun e_ he_ => by rcases hq_ e_ he_ with h | h; exact h_.1 e_ h; exact .inr ((by decide : ∀ i ∈ [17, 23], i ∈ [17, 23]) _ h), h_.2⟩) (fun y20 => ?_)
      · refine OJ.go 14 [(39, .bool true), (38, undef), (37, undef), (36, undef), (35, undef), (34, undef), (33, undef), (32, undef), (31, undef), (30, undef), (29, undef), (28, undef), (27, undef), (26, undef)] ?_
        exact OJ.nil ⟨(Cov.mem (Cov.keep (List.mem_of_getElem? (i := 2) rfl) (Cov.keep (List.mem_of_getElem? (i := 3) rfl) Cov.nil))), rfl, _, rfl, by kernel_rfl⟩
      · refine OJ.go 1 [(26, .pointer (some (pt b1 3)))] ?_
        refine OJ.kld (d := 27) (y := .tmp 26) (cd := cL) (j := 0) (b := b1) (o := 3) a0.L (pend2 := [⟨13, 57, (pt b1 3), cL.val a0.L⟩, ⟨5, 3, p14, (cI .i64).val x15⟩, ⟨1, 57, (pt b1 3), cL.val a0.L⟩]) Ty57 rfl (At_weirref3_Port_L a0) rfl ?_
        refine OJ.go 1 [(28, .int .i64 s3)] ?_
        refine OJ.idxS (d := 29) (T := 57) (y := .tmp 27) (j := .tmp 28) (E := 110) (cap := a0.L.cap) (k := .i64) (fun p16 => ?_)
        refine OJ.go 1 [(30, .pointer (some (Addr.add p16 1)))] ?_
        refine OJ.ld (d := 31) (y := .tmp 30) (pend2 := fun x17 => [⟨17, 3, (Addr.add p16 1), (cI .i64).val x17⟩, ⟨13, 57, (pt b1 3), cL.val a0.L⟩, ⟨5, 3, p14, (cI .i64).val x15⟩, ⟨1, 57, (pt b1 3), cL.val a0.L⟩]) Ty3 (fun _ => rfl) (fun x17 => ?_)
        refine OJ.go 1 [(32, .pointer (some (pt b1 3)))] ?_
        refine OJ.kld (d := 33) (y := .tmp 32) (cd := cL) (j := 0) (b := b1) (o := 3) a0.L (pend2 := [⟨19, 57, (pt b1 3), cL.val a0.L⟩, ⟨17, 3, (Addr.add p16 1), (cI .i64).val x17⟩, ⟨13, 57, (pt b1 3), cL.val a0.L⟩, ⟨5, 3, p14, (cI .i64).val x15⟩, ⟨1, 57, (pt b1 3), cL.val a0.L⟩]) Ty57 rfl (At_weirref3_Port_L a0) rfl ?_
        refine OJ.go 1 [(34, .int .i64 s2)] ?_
        refine OJ.idxS (d := 35) (T := 57) (y := .tmp 33) (j := .tmp 34) (E := 110) (cap := a0.L.cap) (k := .i64) (fun p18 => ?_)
        refine OJ.go 1 [(36, .pointer (some (Addr.add p18 1)))] ?_
        refine OJ.ld (d := 37) (y := .tmp 36) (pend2 := fun x19 => [⟨23, 3, (Addr.add p18 1), (cI .i64).val x19⟩, ⟨19, 57, (pt b1 3), cL.val a0.L⟩, ⟨17, 3, (Addr.add p16 1), (cI .i64).val x17⟩, ⟨13, 57, (pt b1 3), cL.val a0.L⟩, ⟨5, 3, p14, (cI .i64).val x15⟩, ⟨1, 57, (pt b1 3), cL.val a0.L⟩]) Ty3 (fun _ => rfl) (fun x19 => ?_)
        refine OJ.go 2 [(39, .bool (decide (x17 < x19))), (38, .bool (decide (x17 < x19)))] ?_
        exact OJ.nil ⟨(Cov.mem (Cov.drop (List.mem_of_getElem? (i := 1) rfl) (Cov.keep (List.mem_of_getElem? (i := 0) rfl) (Cov.drop (List.mem_of_getElem? (i := 0) rfl) (Cov.keep (List.mem_of_getElem? (i := 1) rfl) (Cov.keep (List.mem_of_getElem? (i := 2) rfl) (Cov.keep (List.mem_of_getElem? (i := 3) rfl) Cov.nil))))))), rfl, _, rfl, by kernel_rfl⟩
      · refine OJ.go 1 [(40, .bool y20)] ?_
        exact OJ.nil ⟨(Cov.mem (Cov.keep (List.mem_of_getElem? (i := 0) rfl) (Cov.keep (List.mem_of_getElem? (i := 1) rfl) (Cov.keep (List.mem_of_getElem? (i := 2) rfl) (Cov.keep (List.mem_of_getElem? (i := 3) rfl) Cov.nil))))), rfl, _, rfl, by kernel_rfl⟩
    · refine OJ.go 18 [(40, .bool false), (39, undef), (38, undef), (37, undef), (36, undef), (35, undef), (34, undef), (33, undef), (32, undef), (31, undef), (30, undef), (29, undef), (28, undef), (27, undef), (26, undef), (25, undef), (24, undef), (23, undef)] ?_
      exact OJ.nil ⟨(Cov.mem (Cov.keep (List.mem_of_getElem? (i := 2) rfl) (Cov.keep (List.mem_of_getElem? (i := 3) rfl) Cov.nil))), rfl, _, rfl, by kernel_rfl⟩
    · refine OJ.nil ?_
      refine SJ.cond (t := (.tmp 40)) (b := y21) Iff.rfl (fun hc22 => ?_) (fun hc22 => ?_)
      · refine SJ.rg 2 ?_
        refine OJ.go 2 [(5, .int .i64 s3), (41, .int .i64 s3)] ?_
        refine OJ.nil ?_
        refine SJ.inBlock ?_
        refine SJ.rg 3 ?_
        refine OJ.go 3 [(6, .int .i64 (IntKind.wrap .i64 (s3 + 1))), (13, .int .i64 (IntKind.wrap .i64 (s3 + 1))), (12, .int .i64 s3)] ?_
        refine OJ.nil ?_
        exact SJ.at_ [1, 2, 5, 6] rfl
      · refine SJ.skip ?_
        refine SJ.inBlock ?_
        refine SJ.rg 3 ?_
        refine OJ.go 3 [(6, .int .i64 (IntKind.wrap .i64 (s3 + 1))), (13, .int .i64 (IntKind.wrap .i64 (s3 + 1))), (12, .int .i64 s3)] ?_
        refine OJ.nil ?_
        exact SJ.at_ [1, 2, 5, 6] rfl
  · refine SJ.exit (id := 0) (by rfl) ?_
    refine SJ.sr 2 ?_
    refine OJ.go 2 [(4, .int .i64 s2), (42, .int .i64 s2)] ?_
    refine OJ.nil ?_
    exact SJ.ret rfl (Res.run (ys := [.int .i64 s2]) (.tmp (by kernel_rfl) .nil) rfl)
noncomputable def weirref3_first (a0 : weirref3_Port) (a1 : Int) : M Int :=
  slot 59 >>= fun b1 =>
  loopM (fun s_ : (Int × Int) => weirref3_first.L1 a0 a1 s_.1 s_.2) ((-1), 0)
theorem weirref3_first_ok (a0 : weirref3_Port) (a1 : Int) : Ref Try.prog 77 [c_weirref3_Port.val a0, .int .i64 a1] (weirref3_first a0 a1) weirref3_first.out := by
  refine Ref.of (cd := weirref3_first.B) Try.func77 ?_
  show SJ weirref3_first.cx [.code weirref3_first.B] [(0, c_weirref3_Port.val a0), (1, .int .i64 a1)] [] (weirref3_first a0 a1) weirref3_first.F0
  unfold weirref3_first
  refine SJ.sr 2 ?_
  refine OJ.slotOf (d := 2) (op := (.box 59 (.tmp 0))) (cd := c_weirref3_Port) (u := a0) (owed := []) (box_run (by kernel_rfl)) (fun b1 => ?_)
  refine OW.nil ?_
  refine OJ.go 1 [(4, .int .i64 0)] ?_
  refine OJ.nil ?_
  refine SJ.sr 1 ?_
  refine OJ.go 1 [(5, .int .i64 (-1))] ?_
  refine OJ.nil ?_
  refine SJ.seq ?_
  refine SJ.sr 1 ?_
  refine OJ.go 1 [(6, .int .i64 0)] ?_
  refine OJ.nil ?_
  refine SJ.block (id := 0) ?_
  exact SJ.loop (fun s_ : (Int × Int) => [(1, .int .i64 a1), (2, .pointer (some (pt b1 0))), (5, .int .i64 s_.1), (6, .int .i64 s_.2)]) (fun s_ : (Int × Int) => [(b1, c_weirref3_Port.enc a0)]) [1, 2, 5, 6] rfl (fun _ _ => rfl) (fun s_ => weirref3_first.L1_ok a0 a1 b1 s_.1 s_.2)

/-! ### weir/weirref3.laid: function 78 -/
noncomputable def weirref3_laid.B : Code := (Try.f78.body).getD .skip
noncomputable def weirref3_laid.cx : Fx := ⟨Try.prog, 78, Try.f78⟩
noncomputable def weirref3_laid.out (r_ : Sl) : Value := Sl.v r_
noncomputable def weirref3_laid.F0 (r_ : Sl) : Reach := .ret (weirref3_laid.out r_)
noncomputable def weirref3_laid.F1 (a0 : Sl) : (LS (Sl × Int) Sl) → Reach := loopF [.inLoop (c1 (c1 (c2 (c1 (c2 (c2 (c2 weirref3_laid.B))))))), .inBlock 0, .code (c2 (c2 (c2 (c2 weirref3_laid.B))))] (fun s_ : (Sl × Int) => [(0, Sl.v a0), (5, Sl.v s_.1), (6, .int .i64 s_.2)]) (fun s_ : (Sl × Int) => []) weirref3_laid.F0
noncomputable def weirref3_laid.L1 (a0 : Sl) (s2 : Sl) (s3 : Int) : M (LS (Sl × Int) Sl) :=
  if s3 < (a0.len : Int) then
    idx a0.a a0.len s3 1 >>= fun p9 =>
    ld (cI .u8) p9 >>= fun x10 =>
    slot 5 >>= fun b11 =>
    appl (cI .u8) 5 1 0 s2 [x10] >>= fun r12 =>
    pure (LS.next (r12, IntKind.wrap .i64 (s3 + 1)))
  else
    pure (LS.done s2)
theorem weirref3_laid.L1_ok (a0 : Sl) (s2 : Sl) (s3 : Int) :
    SJ weirref3_laid.cx [.code (c1 (c1 (c2 (c1 (c2 (c2 (c2 weirref3_laid.B))))))), .inLoop (c1 (c1 (c2 (c1 (c2 (c2 (c2 weirref3_laid.B))))))), .inBlock 0, .code (c2 (c2 (c2 (c2 weirref3_laid.B))))] [(0, Sl.v a0), (5, Sl.v s2), (6, .int .i64 s3)] [] (weirref3_laid.L1 a0 s2 s3) (weirref3_laid.F1 a0) := by
  unfold weirref3_laid.L1
  refine SJ.seq ?_
  refine SJ.sr 4 ?_
  refine OJ.go 4 [(15, .bool (decide (s3 < (a0.len : Int)))), (14, .int .i64 (a0.len : Int)), (13, Sl.v a0), (12, .int .i64 s3)] ?_
  refine OJ.nil ?_
  refine SJ.cond (t := (.tmp 15)) (b := decide (s3 < (a0.len : Int))) decide_eq_true_iff (fun hc13 => ?_) (fun hc13 => ?_)
  · refine SJ.skip ?_
    refine SJ.seq ?_
    refine SJ.block (id := 1) ?_
    refine SJ.rg 8 ?_
    refine OJ.go 3 [(20, .int .i64 s3), (19, Sl.v a0), (18, Sl.v s2)] ?_
    refine OJ.idxS (d := 21) (T := 22) (y := .tmp 19) (j := .tmp 20) (E := 5) (cap := a0.cap) (k := .i64) (fun p9 => ?_)
    refine OJ.ld (d := 22) (y := .tmp 21) (pend2 := fun x10 => []) Ty5 (fun _ => rfl) (fun x10 => ?_)
    refine OJ.rowSlot (d := 23) (t := 22) (parts := [(0, .tmp 22)]) (ps := [(0, (cI .u8).val x10)]) (cd := (cI .u8)) (⟨[x10], rfl⟩ : Vec Int 1) (owed := []) Ty5 (Filled.cons (cd := (cI .u8)) (q := x10) (o := 0) rfl (Upd.arr (i := 0) (by decide) (by decide)) Filled.nil) (fun b11 => ?_)
    refine OW.nil ?_
    refine OJ.appl (d := 24) (t := 22) (u := 22) (so := .tmp 18) (xo := .tmp 23) (j := 0) (b := b11) (l := ((cI .u8).arr 1).enc (⟨[x10], rfl⟩ : Vec Int 1)) (n := 1) (k := 1) [x10] (owed := []) Ty5 (by rfl) (Cod.arr_enc _ _ _) (by rfl) (fun r12 => ?_)
    refine OW.nil ?_
    refine OJ.go 1 [(5, Sl.v r12)] ?_
    refine OJ.nil ?_
    refine SJ.inBlock ?_
    refine SJ.rg 3 ?_
    refine OJ.go 3 [(6, .int .i64 (IntKind.wrap .i64 (s3 + 1))), (17, .int .i64 (IntKind.wrap .i64 (s3 + 1))), (16, .int .i64 s3)] ?_
    refine OJ.nil ?_
    refine SJ.forget (List.Sublist.cons _ List.Sublist.slnil) ?_
    exact SJ.at_ [0, 5, 6] rfl
  · refine SJ.exit (id := 0) (by rfl) ?_
    refine SJ.sr 2 ?_
    refine OJ.go 2 [(4, Sl.v s2), (25, Sl.v s2)] ?_
    refine OJ.nil ?_
    exact SJ.ret rfl (Res.run (ys := [Sl.v s2]) (.tmp (by kernel_rfl) .nil) rfl)
noncomputable def weirref3_laid (a0 : Sl) (a1 : Sl) : M Sl :=
  appS (cI .u8) 5 1 0 Sl.nil a1 >>= fun r1 =>
  loopM (fun s_ : (Sl × Int) => weirref3_laid.L1 a0 s_.1 s_.2) (r1, (a1.len : Int))
theorem weirref3_laid_ok (a0 : Sl) (a1 : Sl) : Ref Try.prog 78 [Sl.v a0, Sl.v a1] (weirref3_laid a0 a1) weirref3_laid.out := by
  refine Ref.of (cd := weirref3_laid.B) Try.func78 ?_
  show SJ weirref3_laid.cx [.code weirref3_laid.B] [(0, Sl.v a0), (1, Sl.v a1)] [] (weirref3_laid a0 a1) weirref3_laid.F0
  unfold weirref3_laid
  refine SJ.sr 1 ?_
  refine OJ.go 1 [(4, Sl.v Sl.nil)] ?_
  refine OJ.nil ?_
  refine SJ.sr 1 ?_
  refine OJ.go 1 [(5, Sl.v Sl.nil)] ?_
  refine OJ.nil ?_
  refine SJ.sr 4 ?_
  refine OJ.go 2 [(8, Sl.v a1), (7, Sl.v Sl.nil)] ?_
  refine OJ.appS (d := 9) (t := 22) (u := 22) (so := .tmp 7) (xo := .tmp 8) (owed := []) Ty5 (fun r1 => ?_)
  refine OW.nil ?_
  refine OJ.go 1 [(5, Sl.v r1)] ?_
  refine OJ.nil ?_
  refine SJ.seq ?_
  refine SJ.sr 3 ?_
  refine OJ.go 3 [(6, .int .i64 (a1.len : Int)), (11, .int .i64 (a1.len : Int)), (10, Sl.v a1)] ?_
  refine OJ.nil ?_
  refine SJ.block (id := 0) ?_
  exact SJ.loop (fun s_ : (Sl × Int) => [(0, Sl.v a0), (5, Sl.v s_.1), (6, .int .i64 s_.2)]) (fun s_ : (Sl × Int) => []) [0, 5, 6] rfl (fun _ _ => rfl) (fun s_ => weirref3_laid.L1_ok a0 s_.1 s_.2)

/-! ### weir/weirref3.put: function 79 -/
noncomputable def weirref3_put.B : Code := (Try.f79.body).getD .skip
noncomputable def weirref3_put.cx : Fx := ⟨Try.prog, 79, Try.f79⟩
noncomputable def weirref3_put.out (r_ : weirref3_Port) : Value := c_weirref3_Port.val r_
noncomputable def weirref3_put.F0 (r_ : weirref3_Port) : Reach := .ret (weirref3_put.out r_)
noncomputable def weirref3_put (a0 : weirref3_Port) (a1 : Int) (a2 : weirref3_Buf) : M weirref3_Port :=
  slot 59 >>= fun b1 =>
  slot 110 >>= fun b2 =>
  slot 59 >>= fun b3 =>
  appS c_weirref3_Buf 110 48 z_weirref3_Buf Sl.nil a0.L >>= fun r4 =>
  idx r4.a r4.len a1 4 >>= fun p5 =>
  st c_weirref3_Buf p5 a2 >>= fun _ =>
  pure (⟨a0.Rx, a0.Tx, a0.Size, r4, a0.Now⟩ : weirref3_Port)
theorem weirref3_put_ok (a0 : weirref3_Port) (a1 : Int) (a2 : weirref3_Buf) : Ref Try.prog 79 [c_weirref3_Port.val a0, .int .i64 a1, c_weirref3_Buf.val a2] (weirref3_put a0 a1 a2) weirref3_put.out := by
  refine Ref.of (cd := weirref3_put.B) Try.func79 ?_
  show SJ weirref3_put.cx [.code weirref3_put.B] [(0, c_weirref3_Port.val a0), (1, .int .i64 a1), (2, c_weirref3_Buf.val a2)] [] (weirref3_put a0 a1 a2) weirref3_put.F0
  unfold weirref3_put
  refine SJ.sr 3 ?_
  refine OJ.slotOf (d := 3) (op := (.box 59 (.tmp 0))) (cd := c_weirref3_Port) (u := a0) (owed := []) (box_run (by kernel_rfl)) (fun b1 => ?_)
  refine OW.nil ?_
  refine OJ.slotOf (d := 5) (op := (.box 110 (.tmp 2))) (cd := c_weirref3_Buf) (u := a2) (owed := []) (box_run (by kernel_rfl)) (fun b2 => ?_)
  refine OW.nil ?_
  refine OJ.slotOf (d := 6) (op := (.alloc 59)) (cd := c_weirref3_Port) (u := z_weirref3_Port) (owed := []) (alloc_run Ty59) (fun b3 => ?_)
  refine OW.nil ?_
  refine OJ.nil ?_
  refine SJ.sr 1 ?_
  refine OJ.go 1 [(7, Sl.v Sl.nil)] ?_
  refine OJ.nil ?_
  refine SJ.sr 5 ?_
  refine OJ.go 2 [(9, .pointer (some (pt b1 3))), (8, Sl.v Sl.nil)] ?_
  refine OJ.kld (d := 10) (y := .tmp 9) (cd := cL) (j := 2) (b := b1) (o := 3) a0.L (pend2 := []) Ty57 rfl (At_weirref3_Port_L a0) rfl ?_
  refine OJ.appS (d := 11) (t := 57) (u := 57) (so := .tmp 8) (xo := .tmp 10) (owed := []) Ty110 (fun r4 => ?_)
  refine OW.nil ?_
  refine OJ.go 1 [(7, Sl.v r4)] ?_
  refine OJ.nil ?_
  refine SJ.sr 5 ?_
  refine OJ.go 2 [(13, .int .i64 a1), (12, Sl.v r4)] ?_
  refine OJ.kld (d := 14) (y := .tmp 5) (cd := c_weirref3_Buf) (j := 1) (b := b2) (o := 0) a2 (pend2 := []) Ty110 rfl (At.whole _) rfl ?_
  refine OJ.idxS (d := 15) (T := 57) (y := .tmp 12) (j := .tmp 13) (E := 110) (cap := r4.cap) (k := .i64) (fun p5 => ?_)
  refine OJ.st (y := .tmp 15) (z := .tmp 14) (owed := []) Ty110 ?_
  refine OW.nil ?_
  refine OJ.nil ?_
  refine SJ.sr 3 ?_
  refine OJ.go 2 [(17, .pointer (some (pt b1 3))), (16, Sl.v r4)] ?_
  refine OJ.kst (y := .tmp 17) (z := .tmp 16) (cd := cL) (u := r4) (j := 2) (b := b1) (o := 3) (c_weirref3_Port.enc (⟨a0.Rx, a0.Tx, a0.Size, r4, a0.Now⟩ : weirref3_Port)) (owed := []) Ty57 rfl (Up_weirref3_Port_L a0 r4) rfl ?_
  refine OW.nil ?_
  refine OJ.nil ?_
  refine SJ.sr 2 ?_
  refine OJ.kld (d := 18) (y := .tmp 3) (cd := c_weirref3_Port) (j := 2) (b := b1) (o := 0) (⟨a0.Rx, a0.Tx, a0.Size, r4, a0.Now⟩ : weirref3_Port) (pend2 := []) Ty59 rfl (At.whole _) rfl ?_
  refine OJ.kst (y := .tmp 6) (z := .tmp 18) (cd := c_weirref3_Port) (u := (⟨a0.Rx, a0.Tx, a0.Size, r4, a0.Now⟩ : weirref3_Port)) (j := 0) (b := b3) (o := 0) (c_weirref3_Port.enc (⟨a0.Rx, a0.Tx, a0.Size, r4, a0.Now⟩ : weirref3_Port)) (owed := []) Ty59 rfl (Upd.whole ((Cod.len _ _).trans (Cod.len _ _).symm)) rfl ?_
  refine OW.nil ?_
  refine OJ.nil ?_
  exact SJ.ret rfl (Res.run (ys := [c_weirref3_Port.val (⟨a0.Rx, a0.Tx, a0.Size, r4, a0.Now⟩ : weirref3_Port)]) (.cell (j := 0) (b := b3) (cd := c_weirref3_Port) (q := (⟨a0.Rx, a0.Tx, a0.Size, r4, a0.Now⟩ : weirref3_Port)) (by kernel_rfl) rfl Ty59 (At.whole _) .nil) rfl)

/-! ### weir/weirref3.moved: function 80 -/
noncomputable def weirref3_moved.B : Code := (Try.f80.body).getD .skip
noncomputable def weirref3_moved.cx : Fx := ⟨Try.prog, 80, Try.f80⟩
noncomputable def weirref3_moved.out (r_ : weirref3_Port) : Value := c_weirref3_Port.val r_
noncomputable def weirref3_moved.F0 (r_ : weirref3_Port) : Reach := .ret (weirref3_moved.out r_)
noncomputable def weirref3_moved (a0 : weirref3_Port) (a1 : Int) (a2 : Int) : M weirref3_Port :=
  slot 59 >>= fun b1 =>
  slot 59 >>= fun b2 =>
  idx a0.L.a a0.L.len a1 4 >>= fun p3 =>
  ld c_weirref3_Buf p3 >>= fun x4 =>
  slot 110 >>= fun b5 =>
  weirref3_put a0 a1 (⟨a2, a0.Now, x4.N, x4.Data⟩ : weirref3_Buf) >>= fun r6 =>
  pure (⟨r6.Rx, r6.Tx, r6.Size, r6.L, IntKind.wrap .i64 (r6.Now + 1)⟩ : weirref3_Port)
theorem weirref3_moved_ok (a0 : weirref3_Port) (a1 : Int) (a2 : Int) : Ref Try.prog 80 [c_weirref3_Port.val a0, .int .i64 a1, .int .i64 a2] (weirref3_moved a0 a1 a2) weirref3_moved.out := by
  refine Ref.of (cd := weirref3_moved.B) Try.func80 ?_
  show SJ weirref3_moved.cx [.code weirref3_moved.B] [(0, c_weirref3_Port.val a0), (1, .int .i64 a1), (2, .int .i64 a2)] [] (weirref3_moved a0 a1 a2) weirref3_moved.F0
  unfold weirref3_moved
  refine SJ.sr 2 ?_
  refine OJ.slotOf (d := 3) (op := (.box 59 (.tmp 0))) (cd := c_weirref3_Port) (u := a0) (owed := []) (box_run (by kernel_rfl)) (fun b1 => ?_)
  refine OW.nil ?_
  refine OJ.slotOf (d := 6) (op := (.alloc 59)) (cd := c_weirref3_Port) (u := z_weirref3_Port) (owed := []) (alloc_run Ty59) (fun b2 => ?_)
  refine OW.nil ?_
  refine OJ.nil ?_
  refine SJ.sr 7 ?_
  refine OJ.go 1 [(8, .pointer (some (pt b1 3)))] ?_
  refine OJ.kld (d := 9) (y := .tmp 8) (cd := cL) (j := 1) (b := b1) (o := 3) a0.L (pend2 := []) Ty57 rfl (At_weirref3_Port_L a0) rfl ?_
  refine OJ.go 1 [(10, .int .i64 a1)] ?_
  refine OJ.idxS (d := 11) (T := 57) (y := .tmp 9) (j := .tmp 10) (E := 110) (cap := a0.L.cap) (k := .i64) (fun p3 => ?_)
  refine OJ.ld (d := 12) (y := .tmp 11) (pend2 := fun x4 => []) Ty110 (fun _ => rfl) (fun x4 => ?_)
  refine OJ.slotOf (d := 7) (op := (.alloc 110)) (cd := c_weirref3_Buf) (u := z_weirref3_Buf) (owed := []) (alloc_run Ty110) (fun b5 => ?_)
  refine OW.nil ?_
  refine OJ.kst (y := .tmp 7) (z := .tmp 12) (cd := c_weirref3_Buf) (u := x4) (j := 0) (b := b5) (o := 0) (c_weirref3_Buf.enc x4) (owed := []) Ty110 rfl (Upd.whole ((Cod.len _ _).trans (Cod.len _ _).symm)) rfl ?_
  refine OW.nil ?_
  refine OJ.nil ?_
  refine SJ.sr 3 ?_
  refine OJ.go 2 [(14, .pointer (some (pt b5 0))), (13, .int .i64 a2)] ?_
  refine OJ.kst (y := .tmp 14) (z := .tmp 13) (cd := (cI .i64)) (u := a2) (j := 0) (b := b5) (o := 0) (c_weirref3_Buf.enc (⟨a2, x4.Since, x4.N, x4.Data⟩ : weirref3_Buf)) (owed := []) Ty3 rfl (Up_weirref3_Buf_Place x4 a2) rfl ?_
  refine OW.nil ?_
  refine OJ.nil ?_
  refine SJ.sr 4 ?_
  refine OJ.go 1 [(15, .pointer (some (pt b1 4)))] ?_
  refine OJ.kld (d := 16) (y := .tmp 15) (cd := (cI .i64)) (j := 2) (b := b1) (o := 4) a0.Now (pend2 := []) Ty3 rfl (At_weirref3_Port_Now a0) rfl ?_
  refine OJ.go 1 [(17, .pointer (some (pt b5 1)))] ?_
  refine OJ.kst (y := .tmp 17) (z := .tmp 16) (cd := (cI .i64)) (u := a0.Now) (j := 0) (b := b5) (o := 1) (c_weirref3_Buf.enc (⟨a2, a0.Now, x4.N, x4.Data⟩ : weirref3_Buf)) (owed := []) Ty3 rfl (Up_weirref3_Buf_Since (⟨a2, x4.Since, x4.N, x4.Data⟩ : weirref3_Buf) a0.Now) rfl ?_
  refine OW.nil ?_
  refine OJ.nil ?_
  refine SJ.sr 5 ?_
  refine OJ.kld (d := 18) (y := .tmp 3) (cd := c_weirref3_Port) (j := 2) (b := b1) (o := 0) a0 (pend2 := []) Ty59 rfl (At.whole _) rfl ?_
  refine OJ.go 1 [(19, .int .i64 a1)] ?_
  refine OJ.kld (d := 20) (y := .tmp 7) (cd := c_weirref3_Buf) (j := 0) (b := b5) (o := 0) (⟨a2, a0.Now, x4.N, x4.Data⟩ : weirref3_Buf) (pend2 := []) Ty110 rfl (At.whole _) rfl ?_
  refine OJ.call (d := 21) (g := 79) (ats := #[59, 3, 110]) (args := [.tmp 18, .tmp 19, .tmp 20]) (owed := []) F79 (weirref3_put_ok a0 a1 (⟨a2, a0.Now, x4.N, x4.Data⟩ : weirref3_Buf)) (fun r6 => ?_)
  refine OW.nil ?_
  refine OJ.kst (y := .tmp 3) (z := .tmp 21) (cd := c_weirref3_Port) (u := r6) (j := 2) (b := b1) (o := 0) (c_weirref3_Port.enc r6) (owed := []) Ty59 rfl (Upd.whole ((Cod.len _ _).trans (Cod.len _ _).symm)) rfl ?_
  refine OW.nil ?_
  refine OJ.nil ?_
  refine SJ.sr 5 ?_
  refine OJ.go 1 [(22, .pointer (some (pt b1 4)))] ?_
  refine OJ.kld (d := 23) (y := .tmp 22) (cd := (cI .i64)) (j := 2) (b := b1) (o := 4) r6.Now (pend2 := []) Ty3 rfl (At_weirref3_Port_Now r6) rfl ?_
  refine OJ.go 2 [(25, .pointer (some (pt b1 4))), (24, .int .i64 (IntKind.wrap .i64 (r6.Now + 1)))] ?_
  refine OJ.kst (y := .tmp 25) (z := .tmp 24) (cd := (cI .i64)) (u := (IntKind.wrap .i64 (r6.Now + 1))) (j := 2) (b := b1) (o := 4) (c_weirref3_Port.enc (⟨r6.Rx, r6.Tx, r6.Size, r6.L, IntKind.wrap .i64 (r6.Now + 1)⟩ : weirref3_Port)) (owed := []) Ty3 rfl (Up_weirref3_Port_Now r6 (IntKind.wrap .i64 (r6.Now + 1))) rfl ?_
  refine OW.nil ?_
  refine OJ.nil ?_
  refine SJ.sr 2 ?_
  refine OJ.kld (d := 26) (y := .tmp 3) (cd := c_weirref3_Port) (j := 2) (b := b1) (o := 0) (⟨r6.Rx, r6.Tx, r6.Size, r6.L, IntKind.wrap .i64 (r6.Now + 1)⟩ : weirref3_Port) (pend2 := []) Ty59 rfl (At.whole _) rfl ?_
  refine OJ.kst (y := .tmp 6) (z := .tmp 26) (cd := c_weirref3_Port) (u := (⟨r6.Rx, r6.Tx, r6.Size, r6.L, IntKind.wrap .i64 (r6.Now + 1)⟩ : weirref3_Port)) (j := 1) (b := b2) (o := 0) (c_weirref3_Port.enc (⟨r6.Rx, r6.Tx, r6.Size, r6.L, IntKind.wrap .i64 (r6.Now + 1)⟩ : weirref3_Port)) (owed := []) Ty59 rfl (Upd.whole ((Cod.len _ _).trans (Cod.len _ _).symm)) rfl ?_
  refine OW.nil ?_
  refine OJ.nil ?_
  exact SJ.ret rfl (Res.run (ys := [c_weirref3_Port.val (⟨r6.Rx, r6.Tx, r6.Size, r6.L, IntKind.wrap .i64 (r6.Now + 1)⟩ : weirref3_Port)]) (.cell (j := 1) (b := b2) (cd := c_weirref3_Port) (q := (⟨r6.Rx, r6.Tx, r6.Size, r6.L, IntKind.wrap .i64 (r6.Now + 1)⟩ : weirref3_Port)) (by kernel_rfl) rfl Ty59 (At.whole _) .nil) rfl)

/-! ### weir/weirref3.Arrive: function 64 -/
noncomputable def weirref3_Arrive.B : Code := (Try.f64.body).getD .skip
noncomputable def weirref3_Arrive.cx : Fx := ⟨Try.prog, 64, Try.f64⟩
noncomputable def weirref3_Arrive.out (r_ : (weirref3_Port × Int)) : Value := .tuple #[c_weirref3_Port.val r_.1, .int .i64 r_.2]
noncomputable def weirref3_Arrive.F0 (r_ : (weirref3_Port × Int)) : Reach := .ret (weirref3_Arrive.out r_)
noncomputable def weirref3_Arrive (a0 : weirref3_Port) (a1 : Sl) : M (weirref3_Port × Int) :=
  slot 59 >>= fun b1 =>
  slot 59 >>= fun b2 =>
  weirref3_first a0 2 >>= fun r3 =>
  if (a1.len : Int) > 65535 then
    pure (a0, 2)
  else
    if (a1.len : Int) > a0.Size then
      pure (a0, 30)
    else
      if r3 < 0 then
        pure (a0, 31)
      else
        idx a0.L.a a0.L.len r3 4 >>= fun p8 =>
        ld c_weirref3_Buf p8 >>= fun x9 =>
        slot 110 >>= fun b10 =>
        weirref3_laid x9.Data a1 >>= fun r11 =>
        weirref3_put a0 r3 (⟨x9.Place, x9.Since, (a1.len : Int), r11⟩ : weirref3_Buf) >>= fun r12 =>
        weirref3_moved r12 r3 3 >>= fun r13 =>
        pure (r13, 0)
theorem weirref3_Arrive_ok (a0 : weirref3_Port) (a1 : Sl) : Ref Try.prog 64 [c_weirref3_Port.val a0, Sl.v a1] (weirref3_Arrive a0 a1) weirref3_Arrive.out := by
  refine Ref.of (cd := weirref3_Arrive.B) Try.func64 ?_
  show SJ weirref3_Arrive.cx [.code weirref3_Arrive.B] [(0, c_weirref3_Port.val a0), (1, Sl.v a1)] [] (weirref3_Arrive a0 a1) weirref3_Arrive.F0
  unfold weirref3_Arrive
  refine SJ.sr 3 ?_
  refine OJ.slotOf (d := 2) (op := (.box 59 (.tmp 0))) (cd := c_weirref3_Port) (u := a0) (owed := []) (box_run (by kernel_rfl)) (fun b1 => ?_)
  refine OW.nil ?_
  refine OJ.slotOf (d := 4) (op := (.alloc 59)) (cd := c_weirref3_Port) (u := z_weirref3_Port) (owed := []) (alloc_run Ty59) (fun b2 => ?_)
  refine OW.nil ?_
  refine OJ.go 1 [(5, .int .i64 0)] ?_
  refine OJ.nil ?_
  refine SJ.sr 3 ?_
  refine OJ.kld (d := 8) (y := .tmp 2) (cd := c_weirref3_Port) (j := 1) (b := b1) (o := 0) a0 (pend2 := []) Ty59 rfl (At.whole _) rfl ?_
  refine OJ.call (d := 9) (g := 77) (ats := #[59, 3]) (args := [.tmp 8, .const (.int .i64 2)]) (owed := []) F77 (weirref3_first_ok a0 2) (fun r3 => ?_)
  refine OW.nil ?_
  refine OJ.go 1 [(6, .int .i64 r3)] ?_
  refine OJ.nil ?_
  refine SJ.seq ?_
  refine SJ.block (id := 0) ?_
  refine SJ.sr 4 ?_
  refine OJ.go 4 [(10, .bool (decide ((a1.len : Int) > 65535))), (13, .bool (decide ((a1.len : Int) > 65535))), (12, .int .i64 (a1.len : Int)), (11, Sl.v a1)] ?_
  refine OJ.nil ?_
  refine SJ.cond (t := (.tmp 10)) (b := decide ((a1.len : Int) > 65535)) decide_eq_true_iff (fun hc16 => ?_) (fun hc16 => ?_)
  · refine SJ.sr 3 ?_
    refine OJ.kld (d := 14) (y := .tmp 2) (cd := c_weirref3_Port) (j := 1) (b := b1) (o := 0) a0 (pend2 := []) Ty59 rfl (At.whole _) rfl ?_
    refine OJ.kst (y := .tmp 4) (z := .tmp 14) (cd := c_weirref3_Port) (u := a0) (j := 0) (b := b2) (o := 0) (c_weirref3_Port.enc a0) (owed := []) Ty59 rfl (Upd.whole ((Cod.len _ _).trans (Cod.len _ _).symm)) rfl ?_
    refine OW.nil ?_
    refine OJ.go 1 [(5, .int .i64 2)] ?_
    refine OJ.nil ?_
    exact SJ.ret rfl (Res.run (ys := [c_weirref3_Port.val a0, .int .i64 2]) (.cell (j := 0) (b := b2) (cd := c_weirref3_Port) (q := a0) (by kernel_rfl) rfl Ty59 (At.whole _) (.tmp (by kernel_rfl) .nil)) rfl)
  · refine SJ.sr 6 ?_
    refine OJ.go 3 [(18, .pointer (some (pt b1 2))), (17, .int .i64 (a1.len : Int)), (16, Sl.v a1)] ?_
    refine OJ.kld (d := 19) (y := .tmp 18) (cd := (cI .i64)) (j := 1) (b := b1) (o := 2) a0.Size (pend2 := []) Ty3 rfl (At_weirref3_Port_Size a0) rfl ?_
    refine OJ.go 2 [(15, .bool (decide ((a1.len : Int) > a0.Size))), (20, .bool (decide ((a1.len : Int) > a0.Size)))] ?_
    refine OJ.nil ?_
    refine SJ.cond (t := (.tmp 15)) (b := decide ((a1.len : Int) > a0.Size)) decide_eq_true_iff (fun hc15 => ?_) (fun hc15 => ?_)
    · refine SJ.sr 3 ?_
      refine OJ.kld (d := 21) (y := .tmp 2) (cd := c_weirref3_Port) (j := 1) (b := b1) (o := 0) a0 (pend2 := []) Ty59 rfl (At.whole _) rfl ?_
      refine OJ.kst (y := .tmp 4) (z := .tmp 21) (cd := c_weirref3_Port) (u := a0) (j := 0) (b := b2) (o := 0) (c_weirref3_Port.enc a0) (owed := []) Ty59 rfl (Upd.whole ((Cod.len _ _).trans (Cod.len _ _).symm)) rfl ?_
      refine OW.nil ?_
      refine OJ.go 1 [(5, .int .i64 30)] ?_
      refine OJ.nil ?_
      exact SJ.ret rfl (Res.run (ys := [c_weirref3_Port.val a0, .int .i64 30]) (.cell (j := 0) (b := b2) (cd := c_weirref3_Port) (q := a0) (by kernel_rfl) rfl Ty59 (At.whole _) (.tmp (by kernel_rfl) .nil)) rfl)
    · refine SJ.sr 3 ?_
      refine OJ.go 3 [(22, .bool (decide (r3 < 0))), (24, .bool (decide (r3 < 0))), (23, .int .i64 r3)] ?_
      refine OJ.nil ?_
      refine SJ.cond (t := (.tmp 22)) (b := decide (r3 < 0)) decide_eq_true_iff (fun hc14 => ?_) (fun hc14 => ?_)
      · refine SJ.sr 3 ?_
        refine OJ.kld (d := 25) (y := .tmp 2) (cd := c_weirref3_Port) (j := 1) (b := b1) (o := 0) a0 (pend2 := []) Ty59 rfl (At.whole _) rfl ?_
        refine OJ.kst (y := .tmp 4) (z := .tmp 25) (cd := c_weirref3_Port) (u := a0) (j := 0) (b := b2) (o := 0) (c_weirref3_Port.enc a0) (owed := []) Ty59 rfl (Upd.whole ((Cod.len _ _).trans (Cod.len _ _).symm)) rfl ?_
        refine OW.nil ?_
        refine OJ.go 1 [(5, .int .i64 31)] ?_
        refine OJ.nil ?_
        exact SJ.ret rfl (Res.run (ys := [c_weirref3_Port.val a0, .int .i64 31]) (.cell (j := 0) (b := b2) (cd := c_weirref3_Port) (q := a0) (by kernel_rfl) rfl Ty59 (At.whole _) (.tmp (by kernel_rfl) .nil)) rfl)
      · refine SJ.skip ?_
        refine SJ.inBlock ?_
        refine SJ.sr 7 ?_
        refine OJ.go 1 [(26, .pointer (some (pt b1 3)))] ?_
        refine OJ.kld (d := 27) (y := .tmp 26) (cd := cL) (j := 1) (b := b1) (o := 3) a0.L (pend2 := []) Ty57 rfl (At_weirref3_Port_L a0) rfl ?_
        refine OJ.go 1 [(28, .int .i64 r3)] ?_
        refine OJ.idxS (d := 29) (T := 57) (y := .tmp 27) (j := .tmp 28) (E := 110) (cap := a0.L.cap) (k := .i64) (fun p8 => ?_)
        refine OJ.ld (d := 30) (y := .tmp 29) (pend2 := fun x9 => []) Ty110 (fun _ => rfl) (fun x9 => ?_)
        refine OJ.slotOf (d := 7) (op := (.alloc 110)) (cd := c_weirref3_Buf) (u := z_weirref3_Buf) (owed := []) (alloc_run Ty110) (fun b10 => ?_)
        refine OW.nil ?_
        refine OJ.kst (y := .tmp 7) (z := .tmp 30) (cd := c_weirref3_Buf) (u := x9) (j := 0) (b := b10) (o := 0) (c_weirref3_Buf.enc x9) (owed := []) Ty110 rfl (Upd.whole ((Cod.len _ _).trans (Cod.len _ _).symm)) rfl ?_
        refine OW.nil ?_
        refine OJ.nil ?_
        refine SJ.sr 6 ?_
        refine OJ.go 1 [(31, .pointer (some (pt b10 3)))] ?_
        refine OJ.kld (d := 32) (y := .tmp 31) (cd := cL) (j := 0) (b := b10) (o := 3) x9.Data (pend2 := []) Ty22 rfl (At_weirref3_Buf_Data x9) rfl ?_
        refine OJ.go 1 [(33, Sl.v a1)] ?_
        refine OJ.call (d := 34) (g := 78) (ats := #[22, 22]) (args := [.tmp 32, .tmp 33]) (owed := []) F78 (weirref3_laid_ok x9.Data a1) (fun r11 => ?_)
        refine OW.nil ?_
        refine OJ.go 1 [(35, .pointer (some (pt b10 3)))] ?_
        refine OJ.kst (y := .tmp 35) (z := .tmp 34) (cd := cL) (u := r11) (j := 0) (b := b10) (o := 3) (c_weirref3_Buf.enc (⟨x9.Place, x9.Since, x9.N, r11⟩ : weirref3_Buf)) (owed := []) Ty22 rfl (Up_weirref3_Buf_Data x9 r11) rfl ?_
        refine OW.nil ?_
        refine OJ.nil ?_
        refine SJ.sr 4 ?_
        refine OJ.go 3 [(38, .pointer (some (pt b10 2))), (37, .int .i64 (a1.len : Int)), (36, Sl.v a1)] ?_
        refine OJ.kst (y := .tmp 38) (z := .tmp 37) (cd := (cI .i64)) (u := (a1.len : Int)) (j := 0) (b := b10) (o := 2) (c_weirref3_Buf.enc (⟨x9.Place, x9.Since, (a1.len : Int), r11⟩ : weirref3_Buf)) (owed := []) Ty3 rfl (Up_weirref3_Buf_N (⟨x9.Place, x9.Since, x9.N, r11⟩ : weirref3_Buf) (a1.len : Int)) rfl ?_
        refine OW.nil ?_
        refine OJ.nil ?_
        refine SJ.sr 5 ?_
        refine OJ.kld (d := 39) (y := .tmp 2) (cd := c_weirref3_Port) (j := 2) (b := b1) (o := 0) a0 (pend2 := []) Ty59 rfl (At.whole _) rfl ?_
        refine OJ.go 1 [(40, .int .i64 r3)] ?_
        refine OJ.kld (d := 41) (y := .tmp 7) (cd := c_weirref3_Buf) (j := 0) (b := b10) (o := 0) (⟨x9.Place, x9.Since, (a1.len : Int), r11⟩ : weirref3_Buf) (pend2 := []) Ty110 rfl (At.whole _) rfl ?_
        refine OJ.call (d := 42) (g := 79) (ats := #[59, 3, 110]) (args := [.tmp 39, .tmp 40, .tmp 41]) (owed := []) F79 (weirref3_put_ok a0 r3 (⟨x9.Place, x9.Since, (a1.len : Int), r11⟩ : weirref3_Buf)) (fun r12 => ?_)
        refine OW.nil ?_
        refine OJ.kst (y := .tmp 2) (z := .tmp 42) (cd := c_weirref3_Port) (u := r12) (j := 2) (b := b1) (o := 0) (c_weirref3_Port.enc r12) (owed := []) Ty59 rfl (Upd.whole ((Cod.len _ _).trans (Cod.len _ _).symm)) rfl ?_
        refine OW.nil ?_
        refine OJ.nil ?_
        refine SJ.sr 5 ?_
        refine OJ.kld (d := 43) (y := .tmp 2) (cd := c_weirref3_Port) (j := 2) (b := b1) (o := 0) r12 (pend2 := []) Ty59 rfl (At.whole _) rfl ?_
        refine OJ.go 1 [(44, .int .i64 r3)] ?_
        refine OJ.call (d := 45) (g := 80) (ats := #[59, 3, 3]) (args := [.tmp 43, .tmp 44, .const (.int .i64 3)]) (owed := []) F80 (weirref3_moved_ok r12 r3 3) (fun r13 => ?_)
        refine OW.nil ?_
        refine OJ.kst (y := .tmp 4) (z := .tmp 45) (cd := c_weirref3_Port) (u := r13) (j := 1) (b := b2) (o := 0) (c_weirref3_Port.enc r13) (owed := []) Ty59 rfl (Upd.whole ((Cod.len _ _).trans (Cod.len _ _).symm)) rfl ?_
        refine OW.nil ?_
        refine OJ.go 1 [(5, .int .i64 0)] ?_
        refine OJ.nil ?_
        exact SJ.ret rfl (Res.run (ys := [c_weirref3_Port.val r13, .int .i64 0]) (.cell (j := 1) (b := b2) (cd := c_weirref3_Port) (q := r13) (by kernel_rfl) rfl Ty59 (At.whole _) (.tmp (by kernel_rfl) .nil)) rfl)

/-! ### weir/weirlaw3.alike: function 19 -/
noncomputable def weirlaw3_alike.B : Code := (Try.f19.body).getD .skip
noncomputable def weirlaw3_alike.cx : Fx := ⟨Try.prog, 19, Try.f19⟩
noncomputable def weirlaw3_alike.out (r_ : Bool) : Value := .bool r_
noncomputable def weirlaw3_alike.F0 (r_ : Bool) : Reach := .ret (weirlaw3_alike.out r_)
noncomputable def weirlaw3_alike (a0 : Sl) (a1 : Sl) : M Bool :=
  toStr a0 >>= fun r1 =>
  toStr a1 >>= fun r2 =>
  pure (r1.toList == r2.toList)
theorem weirlaw3_alike_ok (a0 : Sl) (a1 : Sl) : Ref Try.prog 19 [Sl.v a0, Sl.v a1] (weirlaw3_alike a0 a1) weirlaw3_alike.out := by
  refine Ref.of (cd := weirlaw3_alike.B) Try.func19 ?_
  show SJ weirlaw3_alike.cx [.code weirlaw3_alike.B] [(0, Sl.v a0), (1, Sl.v a1)] [] (weirlaw3_alike a0 a1) weirlaw3_alike.F0
  unfold weirlaw3_alike
  refine SJ.sr 1 ?_
  refine OJ.go 1 [(4, .bool false)] ?_
  refine OJ.nil ?_
  refine SJ.sr 6 ?_
  refine OJ.go 1 [(5, Sl.v a0)] ?_
  refine OJ.toStr (d := 6) (t := 22) (u := 9) (E := 5) (x := .tmp 5) (owed := []) (fun r1 => ?_)
  refine OW.nil ?_
  refine OJ.go 1 [(7, Sl.v a1)] ?_
  refine OJ.toStr (d := 8) (t := 22) (u := 9) (E := 5) (x := .tmp 7) (owed := []) (fun r2 => ?_)
  refine OW.nil ?_
  refine OJ.go 2 [(4, .bool (r1.toList == r2.toList)), (9, .bool (r1.toList == r2.toList))] ?_
  refine OJ.nil ?_
  exact SJ.ret rfl (Res.run (ys := [.bool (r1.toList == r2.toList)]) (.tmp (by kernel_rfl) .nil) rfl)

/-! ### weir/weirlaw3.kept: function 65 -/
noncomputable def weirlaw3_kept.B : Code := (Try.f65.body).getD .skip
noncomputable def weirlaw3_kept.cx : Fx := ⟨Try.prog, 65, Try.f65⟩
noncomputable def weirlaw3_kept.out (r_ : Bool) : Value := .bool r_
noncomputable def weirlaw3_kept.F0 (r_ : Bool) : Reach := .ret (weirlaw3_kept.out r_)
noncomputable def weirlaw3_kept (a0 : Sl) (a1 : Sl) : M Bool :=
  (if (a0.len : Int) = (IntKind.wrap .i64 ((a1.len : Int) + 3)) then
      cut 1 a0 none (some (a1.len : Int)) none >>= fun r1 =>
      weirlaw3_alike r1 a1 >>= fun r2 =>
      pure r2
    else
      pure false) >>= fun y3 =>
  (if y3 = true then
      idx a0.a a0.len (a1.len : Int) 1 >>= fun p4 =>
      ld (cI .u8) p4 >>= fun x5 =>
      pure (x5 == 91)
    else
      pure false) >>= fun y6 =>
  (if y6 = true then
      idx a0.a a0.len (IntKind.wrap .i64 ((a1.len : Int) + 1)) 1 >>= fun p7 =>
      ld (cI .u8) p7 >>= fun x8 =>
      pure (x8 == 92)
    else
      pure false) >>= fun y9 =>
  (if y9 = true then
      idx a0.a a0.len (IntKind.wrap .i64 ((a1.len : Int) + 2)) 1 >>= fun p10 =>
      ld (cI .u8) p10 >>= fun x11 =>
      pure (x11 == 93)
    else
      pure false) >>= fun y12 =>
  pure y12
theorem weirlaw3_kept_ok (a0 : Sl) (a1 : Sl) : Ref Try.prog 65 [Sl.v a0, Sl.v a1] (weirlaw3_kept a0 a1) weirlaw3_kept.out := by
  refine Ref.of (cd := weirlaw3_kept.B) Try.func65 ?_
  show SJ weirlaw3_kept.cx [.code weirlaw3_kept.B] [(0, Sl.v a0), (1, Sl.v a1)] [] (weirlaw3_kept a0 a1) weirlaw3_kept.F0
  unfold weirlaw3_kept
  refine SJ.sr 1 ?_
  refine OJ.go 1 [(4, .bool false)] ?_
  refine OJ.nil ?_
  refine SJ.sr 3 ?_
  refine OJ.go 3 [(5, .int .i64 (a1.len : Int)), (7, .int .i64 (a1.len : Int)), (6, Sl.v a1)] ?_
  refine OJ.nil ?_
  refine SJ.sr 36 ?_
  refine OJ.go 6 [(13, .bool ((a0.len : Int) == (IntKind.wrap .i64 ((a1.len : Int) + 3)))), (12, .bool ((a0.len : Int) == (IntKind.wrap .i64 ((a1.len : Int) + 3)))), (11, .int .i64 (IntKind.wrap .i64 ((a1.len : Int) + 3))), (10, .int .i64 (a1.len : Int)), (9, .int .i64 (a0.len : Int)), (8, Sl.v a0)] ?_
  refine OJ.join (b := ((a0.len : Int) == (IntKind.wrap .i64 ((a1.len : Int) + 3)))) [6, 7, 8, 9, 10, 11] [12, 13, 14, 15, 16, 17, 18, 19, 20, 21, 22, 23, 24, 25, 26, 27, 28, 29, 30, 31, 32, 33, 34, 35] [0, 5, 19] (fun y3 => [(0, Sl.v a0), (5, .int .i64 (a1.len : Int)), (19, .bool y3)]) [] [] (t := 13) beq_iff_eq (fun hp_ => ?_) (fun hp_ => ?_) (fun _ _ _ _ _ _ h_ => h_) (fun y3 => ?_)
  · refine OJ.go 2 [(15, .int .i64 (a1.len : Int)), (14, Sl.v a0)] ?_
    refine OJ.cut (d := 16) (t := 22) (E := 5) (y := .tmp 14) (lo := none) (hi := (some (.tmp 15))) (mx := none) (lo' := none) (hi' := some (.i64, (a1.len : Int))) (mx' := none) (fun h => by cases h) (fun r1 => ?_)
    refine OJ.go 1 [(17, Sl.v a1)] ?_
    refine OJ.call (d := 18) (g := 19) (ats := #[22, 22]) (args := [.tmp 16, .tmp 17]) (owed := []) F19 (weirlaw3_alike_ok r1 a1) (fun r2 => ?_)
    refine OW.nil ?_
    refine OJ.go 1 [(19, .bool r2)] ?_
    exact OJ.nil ⟨(Cov.mem Cov.nil), rfl, _, rfl, by kernel_rfl⟩
  · refine OJ.go 6 [(19, .bool false), (18, undef), (17, undef), (16, undef), (15, undef), (14, undef)] ?_
    exact OJ.nil ⟨(Cov.mem Cov.nil), rfl, _, rfl, by kernel_rfl⟩
  · refine OJ.go 1 [(20, .bool y3)] ?_
    refine OJ.join (b := y3) [13, 14, 15, 16, 17, 18] [19, 20, 21, 22, 23, 24, 25, 26, 27, 28, 29, 30, 31, 32, 33, 34, 35] [0, 5, 26] (fun y6 => [(0, Sl.v a0), (5, .int .i64 (a1.len : Int)), (26, .bool y6)]) [] [] (t := 20) Iff.rfl (fun hp_ => ?_) (fun hp_ => ?_) (fun _ _ _ _ _ _ h_ => h_) (fun y6 => ?_)
    · refine OJ.go 2 [(22, .int .i64 (a1.len : Int)), (21, Sl.v a0)] ?_
      refine OJ.idxS (d := 23) (T := 22) (y := .tmp 21) (j := .tmp 22) (E := 5) (cap := a0.cap) (k := .i64) (fun p4 => ?_)
      refine OJ.ld (d := 24) (y := .tmp 23) (pend2 := fun x5 => []) Ty5 (fun _ => rfl) (fun x5 => ?_)
      refine OJ.go 2 [(26, .bool (x5 == 91)), (25, .bool (x5 == 91))] ?_
      exact OJ.nil ⟨(Cov.mem Cov.nil), rfl, _, rfl, by kernel_rfl⟩
    · refine OJ.go 6 [(26, .bool false), (25, undef), (24, undef), (23, undef), (22, undef), (21, undef)] ?_
      exact OJ.nil ⟨(Cov.mem Cov.nil), rfl, _, rfl, by kernel_rfl⟩
    · refine OJ.go 1 [(27, .bool y6)] ?_
      refine OJ.join (b := y6) [20, 21, 22, 23, 24, 25, 26] [27, 28, 29, 30, 31, 32, 33, 34, 35] [0, 5, 34] (fun y9 => [(0, Sl.v a0), (5, .int .i64 (a1.len : Int)), (34, .bool y9)]) [] [] (t := 27) Iff.rfl (fun hp_ => ?_) (fun hp_ => ?_) (fun _ _ _ _ _ _ h_ => h_) (fun y9 => ?_)
      · refine OJ.go 3 [(30, .int .i64 (IntKind.wrap .i64 ((a1.len : Int) + 1))), (29, .int .i64 (a1.len : Int)), (28, Sl.v a0)] ?_
        refine OJ.idxS (d := 31) (T := 22) (y := .tmp 28) (j := .tmp 30) (E := 5) (cap := a0.cap) (k := .i64) (fun p7 => ?_)
        refine OJ.ld (d := 32) (y := .tmp 31) (pend2 := fun x8 => []) Ty5 (fun _ => rfl) (fun x8 => ?_)
        refine OJ.go 2 [(34, .bool (x8 == 92)), (33, .bool (x8 == 92))] ?_
        exact OJ.nil ⟨(Cov.mem Cov.nil), rfl, _, rfl, by kernel_rfl⟩
      · refine OJ.go 7 [(34, .bool false), (33, undef), (32, undef), (31, undef), (30, undef), (29, undef), (28, undef)] ?_
        exact OJ.nil ⟨(Cov.mem Cov.nil), rfl, _, rfl, by kernel_rfl⟩
      · refine OJ.go 1 [(35, .bool y9)] ?_
        refine OJ.join (b := y9) [28, 29, 30, 31, 32, 33, 34] [35] [42] (fun y12 => [(42, .bool y12)]) [] [] (t := 35) Iff.rfl (fun hp_ => ?_) (fun hp_ => ?_) (fun _ _ _ _ _ _ h_ => h_) (fun y12 => ?_)
        · refine OJ.go 3 [(38, .int .i64 (IntKind.wrap .i64 ((a1.len : Int) + 2))), (37, .int .i64 (a1.len : Int)), (36, Sl.v a0)] ?_
          refine OJ.idxS (d := 39) (T := 22) (y := .tmp 36) (j := .tmp 38) (E := 5) (cap := a0.cap) (k := .i64) (fun p10 => ?_)
          refine OJ.ld (d := 40) (y := .tmp 39) (pend2 := fun x11 => []) Ty5 (fun _ => rfl) (fun x11 => ?_)
          refine OJ.go 2 [(42, .bool (x11 == 93)), (41, .bool (x11 == 93))] ?_
          exact OJ.nil ⟨(Cov.mem Cov.nil), rfl, _, rfl, by kernel_rfl⟩
        · refine OJ.go 7 [(42, .bool false), (41, undef), (40, undef), (39, undef), (38, undef), (37, undef), (36, undef)] ?_
          exact OJ.nil ⟨(Cov.mem Cov.nil), rfl, _, rfl, by kernel_rfl⟩
        · refine OJ.go 1 [(4, .bool y12)] ?_
          refine OJ.nil ?_
          exact SJ.ret rfl (Res.run (ys := [.bool y12]) (.tmp (by kernel_rfl) .nil) rfl)

/-! ### weir/weirlaw3.arrived: function 57 -/
noncomputable def weirlaw3_arrived.B : Code := (Try.f57.body).getD .skip
noncomputable def weirlaw3_arrived.cx : Fx := ⟨Try.prog, 57, Try.f57⟩
noncomputable def weirlaw3_arrived.out (r_ : (weirlaw3_Side × Bool)) : Value := .tuple #[c_weirlaw3_Side.val r_.1, .bool r_.2]
noncomputable def weirlaw3_arrived.F0 (r_ : (weirlaw3_Side × Bool)) : Reach := .ret (weirlaw3_arrived.out r_)
noncomputable def weirlaw3_arrived.F1 (a0 : weirlaw3_Side) (b1 : Nat) (b2 : Nat) (r3 : Sl) (r6 : (weirref3_Port × Int)) (y10 : Bool) : (LS Int (weirlaw3_Side × Bool)) → Reach := loopF [.inLoop (c1 (c1 (c2 (c1 (c2 (c2 (c2 (c2 (c2 (c2 weirlaw3_arrived.B)))))))))), .inBlock 0, .code (c2 (c2 (c2 (c2 (c2 (c2 (c2 weirlaw3_arrived.B)))))))] (fun s_ : Int => [(2, .pointer (some (pt b1 0))), (4, .pointer (some (pt b2 0))), (6, Sl.v r3), (10, .bool y10), (11, .int .i64 s_)]) (fun s_ : Int => [(b2, c_weirlaw3_Side.enc z_weirlaw3_Side), (b1, c_weirlaw3_Side.enc (⟨a0.P, r6.1, a0.W⟩ : weirlaw3_Side))]) weirlaw3_arrived.F0
noncomputable def weirlaw3_arrived.L1 (a0 : weirlaw3_Side) (r3 : Sl) (r6 : (weirref3_Port × Int)) (y10 : Bool) (s11 : Int) : M (LS Int (weirlaw3_Side × Bool)) :=
  if s11 < (r3.len : Int) then
    idx r3.a r3.len s11 1 >>= fun p16 =>
    ld (cI .u8) p16 >>= fun x17 =>
    idx r3.a r3.len s11 1 >>= fun p18 =>
    st (cI .u8) p18 (bxor .u8 x17 255) >>= fun _ =>
    pure (LS.next (IntKind.wrap .i64 (s11 + 1)))
  else
    pure (LS.done ((⟨a0.P, r6.1, a0.W⟩ : weirlaw3_Side), y10))
theorem weirlaw3_arrived.L1_ok (a0 : weirlaw3_Side) (b1 : Nat) (b2 : Nat) (r3 : Sl) (r6 : (weirref3_Port × Int)) (y10 : Bool) (s11 : Int) :
    SJ weirlaw3_arrived.cx [.code (c1 (c1 (c2 (c1 (c2 (c2 (c2 (c2 (c2 (c2 weirlaw3_arrived.B)))))))))), .inLoop (c1 (c1 (c2 (c1 (c2 (c2 (c2 (c2 (c2 (c2 weirlaw3_arrived.B)))))))))), .inBlock 0, .code (c2 (c2 (c2 (c2 (c2 (c2 (c2 weirlaw3_arrived.B)))))))] [(2, .pointer (some (pt b1 0))), (4, .pointer (some (pt b2 0))), (6, Sl.v r3), (10, .bool y10), (11, .int .i64 s11)] [(b2, c_weirlaw3_Side.enc z_weirlaw3_Side), (b1, c_weirlaw3_Side.enc (⟨a0.P, r6.1, a0.W⟩ : weirlaw3_Side))] (weirlaw3_arrived.L1 a0 r3 r6 y10 s11) (weirlaw3_arrived.F1 a0 b1 b2 r3 r6 y10) := by
  unfold weirlaw3_arrived.L1
  refine SJ.seq ?_
  refine SJ.sr 4 ?_
  refine OJ.go 4 [(42, .bool (decide (s11 < (r3.len : Int)))), (41, .int .i64 (r3.len : Int)), (40, Sl.v r3), (39, .int .i64 s11)] ?_
  refine OJ.nil ?_
  refine SJ.cond (t := (.tmp 42)) (b := decide (s11 < (r3.len : Int))) decide_eq_true_iff (fun hc19 => ?_) (fun hc19 => ?_)
  · refine SJ.skip ?_
    refine SJ.seq ?_
    refine SJ.block (id := 1) ?_
    refine SJ.rg 9 ?_
    refine OJ.go 4 [(48, .int .i64 s11), (47, Sl.v r3), (46, .int .i64 s11), (45, Sl.v r3)] ?_
    refine OJ.idxS (d := 49) (T := 22) (y := .tmp 47) (j := .tmp 48) (E := 5) (cap := r3.cap) (k := .i64) (fun p16 => ?_)
    refine OJ.ld (d := 50) (y := .tmp 49) (pend2 := fun x17 => []) Ty5 (fun _ => rfl) (fun x17 => ?_)
    refine OJ.go 1 [(51, .int .u8 (bxor .u8 x17 255))] ?_
    refine OJ.idxS (d := 52) (T := 22) (y := .tmp 45) (j := .tmp 46) (E := 5) (cap := r3.cap) (k := .i64) (fun p18 => ?_)
    refine OJ.st (y := .tmp 52) (z := .tmp 51) (owed := []) Ty5 ?_
    refine OW.nil ?_
    refine OJ.nil ?_
    refine SJ.inBlock ?_
    refine SJ.rg 3 ?_
    refine OJ.go 3 [(11, .int .i64 (IntKind.wrap .i64 (s11 + 1))), (44, .int .i64 (IntKind.wrap .i64 (s11 + 1))), (43, .int .i64 s11)] ?_
    refine OJ.nil ?_
    exact SJ.at_ [2, 4, 6, 10, 11] rfl
  · refine SJ.exit (id := 0) (by rfl) ?_
    refine SJ.sr 4 ?_
    refine OJ.kld (d := 53) (y := .tmp 2) (cd := c_weirlaw3_Side) (j := 1) (b := b1) (o := 0) (⟨a0.P, r6.1, a0.W⟩ : weirlaw3_Side) (pend2 := []) Ty62 rfl (At.whole _) rfl ?_
    refine OJ.go 1 [(54, .bool y10)] ?_
    refine OJ.kst (y := .tmp 4) (z := .tmp 53) (cd := c_weirlaw3_Side) (u := (⟨a0.P, r6.1, a0.W⟩ : weirlaw3_Side)) (j := 0) (b := b2) (o := 0) (c_weirlaw3_Side.enc (⟨a0.P, r6.1, a0.W⟩ : weirlaw3_Side)) (owed := []) Ty62 rfl (Upd.whole ((Cod.len _ _).trans (Cod.len _ _).symm)) rfl ?_
    refine OW.nil ?_
    refine OJ.go 1 [(5, .bool y10)] ?_
    refine OJ.nil ?_
    exact SJ.ret rfl (Res.run (ys := [c_weirlaw3_Side.val (⟨a0.P, r6.1, a0.W⟩ : weirlaw3_Side), .bool y10]) (.cell (j := 0) (b := b2) (cd := c_weirlaw3_Side) (q := (⟨a0.P, r6.1, a0.W⟩ : weirlaw3_Side)) (by kernel_rfl) rfl Ty62 (At.whole _) (.tmp (by kernel_rfl) .nil)) rfl)
noncomputable def weirlaw3_arrived (a0 : weirlaw3_Side) (a1 : Sl) : M (weirlaw3_Side × Bool) :=
  slot 62 >>= fun b1 =>
  slot 62 >>= fun b2 =>
  weirlaw3_wide a1 >>= fun r3 =>
  draw >>= fun _ =>
  cut 1 r3 none (some (a1.len : Int)) none >>= fun r4 =>
  ring_Port_Arrive a0.P r4 >>= fun r5 =>
  weirref3_Arrive a0.R a1 >>= fun r6 =>
  slot 59 >>= fun b7 =>
  weirlaw3_num r5 >>= fun r8 =>
  (if r8 = r6.2 then
      weirlaw3_kept r3 a1 >>= fun r9 =>
      pure r9
    else
      pure false) >>= fun y10 =>
  loopM (fun s_ : Int => weirlaw3_arrived.L1 a0 r3 r6 y10 s_) 0
theorem weirlaw3_arrived_ok (a0 : weirlaw3_Side) (a1 : Sl) : Ref Try.prog 57 [c_weirlaw3_Side.val a0, Sl.v a1] (weirlaw3_arrived a0 a1) weirlaw3_arrived.out := by
  refine Ref.of (cd := weirlaw3_arrived.B) Try.func57 ?_
  show SJ weirlaw3_arrived.cx [.code weirlaw3_arrived.B] [(0, c_weirlaw3_Side.val a0), (1, Sl.v a1)] [] (weirlaw3_arrived a0 a1) weirlaw3_arrived.F0
  unfold weirlaw3_arrived
  refine SJ.sr 3 ?_
  refine OJ.slotOf (d := 2) (op := (.box 62 (.tmp 0))) (cd := c_weirlaw3_Side) (u := a0) (owed := []) (box_run (by kernel_rfl)) (fun b1 => ?_)
  refine OW.nil ?_
  refine OJ.slotOf (d := 4) (op := (.alloc 62)) (cd := c_weirlaw3_Side) (u := z_weirlaw3_Side) (owed := []) (alloc_run Ty62) (fun b2 => ?_)
  refine OW.nil ?_
  refine OJ.go 1 [(5, .bool false)] ?_
  refine OJ.nil ?_
  refine SJ.sr 3 ?_
  refine OJ.go 1 [(12, Sl.v a1)] ?_
  refine OJ.call (d := 13) (g := 20) (ats := #[22]) (args := [.tmp 12]) (owed := []) F20 (weirlaw3_wide_ok a1) (fun r3 => ?_)
  refine OW.nil ?_
  refine OJ.go 1 [(6, Sl.v r3)] ?_
  refine OJ.nil ?_
  refine SJ.seq ?_
  refine SJ.draw (id := 2) (kd := [0, 1, 0, 0, 0, 0, 2, 0]) (bef := [0, 1, 0, 0, 8, 28, 63, 127]) (ord := [0, 1, 2, 3, 4, 5, 6, 7]) mixed ?_
  refine OJ.go 1 [(14, .pointer (some (pt b1 0)))] ?_
  refine OJ.kld (d := 15) (y := .tmp 14) (cd := cP) (j := 1) (b := b1) (o := 0) a0.P (pend2 := [⟨1, 23, (pt b1 0), cP.val a0.P⟩]) Ty23 rfl (At_weirlaw3_Side_P a0) rfl ?_
  refine OJ.go 3 [(18, .int .i64 (a1.len : Int)), (17, Sl.v a1), (16, Sl.v r3)] ?_
  refine OJ.cut (d := 19) (t := 22) (E := 5) (y := .tmp 16) (lo := none) (hi := (some (.tmp 18))) (mx := none) (lo' := none) (hi' := some (.i64, (a1.len : Int))) (mx' := none) (fun h => by cases h) (fun r4 => ?_)
  refine OJ.call (d := 20) (g := 16) (ats := #[23, 22]) (args := [.tmp 15, .tmp 19]) (owed := []) F16 (ring_Port_Arrive_ok a0.P r4) (fun r5 => ?_)
  refine OW.nil ?_
  refine OJ.go 1 [(7, .int .i64 r5)] ?_
  refine OJ.nil ?_
  refine SJ.sr 10 ?_
  refine OJ.go 1 [(22, .pointer (some (pt b1 1)))] ?_
  refine OJ.kld (d := 23) (y := .tmp 22) (cd := c_weirref3_Port) (j := 1) (b := b1) (o := 1) a0.R (pend2 := []) Ty59 rfl (At_weirlaw3_Side_R a0) rfl ?_
  refine OJ.go 1 [(24, Sl.v a1)] ?_
  refine OJ.call (d := 25) (g := 64) (ats := #[59, 22]) (args := [.tmp 23, .tmp 24]) (owed := []) F64 (weirref3_Arrive_ok a0.R a1) (fun r6 => ?_)
  refine OW.nil ?_
  refine OJ.go 3 [(27, .int .i64 r6.2), (26, c_weirref3_Port.val r6.1), (21, .tuple #[c_weirref3_Port.val r6.1, .int .i64 r6.2])] ?_
  refine OJ.slotOf (d := 8) (op := (.alloc 59)) (cd := c_weirref3_Port) (u := z_weirref3_Port) (owed := []) (alloc_run Ty59) (fun b7 => ?_)
  refine OW.nil ?_
  refine OJ.kst (y := .tmp 8) (z := .tmp 26) (cd := c_weirref3_Port) (u := r6.1) (j := 0) (b := b7) (o := 0) (c_weirref3_Port.enc r6.1) (owed := []) Ty59 rfl (Upd.whole ((Cod.len _ _).trans (Cod.len _ _).symm)) rfl ?_
  refine OW.nil ?_
  refine OJ.go 1 [(9, .int .i64 r6.2)] ?_
  refine OJ.nil ?_
  refine SJ.sr 3 ?_
  refine OJ.kld (d := 28) (y := .tmp 8) (cd := c_weirref3_Port) (j := 0) (b := b7) (o := 0) r6.1 (pend2 := []) Ty59 rfl (At.whole _) rfl ?_
  refine OJ.go 1 [(29, .pointer (some (pt b1 1)))] ?_
  refine OJ.kst (y := .tmp 29) (z := .tmp 28) (cd := c_weirref3_Port) (u := r6.1) (j := 2) (b := b1) (o := 1) (c_weirlaw3_Side.enc (⟨a0.P, r6.1, a0.W⟩ : weirlaw3_Side)) (owed := []) Ty59 rfl (Up_weirlaw3_Side_R a0 r6.1) rfl ?_
  refine OW.nil ?_
  refine OJ.nil ?_
  refine SJ.sr 10 ?_
  refine OJ.go 1 [(30, .int .i64 r5)] ?_
  refine OJ.call (d := 31) (g := 14) (ats := #[24]) (args := [.tmp 30]) (owed := []) F14 (weirlaw3_num_ok r5) (fun r8 => ?_)
  refine OW.nil ?_
  refine OJ.go 3 [(34, .bool (r8 == r6.2)), (33, .bool (r8 == r6.2)), (32, .int .i64 r6.2)] ?_
  refine OJ.join (b := (r8 == r6.2)) [5, 6, 7, 8] [9] [2, 4, 6, 38] (fun y10 => [(2, .pointer (some (pt b1 0))), (4, .pointer (some (pt b2 0))), (6, Sl.v r3), (38, .bool y10)]) [] [] (t := 34) beq_iff_eq (fun hp_ => ?_) (fun hp_ => ?_) (fun _ _ _ _ _ _ h_ => h_) (fun y10 => ?_)
  · refine OJ.go 2 [(36, Sl.v a1), (35, Sl.v r3)] ?_
    refine OJ.call (d := 37) (g := 65) (ats := #[22, 22]) (args := [.tmp 35, .tmp 36]) (owed := []) F65 (weirlaw3_kept_ok r3 a1) (fun r9 => ?_)
    refine OW.nil ?_
    refine OJ.go 1 [(38, .bool r9)] ?_
    exact OJ.nil ⟨(Cov.mem Cov.nil), rfl, _, rfl, by kernel_rfl⟩
  · refine OJ.go 4 [(38, .bool false), (37, undef), (36, undef), (35, undef)] ?_
    exact OJ.nil ⟨(Cov.mem Cov.nil), rfl, _, rfl, by kernel_rfl⟩
  · refine OJ.go 1 [(10, .bool y10)] ?_
    refine OJ.nil ?_
    refine SJ.seq ?_
    refine SJ.sr 1 ?_
    refine OJ.go 1 [(11, .int .i64 0)] ?_
    refine OJ.nil ?_
    refine SJ.block (id := 0) ?_
    refine SJ.forget (List.Sublist.cons _ (List.Sublist.cons_cons _ (List.Sublist.cons_cons _ List.Sublist.slnil))) ?_
    exact SJ.loop (fun s_ : Int => [(2, .pointer (some (pt b1 0))), (4, .pointer (some (pt b2 0))), (6, Sl.v r3), (10, .bool y10), (11, .int .i64 s_)]) (fun s_ : Int => [(b2, c_weirlaw3_Side.enc z_weirlaw3_Side), (b1, c_weirlaw3_Side.enc (⟨a0.P, r6.1, a0.W⟩ : weirlaw3_Side))]) [2, 4, 6, 10, 11] rfl (fun _ _ => rfl) (fun s_ => weirlaw3_arrived.L1_ok a0 b1 b2 r3 r6 y10 s_)

/-! ### (*weir/ring.Port).window: function 48 -/
noncomputable def ring_Port_window.B : Code := (Try.f48.body).getD .skip
noncomputable def ring_Port_window.cx : Fx := ⟨Try.prog, 48, Try.f48⟩
noncomputable def ring_Port_window.out (r_ : Sl) : Value := Sl.v r_
noncomputable def ring_Port_window.F0 (r_ : Sl) : Reach := .ret (ring_Port_window.out r_)
noncomputable def ring_Port_window (a0 : (Option Addr)) (a1 : Int) (a2 : Int) : M Sl :=
  ring_Port_bytes a0 a1 >>= fun r1 =>
  cut 1 r1 none (some a2) (some a2) >>= fun r2 =>
  pure r2
theorem ring_Port_window_ok (a0 : (Option Addr)) (a1 : Int) (a2 : Int) : Ref Try.prog 48 [.pointer a0, .int .i64 a1, .int .i64 a2] (ring_Port_window a0 a1 a2) ring_Port_window.out := by
  refine Ref.of (cd := ring_Port_window.B) Try.func48 ?_
  show SJ ring_Port_window.cx [.code ring_Port_window.B] [(0, .pointer a0), (1, .int .i64 a1), (2, .int .i64 a2)] [] (ring_Port_window a0 a1 a2) ring_Port_window.F0
  unfold ring_Port_window
  refine SJ.sr 1 ?_
  refine OJ.go 1 [(6, Sl.v Sl.nil)] ?_
  refine OJ.nil ?_
  refine SJ.sr 7 ?_
  refine OJ.go 2 [(8, .int .i64 a1), (7, .pointer a0)] ?_
  refine OJ.call (d := 9) (g := 47) (ats := #[23, 3]) (args := [.tmp 7, .tmp 8]) (owed := []) F47 (ring_Port_bytes_ok a0 a1) (fun r1 => ?_)
  refine OW.nil ?_
  refine OJ.go 2 [(11, .int .i64 a2), (10, .int .i64 a2)] ?_
  refine OJ.cut (d := 12) (t := 22) (E := 5) (y := .tmp 9) (lo := none) (hi := (some (.tmp 10))) (mx := (some (.tmp 11))) (lo' := none) (hi' := some (.i64, a2)) (mx' := some (.i64, a2)) (fun _ => rfl) (fun r2 => ?_)
  refine OJ.go 1 [(6, Sl.v r2)] ?_
  refine OJ.nil ?_
  exact SJ.ret rfl (Res.run (ys := [Sl.v r2]) (.tmp (by kernel_rfl) .nil) rfl)

/-! ### (*weir/ring.Port).Poll: function 17 -/
noncomputable def ring_Port_Poll.B : Code := (Try.f17.body).getD .skip
noncomputable def ring_Port_Poll.cx : Fx := ⟨Try.prog, 17, Try.f17⟩
noncomputable def ring_Port_Poll.out (r_ : (Int × Sl × Bool)) : Value := .tuple #[.int .i64 r_.1, Sl.v r_.2.1, .bool r_.2.2]
noncomputable def ring_Port_Poll.F0 (r_ : (Int × Sl × Bool)) : Reach := .ret (ring_Port_Poll.out r_)
noncomputable def ring_Port_Poll (a0 : (Option Addr)) : M (Int × Sl × Bool) :=
  nilck a0 >>= fun p1 =>
  ld (cI .i64) (Addr.add (Addr.add p1 12) 2) >>= fun x2 =>
  if x2 = 0 then
    pure (0, Sl.nil, false)
  else
    nilck a0 >>= fun p3 =>
    ring_line_leave (some (Addr.add p3 12)) >>= fun r4 =>
    nilck a0 >>= fun p5 =>
    ld cL (Addr.add p5 4) >>= fun x6 =>
    idx x6.a x6.len r4 1 >>= fun p7 =>
    st (cI .i64) p7 4 >>= fun _ =>
    nilck a0 >>= fun p8 =>
    ld cL (Addr.add p8 5) >>= fun x9 =>
    idx x9.a x9.len r4 1 >>= fun p10 =>
    ld (cI .i64) p10 >>= fun x11 =>
    ring_Port_window a0 r4 x11 >>= fun r12 =>
    pure (r4, r12, true)
theorem ring_Port_Poll_ok (a0 : (Option Addr)) : Ref Try.prog 17 [.pointer a0] (ring_Port_Poll a0) ring_Port_Poll.out := by
  refine Ref.of (cd := ring_Port_Poll.B) Try.func17 ?_
  show SJ ring_Port_Poll.cx [.code ring_Port_Poll.B] [(0, .pointer a0)] [] (ring_Port_Poll a0) ring_Port_Poll.F0
  unfold ring_Port_Poll
  refine SJ.sr 3 ?_
  refine OJ.go 3 [(4, .bool false), (3, Sl.v Sl.nil), (2, .int .i64 0)] ?_
  refine OJ.nil ?_
  refine SJ.seq ?_
  refine SJ.sr 6 ?_
  refine OJ.go 1 [(6, .pointer a0)] ?_
  refine OJ.nilck (d := 7) (y := .tmp 6) (fun p1 => ?_)
  refine OJ.go 2 [(9, .pointer (some (Addr.add (Addr.add p1 12) 2))), (8, .pointer (some (Addr.add p1 12)))] ?_
  refine OJ.ld (d := 10) (y := .tmp 9) (pend2 := fun x2 => []) Ty3 (fun _ => rfl) (fun x2 => ?_)
  refine OJ.go 1 [(11, .bool (x2 == 0))] ?_
  refine OJ.nil ?_
  refine SJ.cond (t := (.tmp 11)) (b := (x2 == 0)) beq_iff_eq (fun hc13 => ?_) (fun hc13 => ?_)
  · refine SJ.sr 3 ?_
    refine OJ.go 3 [(4, .bool false), (3, Sl.v Sl.nil), (2, .int .i64 0)] ?_
    refine OJ.nil ?_
    exact SJ.ret rfl (Res.run (ys := [.int .i64 0, Sl.v Sl.nil, .bool false]) (.tmp (by kernel_rfl) (.tmp (by kernel_rfl) (.tmp (by kernel_rfl) .nil))) rfl)
  · refine SJ.skip ?_
    refine SJ.sr 5 ?_
    refine OJ.go 1 [(12, .pointer a0)] ?_
    refine OJ.nilck (d := 13) (y := .tmp 12) (fun p3 => ?_)
    refine OJ.go 1 [(14, .pointer (some (Addr.add p3 12)))] ?_
    refine OJ.call (d := 15) (g := 46) (ats := #[86]) (args := [.tmp 14]) (owed := []) F46 (ring_line_leave_ok (some (Addr.add p3 12))) (fun r4 => ?_)
    refine OW.nil ?_
    refine OJ.go 1 [(5, .int .i64 r4)] ?_
    refine OJ.nil ?_
    refine SJ.sr 7 ?_
    refine OJ.go 1 [(16, .pointer a0)] ?_
    refine OJ.nilck (d := 17) (y := .tmp 16) (fun p5 => ?_)
    refine OJ.go 1 [(18, .pointer (some (Addr.add p5 4)))] ?_
    refine OJ.ld (d := 19) (y := .tmp 18) (pend2 := fun x6 => []) Ty67 (fun _ => rfl) (fun x6 => ?_)
    refine OJ.go 1 [(20, .int .i64 r4)] ?_
    refine OJ.idxS (d := 21) (T := 67) (y := .tmp 19) (j := .tmp 20) (E := 3) (cap := x6.cap) (k := .i64) (fun p7 => ?_)
    refine OJ.st (y := .tmp 21) (z := .const (.int .i64 4)) (owed := []) Ty3 ?_
    refine OW.nil ?_
    refine OJ.nil ?_
    refine SJ.sr 14 ?_
    refine OJ.go 4 [(25, .pointer a0), (24, .int .i64 r4), (23, .pointer a0), (22, .int .i64 r4)] ?_
    refine OJ.nilck (d := 26) (y := .tmp 25) (fun p8 => ?_)
    refine OJ.go 1 [(27, .pointer (some (Addr.add p8 5)))] ?_
    refine OJ.ld (d := 28) (y := .tmp 27) (pend2 := fun x9 => []) Ty67 (fun _ => rfl) (fun x9 => ?_)
    refine OJ.go 1 [(29, .int .i64 r4)] ?_
    refine OJ.idxS (d := 30) (T := 67) (y := .tmp 28) (j := .tmp 29) (E := 3) (cap := x9.cap) (k := .i64) (fun p10 => ?_)
    refine OJ.ld (d := 31) (y := .tmp 30) (pend2 := fun x11 => []) Ty3 (fun _ => rfl) (fun x11 => ?_)
    refine OJ.call (d := 32) (g := 48) (ats := #[23, 3, 3]) (args := [.tmp 23, .tmp 24, .tmp 31]) (owed := []) F48 (ring_Port_window_ok a0 r4 x11) (fun r12 => ?_)
    refine OW.nil ?_
    refine OJ.go 3 [(4, .bool true), (3, Sl.v r12), (2, .int .i64 r4)] ?_
    refine OJ.nil ?_
    exact SJ.ret rfl (Res.run (ys := [.int .i64 r4, Sl.v r12, .bool true]) (.tmp (by kernel_rfl) (.tmp (by kernel_rfl) (.tmp (by kernel_rfl) .nil))) rfl)
end Go.Proofs.Ytoddkagehbcfjaa.Lx
