/- Programs of the M-world for Go functions, each with the proof that the Go text does what it says. Printed by lxgen.py. -/
import Derived.Test.YtoddkagehbcfjaaLxT
import Derived.Test.YtoddkagehbcfjaaLxP0
set_option linter.unusedVariables false
set_option linter.unusedSimpArgs false
namespace Go.Proofs.Ytoddkagehbcfjaa.Lx
open Go Go.Proofs
/-! ### (*weir/ring.Port).window: function 48 -/
noncomputable def ring_Port_window.B : Code := (Try.f48.body).getD .skip
noncomputable def ring_Port_window.cx : Fx := ⟨Try.prog, 48, Try.f48⟩
noncomputable def ring_Port_window.out (r_ : Sl) : Value := Sl.v r_
noncomputable def ring_Port_window.F0 (r_ : Sl) : Reach := .ret (ring_Port_window.out r_)
noncomputable def ring_Port_window (a0 : (Option Addr)) (a1 : Int) (a2 : Int) : M Sl :=
  ring_Port_bytes a0 a1 >>= fun r1 =>
  cut 1 r1 none (some a2) (some a2) >>= fun r2 =>
  pure r2
theorem ring_Port_window_ok (a0 : (Option Addr)) (a1 : Int) (a2 : Int) : Ref Try.prog 48 [.pointer a0, .int .i64 a1, .int .i64 a2] (ring_Port_window a0 a1 a2) ring_Port_window.out := by
  refine Ref.of (cd := ring_Port_window.B) Try.func48 (by kernel_rfl) (by kernel_rfl) ?_
  show SJ ring_Port_window.cx [.code ring_Port_window.B] [(0, .pointer a0), (1, .int .i64 a1), (2, .int .i64 a2)] [] (ring_Port_window a0 a1 a2) ring_Port_window.F0
  unfold ring_Port_window
  refine SJ.seq (by kernel_rfl) ?_
  refine SJ.region (id := 0) (by kernel_rfl) [0] (by kernel_rfl) ?_
  refine OJ.run [0] [] [0, 1, 2] (m2 := [(0, .pointer a0), (1, .int .i64 a1), (2, .int .i64 a2)]) (by kernel_rfl) (by kernel_rfl) ?_
  refine OJ.nil ?_
  refine SJ.seq (by kernel_rfl) ?_
  refine SJ.region (id := 1) (by kernel_rfl) [0, 1, 2, 3, 4, 5, 6] (by kernel_rfl) ?_
  refine OJ.run [0, 1] [2, 3, 4, 5, 6] [2, 7, 8] (m2 := [(2, .int .i64 a2), (7, .pointer a0), (8, .int .i64 a1)]) (by kernel_rfl) (by kernel_rfl) ?_
  refine OJ.call (d := 9) (g := 47) (ats := #[23, 3]) (args := [.tmp 7, .tmp 8]) (vals := [.pointer a0, .int .i64 a1]) (owed := []) (by kernel_rfl) F47 (by kernel_rfl) (ring_Port_bytes_ok a0 a1) (by kernel_rfl) (by kernel_rfl) (by kernel_rfl) (fun r1 => ?_)
  refine OW.nil ?_
  refine OJ.run [3, 4] [5, 6] [9, 10, 11] (m2 := [(9, Sl.v r1), (10, .int .i64 a2), (11, .int .i64 a2)]) (by kernel_rfl) (by kernel_rfl) ?_
  refine OJ.cut (d := 12) (t := 22) (E := 5) (y := .tmp 9) (lo := none) (hi := (some (.tmp 10))) (mx := (some (.tmp 11))) (lo' := none) (hi' := some (.i64, a2)) (mx' := some (.i64, a2)) (by kernel_rfl) (by kernel_rfl) (by kernel_rfl) (by kernel_rfl) (by kernel_rfl) (by kernel_rfl) (by kernel_rfl) (fun _ => rfl) (by kernel_rfl) (by kernel_rfl) (by kernel_rfl) (fun r2 => ?_)
  refine OJ.run [6] [] [6] (m2 := [(6, Sl.v r2)]) (by kernel_rfl) (by kernel_rfl) ?_
  refine OJ.nil ?_
  exact SJ.ret (by kernel_rfl) rfl (Res.run (ys := [Sl.v r2]) (.tmp (by kernel_rfl) .nil) rfl)

/-! ### (*weir/ring.Port).Poll: function 17 -/
noncomputable def ring_Port_Poll.B : Code := (Try.f17.body).getD .skip
noncomputable def ring_Port_Poll.cx : Fx := ⟨Try.prog, 17, Try.f17⟩
noncomputable def ring_Port_Poll.out (r_ : (Int × Sl × Bool)) : Value := .tuple #[.int .i64 r_.1, Sl.v r_.2.1, .bool r_.2.2]
noncomputable def ring_Port_Poll.F0 (r_ : (Int × Sl × Bool)) : Reach := .ret (ring_Port_Poll.out r_)
noncomputable def ring_Port_Poll (a0 : (Option Addr)) : M (Int × Sl × Bool) :=
  nilck a0 >>= fun p1 =>
  ld (cI .i64) (Addr.add (Addr.add p1 12) 2) >>= fun x2 =>
  if x2 = 0 then
    pure (0, Sl.nil, false)
  else
    nilck a0 >>= fun p3 =>
    ring_line_leave (some (Addr.add p3 12)) >>= fun r4 =>
    nilck a0 >>= fun p5 =>
    ld cL (Addr.add p5 4) >>= fun x6 =>
    idx x6.a x6.len r4 1 >>= fun p7 =>
    st (cI .i64) p7 4 >>= fun _ =>
    nilck a0 >>= fun p8 =>
    ld cL (Addr.add p8 5) >>= fun x9 =>
    idx x9.a x9.len r4 1 >>= fun p10 =>
    ld (cI .i64) p10 >>= fun x11 =>
    ring_Port_window a0 r4 x11 >>= fun r12 =>
    pure (r4, r12, true)
theorem ring_Port_Poll_ok (a0 : (Option Addr)) : Ref Try.prog 17 [.pointer a0] (ring_Port_Poll a0) ring_Port_Poll.out := by
  refine Ref.of (cd := ring_Port_Poll.B) Try.func17 (by kernel_rfl) (by kernel_rfl) ?_
  show SJ ring_Port_Poll.cx [.code ring_Port_Poll.B] [(0, .pointer a0)] [] (ring_Port_Poll a0) ring_Port_Poll.F0
  unfold ring_Port_Poll
  refine SJ.seq (by kernel_rfl) ?_
  refine SJ.region (id := 0) (by kernel_rfl) [0, 1, 2] (by kernel_rfl) ?_
  refine OJ.run [0, 1, 2] [] [0] (m2 := [(0, .pointer a0)]) (by kernel_rfl) (by kernel_rfl) ?_
  refine OJ.nil ?_
  refine SJ.seq (by kernel_rfl) ?_
  refine SJ.seq (by kernel_rfl) ?_
  refine SJ.region (id := 1) (by kernel_rfl) [0, 1, 2, 3, 4, 5] (by kernel_rfl) ?_
  refine OJ.run [0] [1, 2, 3, 4, 5] [0, 6] (m2 := [(0, .pointer a0), (6, .pointer a0)]) (by kernel_rfl) (by kernel_rfl) ?_
  refine OJ.nilck (d := 7) (y := .tmp 6) (by kernel_rfl) (by kernel_rfl) (by kernel_rfl) (by kernel_rfl) (by kernel_rfl) (fun p1 => ?_)
  refine OJ.run [2, 3] [4, 5] [0, 9] (m2 := [(0, .pointer a0), (9, .pointer (some (Addr.add (Addr.add p1 12) 2)))]) (by kernel_rfl) (by kernel_rfl) ?_
  refine OJ.ld (d := 10) (T := 3) (y := .tmp 9) (pend2 := fun x2 => []) (by kernel_rfl) (by kernel_rfl) Ty3 (by kernel_rfl) (by kernel_rfl) (fun _ => rfl) (fun x2 => ?_)
  refine OJ.run [5] [] [0, 11] (m2 := [(0, .pointer a0), (11, .bool (x2 == 0))]) (by kernel_rfl) (by kernel_rfl) ?_
  refine OJ.nil ?_
  refine SJ.cond (t := (.tmp 11)) (b := (x2 == 0)) (by kernel_rfl) (by kernel_rfl) beq_iff_eq (fun hc13 => ?_) (fun hc13 => ?_)
  · refine SJ.seq (by kernel_rfl) ?_
    refine SJ.region (id := 2) (by kernel_rfl) [0, 1, 2] (by kernel_rfl) ?_
    refine OJ.run [0, 1, 2] [] [2, 3, 4] (m2 := [(2, .int .i64 0), (3, Sl.v Sl.nil), (4, .bool false)]) (by kernel_rfl) (by kernel_rfl) ?_
    refine OJ.nil ?_
    exact SJ.ret (by kernel_rfl) rfl (Res.run (ys := [.int .i64 0, Sl.v Sl.nil, .bool false]) (.tmp (by kernel_rfl) (.tmp (by kernel_rfl) (.tmp (by kernel_rfl) .nil))) rfl)
  · refine SJ.skip (by kernel_rfl) ?_
    refine SJ.seq (by kernel_rfl) ?_
    refine SJ.region (id := 3) (by kernel_rfl) [0, 1, 2, 3, 4] (by kernel_rfl) ?_
    refine OJ.run [0] [1, 2, 3, 4] [0, 12] (m2 := [(0, .pointer a0), (12, .pointer a0)]) (by kernel_rfl) (by kernel_rfl) ?_
    refine OJ.nilck (d := 13) (y := .tmp 12) (by kernel_rfl) (by kernel_rfl) (by kernel_rfl) (by kernel_rfl) (by kernel_rfl) (fun p3 => ?_)
    refine OJ.run [2] [3, 4] [0, 14] (m2 := [(0, .pointer a0), (14, .pointer (some (Addr.add p3 12)))]) (by kernel_rfl) (by kernel_rfl) ?_
    refine OJ.call (d := 15) (g := 46) (ats := #[86]) (args := [.tmp 14]) (vals := [.pointer (some (Addr.add p3 12))]) (owed := []) (by kernel_rfl) F46 (by kernel_rfl) (ring_line_leave_ok (some (Addr.add p3 12))) (by kernel_rfl) (by kernel_rfl) (by kernel_rfl) (fun r4 => ?_)
    refine OW.nil ?_
    refine OJ.run [4] [] [0, 5] (m2 := [(0, .pointer a0), (5, .int .i64 r4)]) (by kernel_rfl) (by kernel_rfl) ?_
    refine OJ.nil ?_
    refine SJ.seq (by kernel_rfl) ?_
    refine SJ.region (id := 4) (by kernel_rfl) [0, 1, 2, 3, 4, 5, 6] (by kernel_rfl) ?_
    refine OJ.run [0] [1, 2, 3, 4, 5, 6] [0, 5, 16] (m2 := [(0, .pointer a0), (5, .int .i64 r4), (16, .pointer a0)]) (by kernel_rfl) (by kernel_rfl) ?_
    refine OJ.nilck (d := 17) (y := .tmp 16) (by kernel_rfl) (by kernel_rfl) (by kernel_rfl) (by kernel_rfl) (by kernel_rfl) (fun p5 => ?_)
    refine OJ.run [2] [3, 4, 5, 6] [0, 5, 18] (m2 := [(0, .pointer a0), (5, .int .i64 r4), (18, .pointer (some (Addr.add p5 4)))]) (by kernel_rfl) (by kernel_rfl) ?_
    refine OJ.ld (d := 19) (T := 67) (y := .tmp 18) (pend2 := fun x6 => []) (by kernel_rfl) (by kernel_rfl) Ty67 (by kernel_rfl) (by kernel_rfl) (fun _ => rfl) (fun x6 => ?_)
    refine OJ.run [4] [5, 6] [0, 5, 19, 20] (m2 := [(0, .pointer a0), (5, .int .i64 r4), (19, Sl.v x6), (20, .int .i64 r4)]) (by kernel_rfl) (by kernel_rfl) ?_
    refine OJ.idxS (d := 21) (T := 67) (y := .tmp 19) (j := .tmp 20) (E := 3) (cap := x6.cap) (k := .i64) (by kernel_rfl) (by kernel_rfl) (by kernel_rfl) (by kernel_rfl) (by kernel_rfl) (by kernel_rfl) (by kernel_rfl) (by kernel_rfl) (fun p7 => ?_)
    refine OJ.st (T := 3) (y := .tmp 21) (z := .const (.int .i64 4)) (owed := []) (by kernel_rfl) (by kernel_rfl) (by kernel_rfl) Ty3 (by kernel_rfl) (by kernel_rfl) ?_
    refine OW.nil ?_
    refine OJ.nil ?_
    refine SJ.seq (by kernel_rfl) ?_
    refine SJ.region (id := 5) (by kernel_rfl) [0, 1, 2, 3, 4, 5, 6, 7, 8, 9, 10, 11, 12, 13] (by kernel_rfl) ?_
    refine OJ.run [0, 1, 2, 3] [4, 5, 6, 7, 8, 9, 10, 11, 12, 13] [5, 22, 23, 24, 25] (m2 := [(5, .int .i64 r4), (22, .int .i64 r4), (23, .pointer a0), (24, .int .i64 r4), (25, .pointer a0)]) (by kernel_rfl) (by kernel_rfl) ?_
    refine OJ.nilck (d := 26) (y := .tmp 25) (by kernel_rfl) (by kernel_rfl) (by kernel_rfl) (by kernel_rfl) (by kernel_rfl) (fun p8 => ?_)
    refine OJ.run [5] [6, 7, 8, 9, 10, 11, 12, 13] [5, 22, 23, 24, 27] (m2 := [(5, .int .i64 r4), (22, .int .i64 r4), (23, .pointer a0), (24, .int .i64 r4), (27, .pointer (some (Addr.add p8 5)))]) (by kernel_rfl) (by kernel_rfl) ?_
    refine OJ.ld (d := 28) (T := 67) (y := .tmp 27) (pend2 := fun x9 => []) (by kernel_rfl) (by kernel_rfl) Ty67 (by kernel_rfl) (by kernel_rfl) (fun _ => rfl) (fun x9 => ?_)
    refine OJ.run [7] [8, 9, 10, 11, 12, 13] [22, 23, 24, 28, 29] (m2 := [(22, .int .i64 r4), (23, .pointer a0), (24, .int .i64 r4), (28, Sl.v x9), (29, .int .i64 r4)]) (by kernel_rfl) (by kernel_rfl) ?_
    refine OJ.idxS (d := 30) (T := 67) (y := .tmp 28) (j := .tmp 29) (E := 3) (cap := x9.cap) (k := .i64) (by kernel_rfl) (by kernel_rfl) (by kernel_rfl) (by kernel_rfl) (by kernel_rfl) (by kernel_rfl) (by kernel_rfl) (by kernel_rfl) (fun p10 => ?_)
    refine OJ.ld (d := 31) (T := 3) (y := .tmp 30) (pend2 := fun x11 => []) (by kernel_rfl) (by kernel_rfl) Ty3 (by kernel_rfl) (by kernel_rfl) (fun _ => rfl) (fun x11 => ?_)
    refine OJ.call (d := 32) (g := 48) (ats := #[23, 3, 3]) (args := [.tmp 23, .tmp 24, .tmp 31]) (vals := [.pointer a0, .int .i64 r4, .int .i64 x11]) (owed := []) (by kernel_rfl) F48 (by kernel_rfl) (ring_Port_window_ok a0 r4 x11) (by kernel_rfl) (by kernel_rfl) (by kernel_rfl) (fun r12 => ?_)
    refine OW.nil ?_
    refine OJ.run [11, 12, 13] [] [2, 3, 4] (m2 := [(2, .int .i64 r4), (3, Sl.v r12), (4, .bool true)]) (by kernel_rfl) (by kernel_rfl) ?_
    refine OJ.nil ?_
    exact SJ.ret (by kernel_rfl) rfl (Res.run (ys := [.int .i64 r4, Sl.v r12, .bool true]) (.tmp (by kernel_rfl) (.tmp (by kernel_rfl) (.tmp (by kernel_rfl) .nil))) rfl)

/-! ### (*weir/ring.Port).Take: function 25 -/
noncomputable def ring_Port_Take.B : Code := (Try.f25.body).getD .skip
noncomputable def ring_Port_Take.cx : Fx := ⟨Try.prog, 25, Try.f25⟩
noncomputable def ring_Port_Take.out (r_ : (Int × Sl × Int)) : Value := .tuple #[.int .i64 r_.1, Sl.v r_.2.1, .int .i64 r_.2.2]
noncomputable def ring_Port_Take.F0 (r_ : (Int × Sl × Int)) : Reach := .ret (ring_Port_Take.out r_)
noncomputable def ring_Port_Take (a0 : (Option Addr)) : M (Int × Sl × Int) :=
  nilck a0 >>= fun p1 =>
  ld (cI .i64) (Addr.add (Addr.add p1 6) 2) >>= fun x2 =>
  if x2 = 0 then
    pure (0, Sl.nil, 33)
  else
    nilck a0 >>= fun p3 =>
    ring_line_leave (some (Addr.add p3 6)) >>= fun r4 =>
    nilck a0 >>= fun p5 =>
    ld cL (Addr.add p5 4) >>= fun x6 =>
    idx x6.a x6.len r4 1 >>= fun p7 =>
    st (cI .i64) p7 4 >>= fun _ =>
    nilck a0 >>= fun p8 =>
    ld (cI .i64) p8 >>= fun x9 =>
    ring_Port_window a0 r4 x9 >>= fun r10 =>
    clrS (cI .u8) 0 r10 >>= fun _ =>
    pure (r4, r10, 0)
theorem ring_Port_Take_ok (a0 : (Option Addr)) : Ref Try.prog 25 [.pointer a0] (ring_Port_Take a0) ring_Port_Take.out := by
  refine Ref.of (cd := ring_Port_Take.B) Try.func25 (by kernel_rfl) (by kernel_rfl) ?_
  show SJ ring_Port_Take.cx [.code ring_Port_Take.B] [(0, .pointer a0)] [] (ring_Port_Take a0) ring_Port_Take.F0
  unfold ring_Port_Take
  refine SJ.seq (by kernel_rfl) ?_
  refine SJ.region (id := 0) (by kernel_rfl) [0, 1, 2] (by kernel_rfl) ?_
  refine OJ.run [0, 1, 2] [] [0] (m2 := [(0, .pointer a0)]) (by kernel_rfl) (by kernel_rfl) ?_
  refine OJ.nil ?_
  refine SJ.seq (by kernel_rfl) ?_
  refine SJ.seq (by kernel_rfl) ?_
  refine SJ.region (id := 1) (by kernel_rfl) [0, 1, 2, 3, 4, 5] (by kernel_rfl) ?_
  refine OJ.run [0] [1, 2, 3, 4, 5] [0, 7] (m2 := [(0, .pointer a0), (7, .pointer a0)]) (by kernel_rfl) (by kernel_rfl) ?_
  refine OJ.nilck (d := 8) (y := .tmp 7) (by kernel_rfl) (by kernel_rfl) (by kernel_rfl) (by kernel_rfl) (by kernel_rfl) (fun p1 => ?_)
  refine OJ.run [2, 3] [4, 5] [0, 10] (m2 := [(0, .pointer a0), (10, .pointer (some (Addr.add (Addr.add p1 6) 2)))]) (by kernel_rfl) (by kernel_rfl) ?_
  refine OJ.ld (d := 11) (T := 3) (y := .tmp 10) (pend2 := fun x2 => []) (by kernel_rfl) (by kernel_rfl) Ty3 (by kernel_rfl) (by kernel_rfl) (fun _ => rfl) (fun x2 => ?_)
  refine OJ.run [5] [] [0, 12] (m2 := [(0, .pointer a0), (12, .bool (x2 == 0))]) (by kernel_rfl) (by kernel_rfl) ?_
  refine OJ.nil ?_
  refine SJ.cond (t := (.tmp 12)) (b := (x2 == 0)) (by kernel_rfl) (by kernel_rfl) beq_iff_eq (fun hc11 => ?_) (fun hc11 => ?_)
  · refine SJ.seq (by kernel_rfl) ?_
    refine SJ.region (id := 2) (by kernel_rfl) [0, 1, 2] (by kernel_rfl) ?_
    refine OJ.run [0, 1, 2] [] [2, 3, 4] (m2 := [(2, .int .i64 0), (3, Sl.v Sl.nil), (4, .int .i64 33)]) (by kernel_rfl) (by kernel_rfl) ?_
    refine OJ.nil ?_
    exact SJ.ret (by kernel_rfl) rfl (Res.run (ys := [.int .i64 0, Sl.v Sl.nil, .int .i64 33]) (.tmp (by kernel_rfl) (.tmp (by kernel_rfl) (.tmp (by kernel_rfl) .nil))) rfl)
  · refine SJ.skip (by kernel_rfl) ?_
    refine SJ.seq (by kernel_rfl) ?_
    refine SJ.region (id := 3) (by kernel_rfl) [0, 1, 2, 3, 4] (by kernel_rfl) ?_
    refine OJ.run [0] [1, 2, 3, 4] [0, 13] (m2 := [(0, .pointer a0), (13, .pointer a0)]) (by kernel_rfl) (by kernel_rfl) ?_
    refine OJ.nilck (d := 14) (y := .tmp 13) (by kernel_rfl) (by kernel_rfl) (by kernel_rfl) (by kernel_rfl) (by kernel_rfl) (fun p3 => ?_)
    refine OJ.run [2] [3, 4] [0, 15] (m2 := [(0, .pointer a0), (15, .pointer (some (Addr.add p3 6)))]) (by kernel_rfl) (by kernel_rfl) ?_
    refine OJ.call (d := 16) (g := 46) (ats := #[86]) (args := [.tmp 15]) (vals := [.pointer (some (Addr.add p3 6))]) (owed := []) (by kernel_rfl) F46 (by kernel_rfl) (ring_line_leave_ok (some (Addr.add p3 6))) (by kernel_rfl) (by kernel_rfl) (by kernel_rfl) (fun r4 => ?_)
    refine OW.nil ?_
    refine OJ.run [4] [] [0, 5] (m2 := [(0, .pointer a0), (5, .int .i64 r4)]) (by kernel_rfl) (by kernel_rfl) ?_
    refine OJ.nil ?_
    refine SJ.seq (by kernel_rfl) ?_
    refine SJ.region (id := 4) (by kernel_rfl) [0, 1, 2, 3, 4, 5, 6] (by kernel_rfl) ?_
    refine OJ.run [0] [1, 2, 3, 4, 5, 6] [0, 5, 17] (m2 := [(0, .pointer a0), (5, .int .i64 r4), (17, .pointer a0)]) (by kernel_rfl) (by kernel_rfl) ?_
    refine OJ.nilck (d := 18) (y := .tmp 17) (by kernel_rfl) (by kernel_rfl) (by kernel_rfl) (by kernel_rfl) (by kernel_rfl) (fun p5 => ?_)
    refine OJ.run [2] [3, 4, 5, 6] [0, 5, 19] (m2 := [(0, .pointer a0), (5, .int .i64 r4), (19, .pointer (some (Addr.add p5 4)))]) (by kernel_rfl) (by kernel_rfl) ?_
    refine OJ.ld (d := 20) (T := 67) (y := .tmp 19) (pend2 := fun x6 => []) (by kernel_rfl) (by kernel_rfl) Ty67 (by kernel_rfl) (by kernel_rfl) (fun _ => rfl) (fun x6 => ?_)
    refine OJ.run [4] [5, 6] [0, 5, 20, 21] (m2 := [(0, .pointer a0), (5, .int .i64 r4), (20, Sl.v x6), (21, .int .i64 r4)]) (by kernel_rfl) (by kernel_rfl) ?_
    refine OJ.idxS (d := 22) (T := 67) (y := .tmp 20) (j := .tmp 21) (E := 3) (cap := x6.cap) (k := .i64) (by kernel_rfl) (by kernel_rfl) (by kernel_rfl) (by kernel_rfl) (by kernel_rfl) (by kernel_rfl) (by kernel_rfl) (by kernel_rfl) (fun p7 => ?_)
    refine OJ.st (T := 3) (y := .tmp 22) (z := .const (.int .i64 4)) (owed := []) (by kernel_rfl) (by kernel_rfl) (by kernel_rfl) Ty3 (by kernel_rfl) (by kernel_rfl) ?_
    refine OW.nil ?_
    refine OJ.nil ?_
    refine SJ.seq (by kernel_rfl) ?_
    refine SJ.region (id := 5) (by kernel_rfl) [0, 1, 2, 3, 4, 5, 6, 7] (by kernel_rfl) ?_
    refine OJ.run [0, 1, 2] [3, 4, 5, 6, 7] [5, 23, 24, 25] (m2 := [(5, .int .i64 r4), (23, .pointer a0), (24, .int .i64 r4), (25, .pointer a0)]) (by kernel_rfl) (by kernel_rfl) ?_
    refine OJ.nilck (d := 26) (y := .tmp 25) (by kernel_rfl) (by kernel_rfl) (by kernel_rfl) (by kernel_rfl) (by kernel_rfl) (fun p8 => ?_)
    refine OJ.run [4] [5, 6, 7] [5, 23, 24, 27] (m2 := [(5, .int .i64 r4), (23, .pointer a0), (24, .int .i64 r4), (27, .pointer (some p8))]) (by kernel_rfl) (by kernel_rfl) ?_
    refine OJ.ld (d := 28) (T := 3) (y := .tmp 27) (pend2 := fun x9 => []) (by kernel_rfl) (by kernel_rfl) Ty3 (by kernel_rfl) (by kernel_rfl) (fun _ => rfl) (fun x9 => ?_)
    refine OJ.call (d := 29) (g := 48) (ats := #[23, 3, 3]) (args := [.tmp 23, .tmp 24, .tmp 28]) (vals := [.pointer a0, .int .i64 r4, .int .i64 x9]) (owed := []) (by kernel_rfl) F48 (by kernel_rfl) (ring_Port_window_ok a0 r4 x9) (by kernel_rfl) (by kernel_rfl) (by kernel_rfl) (fun r10 => ?_)
    refine OW.nil ?_
    refine OJ.run [7] [] [5, 6] (m2 := [(5, .int .i64 r4), (6, Sl.v r10)]) (by kernel_rfl) (by kernel_rfl) ?_
    refine OJ.nil ?_
    refine SJ.seq (by kernel_rfl) ?_
    refine SJ.region (id := 6) (by kernel_rfl) [0, 1] (by kernel_rfl) ?_
    refine OJ.run [0] [1] [5, 6, 30] (m2 := [(5, .int .i64 r4), (6, Sl.v r10), (30, Sl.v r10)]) (by kernel_rfl) (by kernel_rfl) ?_
    refine OJ.clr0 (t := 22) (so := .tmp 30) (owed := []) (by kernel_rfl) (by kernel_rfl) Ty5 (by kernel_rfl) (by kernel_rfl) (by kernel_rfl) ?_
    refine OW.nil ?_
    refine OJ.nil ?_
    refine SJ.seq (by kernel_rfl) ?_
    refine SJ.region (id := 7) (by kernel_rfl) [0, 1, 2, 3, 4] (by kernel_rfl) ?_
    refine OJ.run [0, 1, 2, 3, 4] [] [2, 3, 4] (m2 := [(2, .int .i64 r4), (3, Sl.v r10), (4, .int .i64 0)]) (by kernel_rfl) (by kernel_rfl) ?_
    refine OJ.nil ?_
    exact SJ.ret (by kernel_rfl) rfl (Res.run (ys := [.int .i64 r4, Sl.v r10, .int .i64 0]) (.tmp (by kernel_rfl) (.tmp (by kernel_rfl) (.tmp (by kernel_rfl) .nil))) rfl)

/-! ### (*weir/ring.Port).held: function 49 -/
noncomputable def ring_Port_held.B : Code := (Try.f49.body).getD .skip
noncomputable def ring_Port_held.cx : Fx := ⟨Try.prog, 49, Try.f49⟩
noncomputable def ring_Port_held.out (r_ : Int) : Value := .int .i64 r_
noncomputable def ring_Port_held.F0 (r_ : Int) : Reach := .ret (ring_Port_held.out r_)
noncomputable def ring_Port_held (a0 : (Option Addr)) (a1 : Int) : M Int :=
  (if a1 < 0 then
      pure true
    else
      nilck a0 >>= fun p1 =>
      ld cL (Addr.add p1 4) >>= fun x2 =>
      pure (decide (a1 ≥ (x2.len : Int)))) >>= fun y3 =>
  if y3 = true then
    pure 1
  else
    nilck a0 >>= fun p9 =>
    ld cL (Addr.add p9 4) >>= fun x10 =>
    idx x10.a x10.len a1 1 >>= fun p11 =>
    ld (cI .i64) p11 >>= fun x12 =>
    if x12 ≠ 4 then
      pure 34
    else
      pure 0
theorem ring_Port_held_ok (a0 : (Option Addr)) (a1 : Int) : Ref Try.prog 49 [.pointer a0, .int .i64 a1] (ring_Port_held a0 a1) ring_Port_held.out := by
  refine Ref.of (cd := ring_Port_held.B) Try.func49 (by kernel_rfl) (by kernel_rfl) ?_
  show SJ ring_Port_held.cx [.code ring_Port_held.B] [(0, .pointer a0), (1, .int .i64 a1)] [] (ring_Port_held a0 a1) ring_Port_held.F0
  unfold ring_Port_held
  refine SJ.seq (by kernel_rfl) ?_
  refine SJ.region (id := 0) (by kernel_rfl) [0] (by kernel_rfl) ?_
  refine OJ.run [0] [] [0, 1] (m2 := [(0, .pointer a0), (1, .int .i64 a1)]) (by kernel_rfl) (by kernel_rfl) ?_
  refine OJ.nil ?_
  refine SJ.seq (by kernel_rfl) ?_
  refine SJ.block (id := 0) (by kernel_rfl) ?_
  refine SJ.seq (by kernel_rfl) ?_
  refine SJ.region (id := 1) (by kernel_rfl) [0, 1, 2, 3, 4, 5, 6, 7, 8, 9, 10, 11] (by kernel_rfl) ?_
  refine OJ.run [0, 1, 2] [3, 4, 5, 6, 7, 8, 9, 10, 11] [0, 1, 8] (m2 := [(0, .pointer a0), (1, .int .i64 a1), (8, .bool (decide (a1 < 0)))]) (by kernel_rfl) (by kernel_rfl) ?_
  refine OJ.join (b := decide (a1 < 0)) [3, 4, 5, 6, 7, 8, 9, 10] [11] [0, 1, 16] (fun y3 => [(0, .pointer a0), (1, .int .i64 a1), (16, .bool y3)]) [] [] (by kernel_rfl) (t := 8) (by kernel_rfl) decide_eq_true_iff (fun hp_ => ?_) (fun hp_ => ?_) (by kernel_rfl) (fun _ _ _ _ _ _ h_ => h_) (fun y3 => ?_)
  · refine OJ.run [3, 4, 5, 6, 7, 8, 9, 10] [] [0, 1, 16] (m2 := [(0, .pointer a0), (1, .int .i64 a1), (16, .bool true)]) (by kernel_rfl) (by kernel_rfl) ?_
    exact OJ.nil ⟨(Cov.mem Cov.nil), rfl, _, rfl, by kernel_rfl⟩
  · refine OJ.run [3, 4] [5, 6, 7, 8, 9, 10] [0, 1, 8, 9, 10] (m2 := [(0, .pointer a0), (1, .int .i64 a1), (8, .bool false), (9, .int .i64 a1), (10, .pointer a0)]) (by kernel_rfl) (by kernel_rfl) ?_
    refine OJ.nilck (d := 11) (y := .tmp 10) (by kernel_rfl) (by kernel_rfl) (by kernel_rfl) (by kernel_rfl) (by kernel_rfl) (fun p1 => ?_)
    refine OJ.run [6] [7, 8, 9, 10] [0, 1, 8, 9, 12] (m2 := [(0, .pointer a0), (1, .int .i64 a1), (8, .bool false), (9, .int .i64 a1), (12, .pointer (some (Addr.add p1 4)))]) (by kernel_rfl) (by kernel_rfl) ?_
    refine OJ.ld (d := 13) (T := 67) (y := .tmp 12) (pend2 := fun x2 => []) (by kernel_rfl) (by kernel_rfl) Ty67 (by kernel_rfl) (by kernel_rfl) (fun _ => rfl) (fun x2 => ?_)
    refine OJ.run [8, 9, 10] [] [0, 1, 16] (m2 := [(0, .pointer a0), (1, .int .i64 a1), (16, .bool (decide (a1 ≥ (x2.len : Int))))]) (by kernel_rfl) (by kernel_rfl) ?_
    exact OJ.nil ⟨(Cov.mem Cov.nil), rfl, _, rfl, by kernel_rfl⟩
  · refine OJ.run [11] [] [0, 1, 5] (m2 := [(0, .pointer a0), (1, .int .i64 a1), (5, .bool y3)]) (by kernel_rfl) (by kernel_rfl) ?_
    refine OJ.nil ?_
    refine SJ.cond (t := (.tmp 5)) (b := y3) (by kernel_rfl) (by kernel_rfl) Iff.rfl (fun hc14 => ?_) (fun hc14 => ?_)
    · refine SJ.seq (by kernel_rfl) ?_
      refine SJ.region (id := 2) (by kernel_rfl) [0] (by kernel_rfl) ?_
      refine OJ.run [0] [] [4] (m2 := [(4, .int .i64 1)]) (by kernel_rfl) (by kernel_rfl) ?_
      refine OJ.nil ?_
      exact SJ.ret (by kernel_rfl) rfl (Res.run (ys := [.int .i64 1]) (.tmp (by kernel_rfl) .nil) rfl)
    · refine SJ.seq (by kernel_rfl) ?_
      refine SJ.region (id := 3) (by kernel_rfl) [0, 1, 2, 3, 4, 5, 6, 7, 8] (by kernel_rfl) ?_
      refine OJ.run [0] [1, 2, 3, 4, 5, 6, 7, 8] [1, 18] (m2 := [(1, .int .i64 a1), (18, .pointer a0)]) (by kernel_rfl) (by kernel_rfl) ?_
      refine OJ.nilck (d := 19) (y := .tmp 18) (by kernel_rfl) (by kernel_rfl) (by kernel_rfl) (by kernel_rfl) (by kernel_rfl) (fun p9 => ?_)
      refine OJ.run [2] [3, 4, 5, 6, 7, 8] [1, 20] (m2 := [(1, .int .i64 a1), (20, .pointer (some (Addr.add p9 4)))]) (by kernel_rfl) (by kernel_rfl) ?_
      refine OJ.ld (d := 21) (T := 67) (y := .tmp 20) (pend2 := fun x10 => []) (by kernel_rfl) (by kernel_rfl) Ty67 (by kernel_rfl) (by kernel_rfl) (fun _ => rfl) (fun x10 => ?_)
      refine OJ.run [4] [5, 6, 7, 8] [21, 22] (m2 := [(21, Sl.v x10), (22, .int .i64 a1)]) (by kernel_rfl) (by kernel_rfl) ?_
      refine OJ.idxS (d := 23) (T := 67) (y := .tmp 21) (j := .tmp 22) (E := 3) (cap := x10.cap) (k := .i64) (by kernel_rfl) (by kernel_rfl) (by kernel_rfl) (by kernel_rfl) (by kernel_rfl) (by kernel_rfl) (by kernel_rfl) (by kernel_rfl) (fun p11 => ?_)
      refine OJ.ld (d := 24) (T := 3) (y := .tmp 23) (pend2 := fun x12 => []) (by kernel_rfl) (by kernel_rfl) Ty3 (by kernel_rfl) (by kernel_rfl) (fun _ => rfl) (fun x12 => ?_)
      refine OJ.run [7, 8] [] [17] (m2 := [(17, .bool (x12 != 4))]) (by kernel_rfl) (by kernel_rfl) ?_
      refine OJ.nil ?_
      refine SJ.cond (t := (.tmp 17)) (b := (x12 != 4)) (by kernel_rfl) (by kernel_rfl) bne_iff_ne (fun hc13 => ?_) (fun hc13 => ?_)
      · refine SJ.seq (by kernel_rfl) ?_
        refine SJ.region (id := 4) (by kernel_rfl) [0] (by kernel_rfl) ?_
        refine OJ.run [0] [] [4] (m2 := [(4, .int .i64 34)]) (by kernel_rfl) (by kernel_rfl) ?_
        refine OJ.nil ?_
        exact SJ.ret (by kernel_rfl) rfl (Res.run (ys := [.int .i64 34]) (.tmp (by kernel_rfl) .nil) rfl)
      · refine SJ.skip (by kernel_rfl) ?_
        refine SJ.inBlock ?_
        refine SJ.seq (by kernel_rfl) ?_
        refine SJ.region (id := 5) (by kernel_rfl) [0] (by kernel_rfl) ?_
        refine OJ.run [0] [] [4] (m2 := [(4, .int .i64 0)]) (by kernel_rfl) (by kernel_rfl) ?_
        refine OJ.nil ?_
        exact SJ.ret (by kernel_rfl) rfl (Res.run (ys := [.int .i64 0]) (.tmp (by kernel_rfl) .nil) rfl)

/-! ### (*weir/ring.Port).Buffer: function 18 -/
noncomputable def ring_Port_Buffer.B : Code := (Try.f18.body).getD .skip
noncomputable def ring_Port_Buffer.cx : Fx := ⟨Try.prog, 18, Try.f18⟩
noncomputable def ring_Port_Buffer.out (r_ : (Sl × Int)) : Value := .tuple #[Sl.v r_.1, .int .i64 r_.2]
noncomputable def ring_Port_Buffer.F0 (r_ : (Sl × Int)) : Reach := .ret (ring_Port_Buffer.out r_)
noncomputable def ring_Port_Buffer (a0 : (Option Addr)) (a1 : Int) : M (Sl × Int) :=
  ring_Port_held a0 a1 >>= fun r1 =>
  if r1 ≠ 0 then
    pure (Sl.nil, r1)
  else
    nilck a0 >>= fun p2 =>
    ld (cI .i64) p2 >>= fun x3 =>
    ring_Port_window a0 a1 x3 >>= fun r4 =>
    pure (r4, 0)
theorem ring_Port_Buffer_ok (a0 : (Option Addr)) (a1 : Int) : Ref Try.prog 18 [.pointer a0, .int .i64 a1] (ring_Port_Buffer a0 a1) ring_Port_Buffer.out := by
  refine Ref.of (cd := ring_Port_Buffer.B) Try.func18 (by kernel_rfl) (by kernel_rfl) ?_
  show SJ ring_Port_Buffer.cx [.code ring_Port_Buffer.B] [(0, .pointer a0), (1, .int .i64 a1)] [] (ring_Port_Buffer a0 a1) ring_Port_Buffer.F0
  unfold ring_Port_Buffer
  refine SJ.seq (by kernel_rfl) ?_
  refine SJ.region (id := 0) (by kernel_rfl) [0, 1] (by kernel_rfl) ?_
  refine OJ.run [0, 1] [] [0, 1] (m2 := [(0, .pointer a0), (1, .int .i64 a1)]) (by kernel_rfl) (by kernel_rfl) ?_
  refine OJ.nil ?_
  refine SJ.seq (by kernel_rfl) ?_
  refine SJ.seq (by kernel_rfl) ?_
  refine SJ.region (id := 1) (by kernel_rfl) [0, 1, 2, 3] (by kernel_rfl) ?_
  refine OJ.run [0, 1] [2, 3] [0, 1, 7, 8] (m2 := [(0, .pointer a0), (1, .int .i64 a1), (7, .pointer a0), (8, .int .i64 a1)]) (by kernel_rfl) (by kernel_rfl) ?_
  refine OJ.call (d := 9) (g := 49) (ats := #[23, 3]) (args := [.tmp 7, .tmp 8]) (vals := [.pointer a0, .int .i64 a1]) (owed := []) (by kernel_rfl) F49 (by kernel_rfl) (ring_Port_held_ok a0 a1) (by kernel_rfl) (by kernel_rfl) (by kernel_rfl) (fun r1 => ?_)
  refine OW.nil ?_
  refine OJ.run [3] [] [0, 1, 6] (m2 := [(0, .pointer a0), (1, .int .i64 a1), (6, .int .i64 r1)]) (by kernel_rfl) (by kernel_rfl) ?_
  refine OJ.nil ?_
  refine SJ.seq (by kernel_rfl) ?_
  refine SJ.region (id := 2) (by kernel_rfl) [0, 1] (by kernel_rfl) ?_
  refine OJ.run [0, 1] [] [0, 1, 6, 11] (m2 := [(0, .pointer a0), (1, .int .i64 a1), (6, .int .i64 r1), (11, .bool (r1 != 0))]) (by kernel_rfl) (by kernel_rfl) ?_
  refine OJ.nil ?_
  refine SJ.cond (t := (.tmp 11)) (b := (r1 != 0)) (by kernel_rfl) (by kernel_rfl) bne_iff_ne (fun hc5 => ?_) (fun hc5 => ?_)
  · refine SJ.seq (by kernel_rfl) ?_
    refine SJ.region (id := 3) (by kernel_rfl) [0, 1, 2] (by kernel_rfl) ?_
    refine OJ.run [0, 1, 2] [] [4, 5] (m2 := [(4, Sl.v Sl.nil), (5, .int .i64 r1)]) (by kernel_rfl) (by kernel_rfl) ?_
    refine OJ.nil ?_
    exact SJ.ret (by kernel_rfl) rfl (Res.run (ys := [Sl.v Sl.nil, .int .i64 r1]) (.tmp (by kernel_rfl) (.tmp (by kernel_rfl) .nil)) rfl)
  · refine SJ.skip (by kernel_rfl) ?_
    refine SJ.seq (by kernel_rfl) ?_
    refine SJ.region (id := 4) (by kernel_rfl) [0, 1, 2, 3, 4, 5, 6, 7, 8] (by kernel_rfl) ?_
    refine OJ.run [0, 1, 2] [3, 4, 5, 6, 7, 8] [13, 14, 15] (m2 := [(13, .pointer a0), (14, .int .i64 a1), (15, .pointer a0)]) (by kernel_rfl) (by kernel_rfl) ?_
    refine OJ.nilck (d := 16) (y := .tmp 15) (by kernel_rfl) (by kernel_rfl) (by kernel_rfl) (by kernel_rfl) (by kernel_rfl) (fun p2 => ?_)
    refine OJ.run [4] [5, 6, 7, 8] [13, 14, 17] (m2 := [(13, .pointer a0), (14, .int .i64 a1), (17, .pointer (some p2))]) (by kernel_rfl) (by kernel_rfl) ?_
    refine OJ.ld (d := 18) (T := 3) (y := .tmp 17) (pend2 := fun x3 => []) (by kernel_rfl) (by kernel_rfl) Ty3 (by kernel_rfl) (by kernel_rfl) (fun _ => rfl) (fun x3 => ?_)
    refine OJ.call (d := 19) (g := 48) (ats := #[23, 3, 3]) (args := [.tmp 13, .tmp 14, .tmp 18]) (vals := [.pointer a0, .int .i64 a1, .int .i64 x3]) (owed := []) (by kernel_rfl) F48 (by kernel_rfl) (ring_Port_window_ok a0 a1 x3) (by kernel_rfl) (by kernel_rfl) (by kernel_rfl) (fun r4 => ?_)
    refine OW.nil ?_
    refine OJ.run [7, 8] [] [4, 5] (m2 := [(4, Sl.v r4), (5, .int .i64 0)]) (by kernel_rfl) (by kernel_rfl) ?_
    refine OJ.nil ?_
    exact SJ.ret (by kernel_rfl) rfl (Res.run (ys := [Sl.v r4, .int .i64 0]) (.tmp (by kernel_rfl) (.tmp (by kernel_rfl) .nil)) rfl)

/-! ### (*weir/ring.Port).Release: function 24 -/
noncomputable def ring_Port_Release.B : Code := (Try.f24.body).getD .skip
noncomputable def ring_Port_Release.cx : Fx := ⟨Try.prog, 24, Try.f24⟩
noncomputable def ring_Port_Release.out (r_ : Int) : Value := .int .i64 r_
noncomputable def ring_Port_Release.F0 (r_ : Int) : Reach := .ret (ring_Port_Release.out r_)
noncomputable def ring_Port_Release (a0 : (Option Addr)) (a1 : Int) : M Int :=
  ring_Port_held a0 a1 >>= fun r1 =>
  if r1 ≠ 0 then
    pure r1
  else
    nilck a0 >>= fun p2 =>
    ld cL (Addr.add p2 4) >>= fun x3 =>
    idx x3.a x3.len a1 1 >>= fun p4 =>
    st (cI .i64) p4 1 >>= fun _ =>
    nilck a0 >>= fun p5 =>
    ring_line_join (some (Addr.add p5 6)) a1 >>= fun r6 =>
    pure 0
theorem ring_Port_Release_ok (a0 : (Option Addr)) (a1 : Int) : Ref Try.prog 24 [.pointer a0, .int .i64 a1] (ring_Port_Release a0 a1) ring_Port_Release.out := by
  refine Ref.of (cd := ring_Port_Release.B) Try.func24 (by kernel_rfl) (by kernel_rfl) ?_
  show SJ ring_Port_Release.cx [.code ring_Port_Release.B] [(0, .pointer a0), (1, .int .i64 a1)] [] (ring_Port_Release a0 a1) ring_Port_Release.F0
  unfold ring_Port_Release
  refine SJ.seq (by kernel_rfl) ?_
  refine SJ.region (id := 0) (by kernel_rfl) [0] (by kernel_rfl) ?_
  refine OJ.run [0] [] [0, 1] (m2 := [(0, .pointer a0), (1, .int .i64 a1)]) (by kernel_rfl) (by kernel_rfl) ?_
  refine OJ.nil ?_
  refine SJ.seq (by kernel_rfl) ?_
  refine SJ.seq (by kernel_rfl) ?_
  refine SJ.region (id := 1) (by kernel_rfl) [0, 1, 2, 3] (by kernel_rfl) ?_
  refine OJ.run [0, 1] [2, 3] [0, 1, 6, 7] (m2 := [(0, .pointer a0), (1, .int .i64 a1), (6, .pointer a0), (7, .int .i64 a1)]) (by kernel_rfl) (by kernel_rfl) ?_
  refine OJ.call (d := 8) (g := 49) (ats := #[23, 3]) (args := [.tmp 6, .tmp 7]) (vals := [.pointer a0, .int .i64 a1]) (owed := []) (by kernel_rfl) F49 (by kernel_rfl) (ring_Port_held_ok a0 a1) (by kernel_rfl) (by kernel_rfl) (by kernel_rfl) (fun r1 => ?_)
  refine OW.nil ?_
  refine OJ.run [3] [] [0, 1, 5] (m2 := [(0, .pointer a0), (1, .int .i64 a1), (5, .int .i64 r1)]) (by kernel_rfl) (by kernel_rfl) ?_
  refine OJ.nil ?_
  refine SJ.seq (by kernel_rfl) ?_
  refine SJ.region (id := 2) (by kernel_rfl) [0, 1] (by kernel_rfl) ?_
  refine OJ.run [0, 1] [] [0, 1, 5, 10] (m2 := [(0, .pointer a0), (1, .int .i64 a1), (5, .int .i64 r1), (10, .bool (r1 != 0))]) (by kernel_rfl) (by kernel_rfl) ?_
  refine OJ.nil ?_
  refine SJ.cond (t := (.tmp 10)) (b := (r1 != 0)) (by kernel_rfl) (by kernel_rfl) bne_iff_ne (fun hc7 => ?_) (fun hc7 => ?_)
  · refine SJ.seq (by kernel_rfl) ?_
    refine SJ.region (id := 3) (by kernel_rfl) [0, 1] (by kernel_rfl) ?_
    refine OJ.run [0, 1] [] [4] (m2 := [(4, .int .i64 r1)]) (by kernel_rfl) (by kernel_rfl) ?_
    refine OJ.nil ?_
    exact SJ.ret (by kernel_rfl) rfl (Res.run (ys := [.int .i64 r1]) (.tmp (by kernel_rfl) .nil) rfl)
  · refine SJ.skip (by kernel_rfl) ?_
    refine SJ.seq (by kernel_rfl) ?_
    refine SJ.region (id := 4) (by kernel_rfl) [0, 1, 2, 3, 4, 5, 6] (by kernel_rfl) ?_
    refine OJ.run [0] [1, 2, 3, 4, 5, 6] [0, 1, 12] (m2 := [(0, .pointer a0), (1, .int .i64 a1), (12, .pointer a0)]) (by kernel_rfl) (by kernel_rfl) ?_
    refine OJ.nilck (d := 13) (y := .tmp 12) (by kernel_rfl) (by kernel_rfl) (by kernel_rfl) (by kernel_rfl) (by kernel_rfl) (fun p2 => ?_)
    refine OJ.run [2] [3, 4, 5, 6] [0, 1, 14] (m2 := [(0, .pointer a0), (1, .int .i64 a1), (14, .pointer (some (Addr.add p2 4)))]) (by kernel_rfl) (by kernel_rfl) ?_
    refine OJ.ld (d := 15) (T := 67) (y := .tmp 14) (pend2 := fun x3 => []) (by kernel_rfl) (by kernel_rfl) Ty67 (by kernel_rfl) (by kernel_rfl) (fun _ => rfl) (fun x3 => ?_)
    refine OJ.run [4] [5, 6] [0, 1, 15, 16] (m2 := [(0, .pointer a0), (1, .int .i64 a1), (15, Sl.v x3), (16, .int .i64 a1)]) (by kernel_rfl) (by kernel_rfl) ?_
    refine OJ.idxS (d := 17) (T := 67) (y := .tmp 15) (j := .tmp 16) (E := 3) (cap := x3.cap) (k := .i64) (by kernel_rfl) (by kernel_rfl) (by kernel_rfl) (by kernel_rfl) (by kernel_rfl) (by kernel_rfl) (by kernel_rfl) (by kernel_rfl) (fun p4 => ?_)
    refine OJ.st (T := 3) (y := .tmp 17) (z := .const (.int .i64 1)) (owed := []) (by kernel_rfl) (by kernel_rfl) (by kernel_rfl) Ty3 (by kernel_rfl) (by kernel_rfl) ?_
    refine OW.nil ?_
    refine OJ.nil ?_
    refine SJ.seq (by kernel_rfl) ?_
    refine SJ.region (id := 5) (by kernel_rfl) [0, 1, 2, 3, 4] (by kernel_rfl) ?_
    refine OJ.run [0] [1, 2, 3, 4] [1, 18] (m2 := [(1, .int .i64 a1), (18, .pointer a0)]) (by kernel_rfl) (by kernel_rfl) ?_
    refine OJ.nilck (d := 19) (y := .tmp 18) (by kernel_rfl) (by kernel_rfl) (by kernel_rfl) (by kernel_rfl) (by kernel_rfl) (fun p5 => ?_)
    refine OJ.run [2, 3] [4] [20, 21] (m2 := [(20, .pointer (some (Addr.add p5 6))), (21, .int .i64 a1)]) (by kernel_rfl) (by kernel_rfl) ?_
    refine OJ.call (d := 22) (g := 45) (ats := #[86, 3]) (args := [.tmp 20, .tmp 21]) (vals := [.pointer (some (Addr.add p5 6)), .int .i64 a1]) (owed := []) (by kernel_rfl) F45 (by kernel_rfl) (ring_line_join_ok (some (Addr.add p5 6)) a1) (by kernel_rfl) (by kernel_rfl) (by kernel_rfl) (fun r6 => ?_)
    refine OW.nil ?_
    refine OJ.nil ?_
    refine SJ.seq (by kernel_rfl) ?_
    refine SJ.region (id := 6) (by kernel_rfl) [0] (by kernel_rfl) ?_
    refine OJ.run [0] [] [4] (m2 := [(4, .int .i64 0)]) (by kernel_rfl) (by kernel_rfl) ?_
    refine OJ.nil ?_
    exact SJ.ret (by kernel_rfl) rfl (Res.run (ys := [.int .i64 0]) (.tmp (by kernel_rfl) .nil) rfl)

/-! ### (*weir/ring.Port).Send: function 21 -/
noncomputable def ring_Port_Send.B : Code := (Try.f21.body).getD .skip
noncomputable def ring_Port_Send.cx : Fx := ⟨Try.prog, 21, Try.f21⟩
noncomputable def ring_Port_Send.out (r_ : Int) : Value := .int .i64 r_
noncomputable def ring_Port_Send.F0 (r_ : Int) : Reach := .ret (ring_Port_Send.out r_)
noncomputable def ring_Port_Send (a0 : (Option Addr)) (a1 : Int) (a2 : Int) : M Int :=
  (if a1 < 0 then
      pure true
    else
      nilck a0 >>= fun p1 =>
      ld cL (Addr.add p1 4) >>= fun x2 =>
      pure (decide (a1 ≥ (x2.len : Int)))) >>= fun y3 =>
  (if y3 = true then
      pure true
    else
      pure (decide (a2 < 0))) >>= fun y4 =>
  (if y4 = true then
      pure true
    else
      nilck a0 >>= fun p5 =>
      ld (cI .i64) p5 >>= fun x6 =>
      pure (decide (a2 > x6))) >>= fun y7 =>
  if y7 = true then
    pure 1
  else
    ring_Port_held a0 a1 >>= fun r8 =>
    if r8 ≠ 0 then
      pure r8
    else
      draw >>= fun _ =>
      nilck a0 >>= fun p9 =>
      ld (cI .i64) (Addr.add (Addr.add p9 15) 2) >>= fun x10 =>
      nilck a0 >>= fun p11 =>
      ld (cI .i64) (Addr.add p11 2) >>= fun x12 =>
      if x10 = x12 then
        pure 32
      else
        draw >>= fun _ =>
        nilck a0 >>= fun p13 =>
        ld cL (Addr.add p13 4) >>= fun x14 =>
        nilck a0 >>= fun p15 =>
        ld cL (Addr.add p15 5) >>= fun x16 =>
        idx x14.a x14.len a1 1 >>= fun p17 =>
        st (cI .i64) p17 5 >>= fun _ =>
        idx x16.a x16.len a1 1 >>= fun p18 =>
        st (cI .i64) p18 a2 >>= fun _ =>
        nilck a0 >>= fun p19 =>
        ring_line_join (some (Addr.add p19 15)) a1 >>= fun r20 =>
        pure 0
theorem ring_Port_Send_ok (a0 : (Option Addr)) (a1 : Int) (a2 : Int) : Ref Try.prog 21 [.pointer a0, .int .i64 a1, .int .i64 a2] (ring_Port_Send a0 a1 a2) ring_Port_Send.out := by
  refine Ref.of (cd := ring_Port_Send.B) Try.func21 (by kernel_rfl) (by kernel_rfl) ?_
  show SJ ring_Port_Send.cx [.code ring_Port_Send.B] [(0, .pointer a0), (1, .int .i64 a1), (2, .int .i64 a2)] [] (ring_Port_Send a0 a1 a2) ring_Port_Send.F0
  unfold ring_Port_Send
  refine SJ.seq (by kernel_rfl) ?_
  refine SJ.region (id := 0) (by kernel_rfl) [0] (by kernel_rfl) ?_
  refine OJ.run [0] [] [0, 1, 2] (m2 := [(0, .pointer a0), (1, .int .i64 a1), (2, .int .i64 a2)]) (by kernel_rfl) (by kernel_rfl) ?_
  refine OJ.nil ?_
  refine SJ.seq (by kernel_rfl) ?_
  refine SJ.seq (by kernel_rfl) ?_
  refine SJ.region (id := 1) (by kernel_rfl) [0, 1, 2, 3, 4, 5, 6, 7, 8, 9, 10, 11, 12, 13, 14, 15, 16, 17, 18, 19, 20, 21, 22] (by kernel_rfl) ?_
  refine OJ.run [0, 1, 2] [3, 4, 5, 6, 7, 8, 9, 10, 11, 12, 13, 14, 15, 16, 17, 18, 19, 20, 21, 22] [0, 1, 2, 10] (m2 := [(0, .pointer a0), (1, .int .i64 a1), (2, .int .i64 a2), (10, .bool (decide (a1 < 0)))]) (by kernel_rfl) (by kernel_rfl) ?_
  refine OJ.join (b := decide (a1 < 0)) [3, 4, 5, 6, 7, 8, 9, 10] [11, 12, 13, 14, 15, 16, 17, 18, 19, 20, 21, 22] [0, 1, 2, 18] (fun y3 => [(0, .pointer a0), (1, .int .i64 a1), (2, .int .i64 a2), (18, .bool y3)]) [] [] (by kernel_rfl) (t := 10) (by kernel_rfl) decide_eq_true_iff (fun hp_ => ?_) (fun hp_ => ?_) (by kernel_rfl) (fun _ _ _ _ _ _ h_ => h_) (fun y3 => ?_)
  · refine OJ.run [3, 4, 5, 6, 7, 8, 9, 10] [] [0, 1, 2, 18] (m2 := [(0, .pointer a0), (1, .int .i64 a1), (2, .int .i64 a2), (18, .bool true)]) (by kernel_rfl) (by kernel_rfl) ?_
    exact OJ.nil ⟨(Cov.mem Cov.nil), rfl, _, rfl, by kernel_rfl⟩
  · refine OJ.run [3, 4] [5, 6, 7, 8, 9, 10] [0, 1, 2, 10, 11, 12] (m2 := [(0, .pointer a0), (1, .int .i64 a1), (2, .int .i64 a2), (10, .bool false), (11, .int .i64 a1), (12, .pointer a0)]) (by kernel_rfl) (by kernel_rfl) ?_
    refine OJ.nilck (d := 13) (y := .tmp 12) (by kernel_rfl) (by kernel_rfl) (by kernel_rfl) (by kernel_rfl) (by kernel_rfl) (fun p1 => ?_)
    refine OJ.run [6] [7, 8, 9, 10] [0, 1, 2, 10, 11, 14] (m2 := [(0, .pointer a0), (1, .int .i64 a1), (2, .int .i64 a2), (10, .bool false), (11, .int .i64 a1), (14, .pointer (some (Addr.add p1 4)))]) (by kernel_rfl) (by kernel_rfl) ?_
    refine OJ.ld (d := 15) (T := 67) (y := .tmp 14) (pend2 := fun x2 => []) (by kernel_rfl) (by kernel_rfl) Ty67 (by kernel_rfl) (by kernel_rfl) (fun _ => rfl) (fun x2 => ?_)
    refine OJ.run [8, 9, 10] [] [0, 1, 2, 18] (m2 := [(0, .pointer a0), (1, .int .i64 a1), (2, .int .i64 a2), (18, .bool (decide (a1 ≥ (x2.len : Int))))]) (by kernel_rfl) (by kernel_rfl) ?_
    exact OJ.nil ⟨(Cov.mem Cov.nil), rfl, _, rfl, by kernel_rfl⟩
  · refine OJ.run [11] [12, 13, 14, 15, 16, 17, 18, 19, 20, 21, 22] [0, 1, 2, 19] (m2 := [(0, .pointer a0), (1, .int .i64 a1), (2, .int .i64 a2), (19, .bool y3)]) (by kernel_rfl) (by kernel_rfl) ?_
    refine OJ.join (b := y3) [12, 13, 14] [15, 16, 17, 18, 19, 20, 21, 22] [0, 1, 2, 22] (fun y4 => [(0, .pointer a0), (1, .int .i64 a1), (2, .int .i64 a2), (22, .bool y4)]) [] [] (by kernel_rfl) (t := 19) (by kernel_rfl) Iff.rfl (fun hp_ => ?_) (fun hp_ => ?_) (by kernel_rfl) (fun _ _ _ _ _ _ h_ => h_) (fun y4 => ?_)
    · refine OJ.run [12, 13, 14] [] [0, 1, 2, 22] (m2 := [(0, .pointer a0), (1, .int .i64 a1), (2, .int .i64 a2), (22, .bool true)]) (by kernel_rfl) (by kernel_rfl) ?_
      exact OJ.nil ⟨(Cov.mem Cov.nil), rfl, _, rfl, by kernel_rfl⟩
    · refine OJ.run [12, 13, 14] [] [0, 1, 2, 22] (m2 := [(0, .pointer a0), (1, .int .i64 a1), (2, .int .i64 a2), (22, .bool (decide (a2 < 0)))]) (by kernel_rfl) (by kernel_rfl) ?_
      exact OJ.nil ⟨(Cov.mem Cov.nil), rfl, _, rfl, by kernel_rfl⟩
    · refine OJ.run [15] [16, 17, 18, 19, 20, 21, 22] [0, 1, 2, 23] (m2 := [(0, .pointer a0), (1, .int .i64 a1), (2, .int .i64 a2), (23, .bool y4)]) (by kernel_rfl) (by kernel_rfl) ?_
      refine OJ.join (b := y4) [16, 17, 18, 19, 20, 21, 22] [] [0, 1, 2, 30] (fun y7 => [(0, .pointer a0), (1, .int .i64 a1), (2, .int .i64 a2), (30, .bool y7)]) [] [] (by kernel_rfl) (t := 23) (by kernel_rfl) Iff.rfl (fun hp_ => ?_) (fun hp_ => ?_) (by kernel_rfl) (fun _ _ _ _ _ _ h_ => h_) (fun y7 => ?_)
      · refine OJ.run [16, 17, 18, 19, 20, 21, 22] [] [0, 1, 2, 30] (m2 := [(0, .pointer a0), (1, .int .i64 a1), (2, .int .i64 a2), (30, .bool true)]) (by kernel_rfl) (by kernel_rfl) ?_
        exact OJ.nil ⟨(Cov.mem Cov.nil), rfl, _, rfl, by kernel_rfl⟩
      · refine OJ.run [16, 17] [18, 19, 20, 21, 22] [0, 1, 2, 23, 24, 25] (m2 := [(0, .pointer a0), (1, .int .i64 a1), (2, .int .i64 a2), (23, .bool false), (24, .int .i64 a2), (25, .pointer a0)]) (by kernel_rfl) (by kernel_rfl) ?_
        refine OJ.nilck (d := 26) (y := .tmp 25) (by kernel_rfl) (by kernel_rfl) (by kernel_rfl) (by kernel_rfl) (by kernel_rfl) (fun p5 => ?_)
        refine OJ.run [19] [20, 21, 22] [0, 1, 2, 23, 24, 27] (m2 := [(0, .pointer a0), (1, .int .i64 a1), (2, .int .i64 a2), (23, .bool false), (24, .int .i64 a2), (27, .pointer (some p5))]) (by kernel_rfl) (by kernel_rfl) ?_
        refine OJ.ld (d := 28) (T := 3) (y := .tmp 27) (pend2 := fun x6 => []) (by kernel_rfl) (by kernel_rfl) Ty3 (by kernel_rfl) (by kernel_rfl) (fun _ => rfl) (fun x6 => ?_)
        refine OJ.run [21, 22] [] [0, 1, 2, 30] (m2 := [(0, .pointer a0), (1, .int .i64 a1), (2, .int .i64 a2), (30, .bool (decide (a2 > x6)))]) (by kernel_rfl) (by kernel_rfl) ?_
        exact OJ.nil ⟨(Cov.mem Cov.nil), rfl, _, rfl, by kernel_rfl⟩
      · refine OJ.nil ?_
        refine SJ.cond (t := (.tmp 30)) (b := y7) (by kernel_rfl) (by kernel_rfl) Iff.rfl (fun hc23 => ?_) (fun hc23 => ?_)
        · refine SJ.seq (by kernel_rfl) ?_
          refine SJ.region (id := 2) (by kernel_rfl) [0] (by kernel_rfl) ?_
          refine OJ.run [0] [] [6] (m2 := [(6, .int .i64 1)]) (by kernel_rfl) (by kernel_rfl) ?_
          refine OJ.nil ?_
          exact SJ.ret (by kernel_rfl) rfl (Res.run (ys := [.int .i64 1]) (.tmp (by kernel_rfl) .nil) rfl)
        · refine SJ.skip (by kernel_rfl) ?_
          refine SJ.seq (by kernel_rfl) ?_
          refine SJ.seq (by kernel_rfl) ?_
          refine SJ.region (id := 3) (by kernel_rfl) [0, 1, 2, 3] (by kernel_rfl) ?_
          refine OJ.run [0, 1] [2, 3] [0, 1, 2, 31, 32] (m2 := [(0, .pointer a0), (1, .int .i64 a1), (2, .int .i64 a2), (31, .pointer a0), (32, .int .i64 a1)]) (by kernel_rfl) (by kernel_rfl) ?_
          refine OJ.call (d := 33) (g := 49) (ats := #[23, 3]) (args := [.tmp 31, .tmp 32]) (vals := [.pointer a0, .int .i64 a1]) (owed := []) (by kernel_rfl) F49 (by kernel_rfl) (ring_Port_held_ok a0 a1) (by kernel_rfl) (by kernel_rfl) (by kernel_rfl) (fun r8 => ?_)
          refine OW.nil ?_
          refine OJ.run [3] [] [0, 1, 2, 7] (m2 := [(0, .pointer a0), (1, .int .i64 a1), (2, .int .i64 a2), (7, .int .i64 r8)]) (by kernel_rfl) (by kernel_rfl) ?_
          refine OJ.nil ?_
          refine SJ.seq (by kernel_rfl) ?_
          refine SJ.region (id := 4) (by kernel_rfl) [0, 1] (by kernel_rfl) ?_
          refine OJ.run [0, 1] [] [0, 1, 2, 7, 35] (m2 := [(0, .pointer a0), (1, .int .i64 a1), (2, .int .i64 a2), (7, .int .i64 r8), (35, .bool (r8 != 0))]) (by kernel_rfl) (by kernel_rfl) ?_
          refine OJ.nil ?_
          refine SJ.cond (t := (.tmp 35)) (b := (r8 != 0)) (by kernel_rfl) (by kernel_rfl) bne_iff_ne (fun hc22 => ?_) (fun hc22 => ?_)
          · refine SJ.seq (by kernel_rfl) ?_
            refine SJ.region (id := 5) (by kernel_rfl) [0, 1] (by kernel_rfl) ?_
            refine OJ.run [0, 1] [] [6] (m2 := [(6, .int .i64 r8)]) (by kernel_rfl) (by kernel_rfl) ?_
            refine OJ.nil ?_
            exact SJ.ret (by kernel_rfl) rfl (Res.run (ys := [.int .i64 r8]) (.tmp (by kernel_rfl) .nil) rfl)
          · refine SJ.skip (by kernel_rfl) ?_
            refine SJ.seq (by kernel_rfl) ?_
            refine SJ.seq (by kernel_rfl) ?_
            refine SJ.draw (id := 6) (kd := [0, 0, 0, 0, 1, 0, 0, 0, 1, 0]) (bef := [0, 1, 3, 7, 15, 0, 32, 96, 224, 511]) (ord := [0, 1, 2, 3, 4, 5, 6, 7, 8, 9]) (by kernel_rfl) mixed (by kernel_rfl) ?_
            refine OJ.run [0] [1, 2, 3, 4, 5, 6, 7, 8, 9] [0, 1, 2, 37] (m2 := [(0, .pointer a0), (1, .int .i64 a1), (2, .int .i64 a2), (37, .pointer a0)]) (by kernel_rfl) (by kernel_rfl) ?_
            refine OJ.nilck (d := 38) (y := .tmp 37) (by kernel_rfl) (by kernel_rfl) (by kernel_rfl) (by kernel_rfl) (by kernel_rfl) (fun p9 => ?_)
            refine OJ.run [2, 3] [4, 5, 6, 7, 8, 9] [0, 1, 2, 40] (m2 := [(0, .pointer a0), (1, .int .i64 a1), (2, .int .i64 a2), (40, .pointer (some (Addr.add (Addr.add p9 15) 2)))]) (by kernel_rfl) (by kernel_rfl) ?_
            refine OJ.ld (d := 41) (T := 3) (y := .tmp 40) (pend2 := fun x10 => [⟨4, 3, (Addr.add (Addr.add p9 15) 2), (cI .i64).val x10⟩]) (by kernel_rfl) (by kernel_rfl) Ty3 (by kernel_rfl) (by kernel_rfl) (fun _ => rfl) (fun x10 => ?_)
            refine OJ.run [5] [6, 7, 8, 9] [0, 1, 2, 41, 42] (m2 := [(0, .pointer a0), (1, .int .i64 a1), (2, .int .i64 a2), (41, .int .i64 x10), (42, .pointer a0)]) (by kernel_rfl) (by kernel_rfl) ?_
            refine OJ.nilck (d := 43) (y := .tmp 42) (by kernel_rfl) (by kernel_rfl) (by kernel_rfl) (by kernel_rfl) (by kernel_rfl) (fun p11 => ?_)
            refine OJ.run [7] [8, 9] [0, 1, 2, 41, 44] (m2 := [(0, .pointer a0), (1, .int .i64 a1), (2, .int .i64 a2), (41, .int .i64 x10), (44, .pointer (some (Addr.add p11 2)))]) (by kernel_rfl) (by kernel_rfl) ?_
            refine OJ.ld (d := 45) (T := 3) (y := .tmp 44) (pend2 := fun x12 => [⟨8, 3, (Addr.add p11 2), (cI .i64).val x12⟩, ⟨4, 3, (Addr.add (Addr.add p9 15) 2), (cI .i64).val x10⟩]) (by kernel_rfl) (by kernel_rfl) Ty3 (by kernel_rfl) (by kernel_rfl) (fun _ => rfl) (fun x12 => ?_)
            refine OJ.run [9] [] [0, 1, 2, 46] (m2 := [(0, .pointer a0), (1, .int .i64 a1), (2, .int .i64 a2), (46, .bool (x10 == x12))]) (by kernel_rfl) (by kernel_rfl) ?_
            refine OJ.nil ?_
            refine SJ.cond (t := (.tmp 46)) (b := (x10 == x12)) (by kernel_rfl) (by kernel_rfl) beq_iff_eq (fun hc21 => ?_) (fun hc21 => ?_)
            · refine SJ.seq (by kernel_rfl) ?_
              refine SJ.region (id := 7) (by kernel_rfl) [0] (by kernel_rfl) ?_
              refine OJ.run [0] [] [6] (m2 := [(6, .int .i64 32)]) (by kernel_rfl) (by kernel_rfl) ?_
              refine OJ.nil ?_
              exact SJ.ret (by kernel_rfl) rfl (Res.run (ys := [.int .i64 32]) (.tmp (by kernel_rfl) .nil) rfl)
            · refine SJ.skip (by kernel_rfl) ?_
              refine SJ.seq (by kernel_rfl) ?_
              refine SJ.draw (id := 8) (kd := [0, 0, 0, 1, 0, 0, 0, 0, 1, 0, 0, 0, 2, 0, 2]) (bef := [0, 1, 3, 7, 0, 0, 32, 96, 224, 0, 0, 511, 2559, 8191, 16383]) (ord := [0, 1, 2, 3, 4, 5, 6, 7, 8, 9, 10, 11, 12, 13, 14]) (by kernel_rfl) mixed (by kernel_rfl) ?_
              refine OJ.run [0] [1, 2, 3, 4, 5, 6, 7, 8, 9, 10, 11, 12, 13, 14] [0, 1, 2, 47] (m2 := [(0, .pointer a0), (1, .int .i64 a1), (2, .int .i64 a2), (47, .pointer a0)]) (by kernel_rfl) (by kernel_rfl) ?_
              refine OJ.nilck (d := 48) (y := .tmp 47) (by kernel_rfl) (by kernel_rfl) (by kernel_rfl) (by kernel_rfl) (by kernel_rfl) (fun p13 => ?_)
              refine OJ.run [2] [3, 4, 5, 6, 7, 8, 9, 10, 11, 12, 13, 14] [0, 1, 2, 49] (m2 := [(0, .pointer a0), (1, .int .i64 a1), (2, .int .i64 a2), (49, .pointer (some (Addr.add p13 4)))]) (by kernel_rfl) (by kernel_rfl) ?_
              refine OJ.ld (d := 50) (T := 67) (y := .tmp 49) (pend2 := fun x14 => [⟨3, 67, (Addr.add p13 4), cL.val x14⟩]) (by kernel_rfl) (by kernel_rfl) Ty67 (by kernel_rfl) (by kernel_rfl) (fun _ => rfl) (fun x14 => ?_)
              refine OJ.run [4, 5] [6, 7, 8, 9, 10, 11, 12, 13, 14] [0, 1, 2, 50, 51, 52] (m2 := [(0, .pointer a0), (1, .int .i64 a1), (2, .int .i64 a2), (50, Sl.v x14), (51, .int .i64 a1), (52, .pointer a0)]) (by kernel_rfl) (by kernel_rfl) ?_
              refine OJ.nilck (d := 53) (y := .tmp 52) (by kernel_rfl) (by kernel_rfl) (by kernel_rfl) (by kernel_rfl) (by kernel_rfl) (fun p15 => ?_)
              refine OJ.run [7] [8, 9, 10, 11, 12, 13, 14] [0, 1, 2, 50, 51, 54] (m2 := [(0, .pointer a0), (1, .int .i64 a1), (2, .int .i64 a2), (50, Sl.v x14), (51, .int .i64 a1), (54, .pointer (some (Addr.add p15 5)))]) (by kernel_rfl) (by kernel_rfl) ?_
              refine OJ.ld (d := 55) (T := 67) (y := .tmp 54) (pend2 := fun x16 => [⟨8, 67, (Addr.add p15 5), cL.val x16⟩, ⟨3, 67, (Addr.add p13 4), cL.val x14⟩]) (by kernel_rfl) (by kernel_rfl) Ty67 (by kernel_rfl) (by kernel_rfl) (fun _ => rfl) (fun x16 => ?_)
              refine OJ.run [9, 10] [11, 12, 13, 14] [0, 1, 50, 51, 55, 56, 57] (m2 := [(0, .pointer a0), (1, .int .i64 a1), (50, Sl.v x14), (51, .int .i64 a1), (55, Sl.v x16), (56, .int .i64 a1), (57, .int .i64 a2)]) (by kernel_rfl) (by kernel_rfl) ?_
              refine OJ.idxS (d := 58) (T := 67) (y := .tmp 50) (j := .tmp 51) (E := 3) (cap := x14.cap) (k := .i64) (by kernel_rfl) (by kernel_rfl) (by kernel_rfl) (by kernel_rfl) (by kernel_rfl) (by kernel_rfl) (by kernel_rfl) (by kernel_rfl) (fun p17 => ?_)
              refine OJ.st (T := 3) (y := .tmp 58) (z := .const (.int .i64 5)) (owed := []) (by kernel_rfl) (by kernel_rfl) (by kernel_rfl) Ty3 (by kernel_rfl) (by kernel_rfl) ?_
              refine OW.nil ?_
              refine OJ.idxS (d := 59) (T := 67) (y := .tmp 55) (j := .tmp 56) (E := 3) (cap := x16.cap) (k := .i64) (by kernel_rfl) (by kernel_rfl) (by kernel_rfl) (by kernel_rfl) (by kernel_rfl) (by kernel_rfl) (by kernel_rfl) (by kernel_rfl) (fun p18 => ?_)
              refine OJ.st (T := 3) (y := .tmp 59) (z := .tmp 57) (owed := []) (by kernel_rfl) (by kernel_rfl) (by kernel_rfl) Ty3 (by kernel_rfl) (by kernel_rfl) ?_
              refine OW.nil ?_
              refine OJ.nil ?_
              refine SJ.seq (by kernel_rfl) ?_
              refine SJ.region (id := 9) (by kernel_rfl) [0, 1, 2, 3, 4] (by kernel_rfl) ?_
              refine OJ.run [0] [1, 2, 3, 4] [1, 60] (m2 := [(1, .int .i64 a1), (60, .pointer a0)]) (by kernel_rfl) (by kernel_rfl) ?_
              refine OJ.nilck (d := 61) (y := .tmp 60) (by kernel_rfl) (by kernel_rfl) (by kernel_rfl) (by kernel_rfl) (by kernel_rfl) (fun p19 => ?_)
              refine OJ.run [2, 3] [4] [62, 63] (m2 := [(62, .pointer (some (Addr.add p19 15))), (63, .int .i64 a1)]) (by kernel_rfl) (by kernel_rfl) ?_
              refine OJ.call (d := 64) (g := 45) (ats := #[86, 3]) (args := [.tmp 62, .tmp 63]) (vals := [.pointer (some (Addr.add p19 15)), .int .i64 a1]) (owed := []) (by kernel_rfl) F45 (by kernel_rfl) (ring_line_join_ok (some (Addr.add p19 15)) a1) (by kernel_rfl) (by kernel_rfl) (by kernel_rfl) (fun r20 => ?_)
              refine OW.nil ?_
              refine OJ.nil ?_
              refine SJ.seq (by kernel_rfl) ?_
              refine SJ.region (id := 10) (by kernel_rfl) [0] (by kernel_rfl) ?_
              refine OJ.run [0] [] [6] (m2 := [(6, .int .i64 0)]) (by kernel_rfl) (by kernel_rfl) ?_
              refine OJ.nil ?_
              exact SJ.ret (by kernel_rfl) rfl (Res.run (ys := [.int .i64 0]) (.tmp (by kernel_rfl) .nil) rfl)

/-! ### (*weir/ring.Port).Drain: function 22 -/
noncomputable def ring_Port_Drain.B : Code := (Try.f22.body).getD .skip
noncomputable def ring_Port_Drain.cx : Fx := ⟨Try.prog, 22, Try.f22⟩
noncomputable def ring_Port_Drain.out (r_ : (Sl × Bool)) : Value := .tuple #[Sl.v r_.1, .bool r_.2]
noncomputable def ring_Port_Drain.F0 (r_ : (Sl × Bool)) : Reach := .ret (ring_Port_Drain.out r_)
noncomputable def ring_Port_Drain (a0 : (Option Addr)) : M (Sl × Bool) :=
  nilck a0 >>= fun p1 =>
  ld (cI .i64) (Addr.add (Addr.add p1 15) 2) >>= fun x2 =>
  if x2 = 0 then
    pure (Sl.nil, false)
  else
    nilck a0 >>= fun p3 =>
    ring_line_leave (some (Addr.add p3 15)) >>= fun r4 =>
    nilck a0 >>= fun p5 =>
    ld cL (Addr.add p5 5) >>= fun x6 =>
    idx x6.a x6.len r4 1 >>= fun p7 =>
    ld (cI .i64) p7 >>= fun x8 =>
    mkS (cI .u8) 5 1 0 x8 x8 >>= fun r9 =>
    ring_Port_bytes a0 r4 >>= fun r10 =>
    cpyS (cI .u8) r9 r10 >>= fun r11 =>
    nilck a0 >>= fun p12 =>
    ld cL (Addr.add p12 4) >>= fun x13 =>
    idx x13.a x13.len r4 1 >>= fun p14 =>
    st (cI .i64) p14 1 >>= fun _ =>
    nilck a0 >>= fun p15 =>
    ring_line_join (some (Addr.add p15 6)) r4 >>= fun r16 =>
    pure (r9, true)
theorem ring_Port_Drain_ok (a0 : (Option Addr)) : Ref Try.prog 22 [.pointer a0] (ring_Port_Drain a0) ring_Port_Drain.out := by
  refine Ref.of (cd := ring_Port_Drain.B) Try.func22 (by kernel_rfl) (by kernel_rfl) ?_
  show SJ ring_Port_Drain.cx [.code ring_Port_Drain.B] [(0, .pointer a0)] [] (ring_Port_Drain a0) ring_Port_Drain.F0
  unfold ring_Port_Drain
  refine SJ.seq (by kernel_rfl) ?_
  refine SJ.region (id := 0) (by kernel_rfl) [0, 1] (by kernel_rfl) ?_
  refine OJ.run [0, 1] [] [0] (m2 := [(0, .pointer a0)]) (by kernel_rfl) (by kernel_rfl) ?_
  refine OJ.nil ?_
  refine SJ.seq (by kernel_rfl) ?_
  refine SJ.seq (by kernel_rfl) ?_
  refine SJ.region (id := 1) (by kernel_rfl) [0, 1, 2, 3, 4, 5] (by kernel_rfl) ?_
  refine OJ.run [0] [1, 2, 3, 4, 5] [0, 6] (m2 := [(0, .pointer a0), (6, .pointer a0)]) (by kernel_rfl) (by kernel_rfl) ?_
  refine OJ.nilck (d := 7) (y := .tmp 6) (by kernel_rfl) (by kernel_rfl) (by kernel_rfl) (by kernel_rfl) (by kernel_rfl) (fun p1 => ?_)
  refine OJ.run [2, 3] [4, 5] [0, 9] (m2 := [(0, .pointer a0), (9, .pointer (some (Addr.add (Addr.add p1 15) 2)))]) (by kernel_rfl) (by kernel_rfl) ?_
  refine OJ.ld (d := 10) (T := 3) (y := .tmp 9) (pend2 := fun x2 => []) (by kernel_rfl) (by kernel_rfl) Ty3 (by kernel_rfl) (by kernel_rfl) (fun _ => rfl) (fun x2 => ?_)
  refine OJ.run [5] [] [0, 11] (m2 := [(0, .pointer a0), (11, .bool (x2 == 0))]) (by kernel_rfl) (by kernel_rfl) ?_
  refine OJ.nil ?_
  refine SJ.cond (t := (.tmp 11)) (b := (x2 == 0)) (by kernel_rfl) (by kernel_rfl) beq_iff_eq (fun hc17 => ?_) (fun hc17 => ?_)
  · refine SJ.seq (by kernel_rfl) ?_
    refine SJ.region (id := 2) (by kernel_rfl) [0, 1] (by kernel_rfl) ?_
    refine OJ.run [0, 1] [] [2, 3] (m2 := [(2, Sl.v Sl.nil), (3, .bool false)]) (by kernel_rfl) (by kernel_rfl) ?_
    refine OJ.nil ?_
    exact SJ.ret (by kernel_rfl) rfl (Res.run (ys := [Sl.v Sl.nil, .bool false]) (.tmp (by kernel_rfl) (.tmp (by kernel_rfl) .nil)) rfl)
  · refine SJ.skip (by kernel_rfl) ?_
    refine SJ.seq (by kernel_rfl) ?_
    refine SJ.region (id := 3) (by kernel_rfl) [0, 1, 2, 3, 4] (by kernel_rfl) ?_
    refine OJ.run [0] [1, 2, 3, 4] [0, 12] (m2 := [(0, .pointer a0), (12, .pointer a0)]) (by kernel_rfl) (by kernel_rfl) ?_
    refine OJ.nilck (d := 13) (y := .tmp 12) (by kernel_rfl) (by kernel_rfl) (by kernel_rfl) (by kernel_rfl) (by kernel_rfl) (fun p3 => ?_)
    refine OJ.run [2] [3, 4] [0, 14] (m2 := [(0, .pointer a0), (14, .pointer (some (Addr.add p3 15)))]) (by kernel_rfl) (by kernel_rfl) ?_
    refine OJ.call (d := 15) (g := 46) (ats := #[86]) (args := [.tmp 14]) (vals := [.pointer (some (Addr.add p3 15))]) (owed := []) (by kernel_rfl) F46 (by kernel_rfl) (ring_line_leave_ok (some (Addr.add p3 15))) (by kernel_rfl) (by kernel_rfl) (by kernel_rfl) (fun r4 => ?_)
    refine OW.nil ?_
    refine OJ.run [4] [] [0, 4] (m2 := [(0, .pointer a0), (4, .int .i64 r4)]) (by kernel_rfl) (by kernel_rfl) ?_
    refine OJ.nil ?_
    refine SJ.seq (by kernel_rfl) ?_
    refine SJ.region (id := 4) (by kernel_rfl) [0, 1, 2, 3, 4, 5, 6, 7, 8] (by kernel_rfl) ?_
    refine OJ.run [0] [1, 2, 3, 4, 5, 6, 7, 8] [0, 4, 16] (m2 := [(0, .pointer a0), (4, .int .i64 r4), (16, .pointer a0)]) (by kernel_rfl) (by kernel_rfl) ?_
    refine OJ.nilck (d := 17) (y := .tmp 16) (by kernel_rfl) (by kernel_rfl) (by kernel_rfl) (by kernel_rfl) (by kernel_rfl) (fun p5 => ?_)
    refine OJ.run [2] [3, 4, 5, 6, 7, 8] [0, 4, 18] (m2 := [(0, .pointer a0), (4, .int .i64 r4), (18, .pointer (some (Addr.add p5 5)))]) (by kernel_rfl) (by kernel_rfl) ?_
    refine OJ.ld (d := 19) (T := 67) (y := .tmp 18) (pend2 := fun x6 => []) (by kernel_rfl) (by kernel_rfl) Ty67 (by kernel_rfl) (by kernel_rfl) (fun _ => rfl) (fun x6 => ?_)
    refine OJ.run [4] [5, 6, 7, 8] [0, 4, 19, 20] (m2 := [(0, .pointer a0), (4, .int .i64 r4), (19, Sl.v x6), (20, .int .i64 r4)]) (by kernel_rfl) (by kernel_rfl) ?_
    refine OJ.idxS (d := 21) (T := 67) (y := .tmp 19) (j := .tmp 20) (E := 3) (cap := x6.cap) (k := .i64) (by kernel_rfl) (by kernel_rfl) (by kernel_rfl) (by kernel_rfl) (by kernel_rfl) (by kernel_rfl) (by kernel_rfl) (by kernel_rfl) (fun p7 => ?_)
    refine OJ.ld (d := 22) (T := 3) (y := .tmp 21) (pend2 := fun x8 => []) (by kernel_rfl) (by kernel_rfl) Ty3 (by kernel_rfl) (by kernel_rfl) (fun _ => rfl) (fun x8 => ?_)
    refine OJ.mk (d := 23) (t := 22) (lo := .tmp 22) (ko := .tmp 22) (k1 := .i64) (k2 := .i64) (owed := []) (by kernel_rfl) (by kernel_rfl) Ty5 (by kernel_rfl) (by kernel_rfl) (by kernel_rfl) (by kernel_rfl) (by kernel_rfl) (by kernel_rfl) (fun r9 => ?_)
    refine OW.nil ?_
    refine OJ.run [8] [] [0, 4, 5] (m2 := [(0, .pointer a0), (4, .int .i64 r4), (5, Sl.v r9)]) (by kernel_rfl) (by kernel_rfl) ?_
    refine OJ.nil ?_
    refine SJ.seq (by kernel_rfl) ?_
    refine SJ.region (id := 5) (by kernel_rfl) [0, 1, 2, 3, 4] (by kernel_rfl) ?_
    refine OJ.run [0, 1, 2] [3, 4] [0, 4, 5, 24, 25, 26] (m2 := [(0, .pointer a0), (4, .int .i64 r4), (5, Sl.v r9), (24, Sl.v r9), (25, .pointer a0), (26, .int .i64 r4)]) (by kernel_rfl) (by kernel_rfl) ?_
    refine OJ.call (d := 27) (g := 47) (ats := #[23, 3]) (args := [.tmp 25, .tmp 26]) (vals := [.pointer a0, .int .i64 r4]) (owed := []) (by kernel_rfl) F47 (by kernel_rfl) (ring_Port_bytes_ok a0 r4) (by kernel_rfl) (by kernel_rfl) (by kernel_rfl) (fun r10 => ?_)
    refine OW.nil ?_
    refine OJ.cpy1 (n := 28) (t := 22) (u := 22) (so := .tmp 24) (xo := .tmp 27) (owed := []) (by kernel_rfl) (by kernel_rfl) Ty5 (by kernel_rfl) (by kernel_rfl) (by kernel_rfl) (by kernel_rfl) (by kernel_rfl) (fun r11 => ?_)
    refine OW.nil ?_
    refine OJ.nil ?_
    refine SJ.seq (by kernel_rfl) ?_
    refine SJ.region (id := 6) (by kernel_rfl) [0, 1, 2, 3, 4, 5, 6] (by kernel_rfl) ?_
    refine OJ.run [0] [1, 2, 3, 4, 5, 6] [0, 4, 5, 29] (m2 := [(0, .pointer a0), (4, .int .i64 r4), (5, Sl.v r9), (29, .pointer a0)]) (by kernel_rfl) (by kernel_rfl) ?_
    refine OJ.nilck (d := 30) (y := .tmp 29) (by kernel_rfl) (by kernel_rfl) (by kernel_rfl) (by kernel_rfl) (by kernel_rfl) (fun p12 => ?_)
    refine OJ.run [2] [3, 4, 5, 6] [0, 4, 5, 31] (m2 := [(0, .pointer a0), (4, .int .i64 r4), (5, Sl.v r9), (31, .pointer (some (Addr.add p12 4)))]) (by kernel_rfl) (by kernel_rfl) ?_
    refine OJ.ld (d := 32) (T := 67) (y := .tmp 31) (pend2 := fun x13 => []) (by kernel_rfl) (by kernel_rfl) Ty67 (by kernel_rfl) (by kernel_rfl) (fun _ => rfl) (fun x13 => ?_)
    refine OJ.run [4] [5, 6] [0, 4, 5, 32, 33] (m2 := [(0, .pointer a0), (4, .int .i64 r4), (5, Sl.v r9), (32, Sl.v x13), (33, .int .i64 r4)]) (by kernel_rfl) (by kernel_rfl) ?_
    refine OJ.idxS (d := 34) (T := 67) (y := .tmp 32) (j := .tmp 33) (E := 3) (cap := x13.cap) (k := .i64) (by kernel_rfl) (by kernel_rfl) (by kernel_rfl) (by kernel_rfl) (by kernel_rfl) (by kernel_rfl) (by kernel_rfl) (by kernel_rfl) (fun p14 => ?_)
    refine OJ.st (T := 3) (y := .tmp 34) (z := .const (.int .i64 1)) (owed := []) (by kernel_rfl) (by kernel_rfl) (by kernel_rfl) Ty3 (by kernel_rfl) (by kernel_rfl) ?_
    refine OW.nil ?_
    refine OJ.nil ?_
    refine SJ.seq (by kernel_rfl) ?_
    refine SJ.region (id := 7) (by kernel_rfl) [0, 1, 2, 3, 4] (by kernel_rfl) ?_
    refine OJ.run [0] [1, 2, 3, 4] [4, 5, 35] (m2 := [(4, .int .i64 r4), (5, Sl.v r9), (35, .pointer a0)]) (by kernel_rfl) (by kernel_rfl) ?_
    refine OJ.nilck (d := 36) (y := .tmp 35) (by kernel_rfl) (by kernel_rfl) (by kernel_rfl) (by kernel_rfl) (by kernel_rfl) (fun p15 => ?_)
    refine OJ.run [2, 3] [4] [5, 37, 38] (m2 := [(5, Sl.v r9), (37, .pointer (some (Addr.add p15 6))), (38, .int .i64 r4)]) (by kernel_rfl) (by kernel_rfl) ?_
    refine OJ.call (d := 39) (g := 45) (ats := #[86, 3]) (args := [.tmp 37, .tmp 38]) (vals := [.pointer (some (Addr.add p15 6)), .int .i64 r4]) (owed := []) (by kernel_rfl) F45 (by kernel_rfl) (ring_line_join_ok (some (Addr.add p15 6)) r4) (by kernel_rfl) (by kernel_rfl) (by kernel_rfl) (fun r16 => ?_)
    refine OW.nil ?_
    refine OJ.nil ?_
    refine SJ.seq (by kernel_rfl) ?_
    refine SJ.region (id := 8) (by kernel_rfl) [0, 1, 2] (by kernel_rfl) ?_
    refine OJ.run [0, 1, 2] [] [2, 3] (m2 := [(2, Sl.v r9), (3, .bool true)]) (by kernel_rfl) (by kernel_rfl) ?_
    refine OJ.nil ?_
    exact SJ.ret (by kernel_rfl) rfl (Res.run (ys := [Sl.v r9, .bool true]) (.tmp (by kernel_rfl) (.tmp (by kernel_rfl) .nil)) rfl)

/-! ### weir/weirlaw3.do: function 26 -/
noncomputable def weirlaw3_do.B : Code := (Try.f26.body).getD .skip
noncomputable def weirlaw3_do.cx : Fx := ⟨Try.prog, 26, Try.f26⟩
noncomputable def weirlaw3_do.out (r_ : Int) : Value := .int .i64 r_
noncomputable def weirlaw3_do.F0 (r_ : Int) : Reach := .ret (weirlaw3_do.out r_)
noncomputable def weirlaw3_do (a0 : (Option Addr)) (a1 : weirlaw3_Op) : M Int :=
  slot 45 >>= fun b1 =>
  if a1.Kind = 1 then
    ring_Port_Refill a0 a1.N >>= fun r506 =>
    pure 0
  else
    if a1.Kind = 2 then
      ring_Port_Arrive a0 a1.B >>= fun r758 =>
      weirlaw3_num r758 >>= fun r759 =>
      pure r759
    else
      if a1.Kind = 3 then
        ring_Port_Poll a0 >>= fun r884 =>
        pure 0
      else
        if a1.Kind = 4 then
          ring_Port_Take a0 >>= fun r946 =>
          weirlaw3_num r946.2.2 >>= fun r947 =>
          pure r947
        else
          if a1.Kind = 5 then
            ring_Port_Buffer a0 a1.I >>= fun r977 =>
            weirlaw3_num r977.2 >>= fun r978 =>
            pure r978
          else
            if a1.Kind = 6 then
              ring_Port_Release a0 a1.I >>= fun r992 =>
              weirlaw3_num r992 >>= fun r993 =>
              pure r993
            else
              if a1.Kind = 7 then
                ring_Port_Send a0 a1.I a1.N >>= fun r999 =>
                weirlaw3_num r999 >>= fun r1000 =>
                pure r1000
              else
                if a1.Kind = 8 then
                  ring_Port_Drain a0 >>= fun r1002 =>
                  pure 0
                else
                  pure 0
theorem weirlaw3_do_ok (a0 : (Option Addr)) (a1 : weirlaw3_Op) : Ref Try.prog 26 [.pointer a0, c_weirlaw3_Op.val a1] (weirlaw3_do a0 a1) weirlaw3_do.out := by
  refine Ref.of (cd := weirlaw3_do.B) Try.func26 (by kernel_rfl) (by kernel_rfl) ?_
  show SJ weirlaw3_do.cx [.code weirlaw3_do.B] [(0, .pointer a0), (1, c_weirlaw3_Op.val a1)] [] (weirlaw3_do a0 a1) weirlaw3_do.F0
  unfold weirlaw3_do
  refine SJ.seq (by kernel_rfl) ?_
  refine SJ.region (id := 0) (by kernel_rfl) [0, 1] (by kernel_rfl) ?_
  refine OJ.slotOf (d := 3) (op := (.box 45 (.tmp 1))) (cd := c_weirlaw3_Op) (u := a1) (owed := []) (by kernel_rfl) (box_run (by kernel_rfl)) (by kernel_rfl) (by kernel_rfl) (by kernel_rfl) (fun b1 => ?_)
  refine OW.nil ?_
  refine OJ.run [1] [] [0, 3] (m2 := [(0, .pointer a0), (3, .pointer (some (pt b1 0)))]) (by kernel_rfl) (by kernel_rfl) ?_
  refine OJ.nil ?_
  refine SJ.seq (by kernel_rfl) ?_
  refine SJ.seq (by kernel_rfl) ?_
  refine SJ.region (id := 1) (by kernel_rfl) [0, 1] (by kernel_rfl) ?_
  refine OJ.run [0] [1] [0, 3, 10] (m2 := [(0, .pointer a0), (3, .pointer (some (pt b1 0))), (10, .pointer (some (pt b1 0)))]) (by kernel_rfl) (by kernel_rfl) ?_
  refine OJ.kld (d := 11) (T := 3) (y := .tmp 10) (cd := (cI .i64)) (j := 0) (b := b1) (o := 0) a1.Kind (pend2 := []) (by kernel_rfl) (by kernel_rfl) Ty3 (by kernel_rfl) rfl (At_weirlaw3_Op_Kind a1) (by kernel_rfl) rfl ?_
  refine OJ.nil ?_
  refine SJ.block (id := 0) (by kernel_rfl) ?_
  refine SJ.seq (by kernel_rfl) ?_
  refine SJ.region (id := 2) (by kernel_rfl) [0, 1] (by kernel_rfl) ?_
  refine OJ.run [0, 1] [] [0, 3, 11, 12] (m2 := [(0, .pointer a0), (3, .pointer (some (pt b1 0))), (11, .int .i64 a1.Kind), (12, .bool (a1.Kind == 1))]) (by kernel_rfl) (by kernel_rfl) ?_
  refine OJ.nil ?_
  refine SJ.cond (t := (.tmp 12)) (b := (a1.Kind == 1)) (by kernel_rfl) (by kernel_rfl) beq_iff_eq (fun hc1010 => ?_) (fun hc1010 => ?_)
  · refine SJ.region (id := 3) (by kernel_rfl) [0, 1, 2, 3] (by kernel_rfl) ?_
    refine OJ.run [0, 1] [2, 3] [14, 15] (m2 := [(14, .pointer a0), (15, .pointer (some (pt b1 3)))]) (by kernel_rfl) (by kernel_rfl) ?_
    refine OJ.kld (d := 16) (T := 3) (y := .tmp 15) (cd := (cI .i64)) (j := 0) (b := b1) (o := 3) a1.N (pend2 := []) (by kernel_rfl) (by kernel_rfl) Ty3 (by kernel_rfl) rfl (At_weirlaw3_Op_N a1) (by kernel_rfl) rfl ?_
    refine OJ.call (d := 17) (g := 15) (ats := #[23, 3]) (args := [.tmp 14, .tmp 16]) (vals := [.pointer a0, .int .i64 a1.N]) (owed := []) (by kernel_rfl) F15 (by kernel_rfl) (ring_Port_Refill_ok a0 a1.N) (by kernel_rfl) (by kernel_rfl) (by kernel_rfl) (fun r506 => ?_)
    refine OW.nil ?_
    refine OJ.nil ?_
    refine SJ.inBlock ?_
    refine SJ.seq (by kernel_rfl) ?_
    refine SJ.region (id := 20) (by kernel_rfl) [0] (by kernel_rfl) ?_
    refine OJ.run [0] [] [4] (m2 := [(4, .int .i64 0)]) (by kernel_rfl) (by kernel_rfl) ?_
    refine OJ.nil ?_
    exact SJ.ret (by kernel_rfl) rfl (Res.run (ys := [.int .i64 0]) (.tmp (by kernel_rfl) .nil) rfl)
  · refine SJ.seq (by kernel_rfl) ?_
    refine SJ.region (id := 4) (by kernel_rfl) [0, 1] (by kernel_rfl) ?_
    refine OJ.run [0, 1] [] [0, 3, 11, 18] (m2 := [(0, .pointer a0), (3, .pointer (some (pt b1 0))), (11, .int .i64 a1.Kind), (18, .bool (a1.Kind == 2))]) (by kernel_rfl) (by kernel_rfl) ?_
    refine OJ.nil ?_
    refine SJ.cond (t := (.tmp 18)) (b := (a1.Kind == 2)) (by kernel_rfl) (by kernel_rfl) beq_iff_eq (fun hc1009 => ?_) (fun hc1009 => ?_)
    · refine SJ.seq (by kernel_rfl) ?_
      refine SJ.region (id := 5) (by kernel_rfl) [0, 1, 2, 3, 4, 5] (by kernel_rfl) ?_
      refine OJ.run [0, 1] [2, 3, 4, 5] [20, 21] (m2 := [(20, .pointer a0), (21, .pointer (some (pt b1 4)))]) (by kernel_rfl) (by kernel_rfl) ?_
      refine OJ.kld (d := 22) (T := 22) (y := .tmp 21) (cd := cL) (j := 0) (b := b1) (o := 4) a1.B (pend2 := []) (by kernel_rfl) (by kernel_rfl) Ty22 (by kernel_rfl) rfl (At_weirlaw3_Op_B a1) (by kernel_rfl) rfl ?_
      refine OJ.call (d := 23) (g := 16) (ats := #[23, 22]) (args := [.tmp 20, .tmp 22]) (vals := [.pointer a0, Sl.v a1.B]) (owed := []) (by kernel_rfl) F16 (by kernel_rfl) (ring_Port_Arrive_ok a0 a1.B) (by kernel_rfl) (by kernel_rfl) (by kernel_rfl) (fun r758 => ?_)
      refine OW.nil ?_
      refine OJ.call (d := 24) (g := 14) (ats := #[24]) (args := [.tmp 23]) (vals := [.int .i64 r758]) (owed := []) (by kernel_rfl) F14 (by kernel_rfl) (weirlaw3_num_ok r758) (by kernel_rfl) (by kernel_rfl) (by kernel_rfl) (fun r759 => ?_)
      refine OW.nil ?_
      refine OJ.run [5] [] [4] (m2 := [(4, .int .i64 r759)]) (by kernel_rfl) (by kernel_rfl) ?_
      refine OJ.nil ?_
      exact SJ.ret (by kernel_rfl) rfl (Res.run (ys := [.int .i64 r759]) (.tmp (by kernel_rfl) .nil) rfl)
    · refine SJ.seq (by kernel_rfl) ?_
      refine SJ.region (id := 6) (by kernel_rfl) [0, 1] (by kernel_rfl) ?_
      refine OJ.run [0, 1] [] [0, 3, 11, 25] (m2 := [(0, .pointer a0), (3, .pointer (some (pt b1 0))), (11, .int .i64 a1.Kind), (25, .bool (a1.Kind == 3))]) (by kernel_rfl) (by kernel_rfl) ?_
      refine OJ.nil ?_
      refine SJ.cond (t := (.tmp 25)) (b := (a1.Kind == 3)) (by kernel_rfl) (by kernel_rfl) beq_iff_eq (fun hc1008 => ?_) (fun hc1008 => ?_)
      · refine SJ.region (id := 7) (by kernel_rfl) [0, 1] (by kernel_rfl) ?_
        refine OJ.run [0] [1] [27] (m2 := [(27, .pointer a0)]) (by kernel_rfl) (by kernel_rfl) ?_
        refine OJ.call (d := 28) (g := 17) (ats := #[23]) (args := [.tmp 27]) (vals := [.pointer a0]) (owed := []) (by kernel_rfl) F17 (by kernel_rfl) (ring_Port_Poll_ok a0) (by kernel_rfl) (by kernel_rfl) (by kernel_rfl) (fun r884 => ?_)
        refine OW.nil ?_
        refine OJ.nil ?_
        refine SJ.inBlock ?_
        refine SJ.seq (by kernel_rfl) ?_
        refine SJ.region (id := 20) (by kernel_rfl) [0] (by kernel_rfl) ?_
        refine OJ.run [0] [] [4] (m2 := [(4, .int .i64 0)]) (by kernel_rfl) (by kernel_rfl) ?_
        refine OJ.nil ?_
        exact SJ.ret (by kernel_rfl) rfl (Res.run (ys := [.int .i64 0]) (.tmp (by kernel_rfl) .nil) rfl)
      · refine SJ.seq (by kernel_rfl) ?_
        refine SJ.region (id := 8) (by kernel_rfl) [0, 1] (by kernel_rfl) ?_
        refine OJ.run [0, 1] [] [0, 3, 11, 29] (m2 := [(0, .pointer a0), (3, .pointer (some (pt b1 0))), (11, .int .i64 a1.Kind), (29, .bool (a1.Kind == 4))]) (by kernel_rfl) (by kernel_rfl) ?_
        refine OJ.nil ?_
        refine SJ.cond (t := (.tmp 29)) (b := (a1.Kind == 4)) (by kernel_rfl) (by kernel_rfl) beq_iff_eq (fun hc1007 => ?_) (fun hc1007 => ?_)
        · refine SJ.seq (by kernel_rfl) ?_
          refine SJ.region (id := 9) (by kernel_rfl) [0, 1, 2, 3, 4, 5, 6, 7, 8] (by kernel_rfl) ?_
          refine OJ.run [0] [1, 2, 3, 4, 5, 6, 7, 8] [32] (m2 := [(32, .pointer a0)]) (by kernel_rfl) (by kernel_rfl) ?_
          refine OJ.call (d := 33) (g := 25) (ats := #[23]) (args := [.tmp 32]) (vals := [.pointer a0]) (owed := []) (by kernel_rfl) F25 (by kernel_rfl) (ring_Port_Take_ok a0) (by kernel_rfl) (by kernel_rfl) (by kernel_rfl) (fun r946 => ?_)
          refine OW.nil ?_
          refine OJ.run [2, 3, 4, 5, 6, 7, 8] [] [7] (m2 := [(7, .int .i64 r946.2.2)]) (by kernel_rfl) (by kernel_rfl) ?_
          refine OJ.nil ?_
          refine SJ.seq (by kernel_rfl) ?_
          refine SJ.region (id := 10) (by kernel_rfl) [0, 1, 2] (by kernel_rfl) ?_
          refine OJ.run [0] [1, 2] [37] (m2 := [(37, .int .i64 r946.2.2)]) (by kernel_rfl) (by kernel_rfl) ?_
          refine OJ.call (d := 38) (g := 14) (ats := #[24]) (args := [.tmp 37]) (vals := [.int .i64 r946.2.2]) (owed := []) (by kernel_rfl) F14 (by kernel_rfl) (weirlaw3_num_ok r946.2.2) (by kernel_rfl) (by kernel_rfl) (by kernel_rfl) (fun r947 => ?_)
          refine OW.nil ?_
          refine OJ.run [2] [] [4] (m2 := [(4, .int .i64 r947)]) (by kernel_rfl) (by kernel_rfl) ?_
          refine OJ.nil ?_
          exact SJ.ret (by kernel_rfl) rfl (Res.run (ys := [.int .i64 r947]) (.tmp (by kernel_rfl) .nil) rfl)
        · refine SJ.seq (by kernel_rfl) ?_
          refine SJ.region (id := 11) (by kernel_rfl) [0, 1] (by kernel_rfl) ?_
          refine OJ.run [0, 1] [] [0, 3, 11, 39] (m2 := [(0, .pointer a0), (3, .pointer (some (pt b1 0))), (11, .int .i64 a1.Kind), (39, .bool (a1.Kind == 5))]) (by kernel_rfl) (by kernel_rfl) ?_
          refine OJ.nil ?_
          refine SJ.cond (t := (.tmp 39)) (b := (a1.Kind == 5)) (by kernel_rfl) (by kernel_rfl) beq_iff_eq (fun hc1006 => ?_) (fun hc1006 => ?_)
          · refine SJ.seq (by kernel_rfl) ?_
            refine SJ.region (id := 12) (by kernel_rfl) [0, 1, 2, 3, 4, 5, 6, 7, 8] (by kernel_rfl) ?_
            refine OJ.run [0, 1] [2, 3, 4, 5, 6, 7, 8] [42, 43] (m2 := [(42, .pointer a0), (43, .pointer (some (pt b1 2)))]) (by kernel_rfl) (by kernel_rfl) ?_
            refine OJ.kld (d := 44) (T := 3) (y := .tmp 43) (cd := (cI .i64)) (j := 0) (b := b1) (o := 2) a1.I (pend2 := []) (by kernel_rfl) (by kernel_rfl) Ty3 (by kernel_rfl) rfl (At_weirlaw3_Op_I a1) (by kernel_rfl) rfl ?_
            refine OJ.call (d := 45) (g := 18) (ats := #[23, 3]) (args := [.tmp 42, .tmp 44]) (vals := [.pointer a0, .int .i64 a1.I]) (owed := []) (by kernel_rfl) F18 (by kernel_rfl) (ring_Port_Buffer_ok a0 a1.I) (by kernel_rfl) (by kernel_rfl) (by kernel_rfl) (fun r977 => ?_)
            refine OW.nil ?_
            refine OJ.run [4, 5, 6, 7, 8] [] [9] (m2 := [(9, .int .i64 r977.2)]) (by kernel_rfl) (by kernel_rfl) ?_
            refine OJ.nil ?_
            refine SJ.seq (by kernel_rfl) ?_
            refine SJ.region (id := 13) (by kernel_rfl) [0, 1, 2] (by kernel_rfl) ?_
            refine OJ.run [0] [1, 2] [48] (m2 := [(48, .int .i64 r977.2)]) (by kernel_rfl) (by kernel_rfl) ?_
            refine OJ.call (d := 49) (g := 14) (ats := #[24]) (args := [.tmp 48]) (vals := [.int .i64 r977.2]) (owed := []) (by kernel_rfl) F14 (by kernel_rfl) (weirlaw3_num_ok r977.2) (by kernel_rfl) (by kernel_rfl) (by kernel_rfl) (fun r978 => ?_)
            refine OW.nil ?_
            refine OJ.run [2] [] [4] (m2 := [(4, .int .i64 r978)]) (by kernel_rfl) (by kernel_rfl) ?_
            refine OJ.nil ?_
            exact SJ.ret (by kernel_rfl) rfl (Res.run (ys := [.int .i64 r978]) (.tmp (by kernel_rfl) .nil) rfl)
          · refine SJ.seq (by kernel_rfl) ?_
            refine SJ.region (id := 14) (by kernel_rfl) [0, 1] (by kernel_rfl) ?_
            refine OJ.run [0, 1] [] [0, 3, 11, 50] (m2 := [(0, .pointer a0), (3, .pointer (some (pt b1 0))), (11, .int .i64 a1.Kind), (50, .bool (a1.Kind == 6))]) (by kernel_rfl) (by kernel_rfl) ?_
            refine OJ.nil ?_
            refine SJ.cond (t := (.tmp 50)) (b := (a1.Kind == 6)) (by kernel_rfl) (by kernel_rfl) beq_iff_eq (fun hc1005 => ?_) (fun hc1005 => ?_)
            · refine SJ.seq (by kernel_rfl) ?_
              refine SJ.region (id := 15) (by kernel_rfl) [0, 1, 2, 3, 4, 5] (by kernel_rfl) ?_
              refine OJ.run [0, 1] [2, 3, 4, 5] [52, 53] (m2 := [(52, .pointer a0), (53, .pointer (some (pt b1 2)))]) (by kernel_rfl) (by kernel_rfl) ?_
              refine OJ.kld (d := 54) (T := 3) (y := .tmp 53) (cd := (cI .i64)) (j := 0) (b := b1) (o := 2) a1.I (pend2 := []) (by kernel_rfl) (by kernel_rfl) Ty3 (by kernel_rfl) rfl (At_weirlaw3_Op_I a1) (by kernel_rfl) rfl ?_
              refine OJ.call (d := 55) (g := 24) (ats := #[23, 3]) (args := [.tmp 52, .tmp 54]) (vals := [.pointer a0, .int .i64 a1.I]) (owed := []) (by kernel_rfl) F24 (by kernel_rfl) (ring_Port_Release_ok a0 a1.I) (by kernel_rfl) (by kernel_rfl) (by kernel_rfl) (fun r992 => ?_)
              refine OW.nil ?_
              refine OJ.call (d := 56) (g := 14) (ats := #[24]) (args := [.tmp 55]) (vals := [.int .i64 r992]) (owed := []) (by kernel_rfl) F14 (by kernel_rfl) (weirlaw3_num_ok r992) (by kernel_rfl) (by kernel_rfl) (by kernel_rfl) (fun r993 => ?_)
              refine OW.nil ?_
              refine OJ.run [5] [] [4] (m2 := [(4, .int .i64 r993)]) (by kernel_rfl) (by kernel_rfl) ?_
              refine OJ.nil ?_
              exact SJ.ret (by kernel_rfl) rfl (Res.run (ys := [.int .i64 r993]) (.tmp (by kernel_rfl) .nil) rfl)
            · refine SJ.seq (by kernel_rfl) ?_
              refine SJ.region (id := 16) (by kernel_rfl) [0, 1] (by kernel_rfl) ?_
              refine OJ.run [0, 1] [] [0, 3, 11, 57] (m2 := [(0, .pointer a0), (3, .pointer (some (pt b1 0))), (11, .int .i64 a1.Kind), (57, .bool (a1.Kind == 7))]) (by kernel_rfl) (by kernel_rfl) ?_
              refine OJ.nil ?_
              refine SJ.cond (t := (.tmp 57)) (b := (a1.Kind == 7)) (by kernel_rfl) (by kernel_rfl) beq_iff_eq (fun hc1004 => ?_) (fun hc1004 => ?_)
              · refine SJ.seq (by kernel_rfl) ?_
                refine SJ.region (id := 17) (by kernel_rfl) [0, 1, 2, 3, 4, 5, 6, 7] (by kernel_rfl) ?_
                refine OJ.run [0, 1] [2, 3, 4, 5, 6, 7] [3, 59, 60] (m2 := [(3, .pointer (some (pt b1 0))), (59, .pointer a0), (60, .pointer (some (pt b1 2)))]) (by kernel_rfl) (by kernel_rfl) ?_
                refine OJ.kld (d := 61) (T := 3) (y := .tmp 60) (cd := (cI .i64)) (j := 0) (b := b1) (o := 2) a1.I (pend2 := []) (by kernel_rfl) (by kernel_rfl) Ty3 (by kernel_rfl) rfl (At_weirlaw3_Op_I a1) (by kernel_rfl) rfl ?_
                refine OJ.run [3] [4, 5, 6, 7] [59, 61, 62] (m2 := [(59, .pointer a0), (61, .int .i64 a1.I), (62, .pointer (some (pt b1 3)))]) (by kernel_rfl) (by kernel_rfl) ?_
                refine OJ.kld (d := 63) (T := 3) (y := .tmp 62) (cd := (cI .i64)) (j := 0) (b := b1) (o := 3) a1.N (pend2 := []) (by kernel_rfl) (by kernel_rfl) Ty3 (by kernel_rfl) rfl (At_weirlaw3_Op_N a1) (by kernel_rfl) rfl ?_
                refine OJ.call (d := 64) (g := 21) (ats := #[23, 3, 3]) (args := [.tmp 59, .tmp 61, .tmp 63]) (vals := [.pointer a0, .int .i64 a1.I, .int .i64 a1.N]) (owed := []) (by kernel_rfl) F21 (by kernel_rfl) (ring_Port_Send_ok a0 a1.I a1.N) (by kernel_rfl) (by kernel_rfl) (by kernel_rfl) (fun r999 => ?_)
                refine OW.nil ?_
                refine OJ.call (d := 65) (g := 14) (ats := #[24]) (args := [.tmp 64]) (vals := [.int .i64 r999]) (owed := []) (by kernel_rfl) F14 (by kernel_rfl) (weirlaw3_num_ok r999) (by kernel_rfl) (by kernel_rfl) (by kernel_rfl) (fun r1000 => ?_)
                refine OW.nil ?_
                refine OJ.run [7] [] [4] (m2 := [(4, .int .i64 r1000)]) (by kernel_rfl) (by kernel_rfl) ?_
                refine OJ.nil ?_
                exact SJ.ret (by kernel_rfl) rfl (Res.run (ys := [.int .i64 r1000]) (.tmp (by kernel_rfl) .nil) rfl)
              · refine SJ.seq (by kernel_rfl) ?_
                refine SJ.region (id := 18) (by kernel_rfl) [0, 1] (by kernel_rfl) ?_
                refine OJ.run [0, 1] [] [0, 66] (m2 := [(0, .pointer a0), (66, .bool (a1.Kind == 8))]) (by kernel_rfl) (by kernel_rfl) ?_
                refine OJ.nil ?_
                refine SJ.cond (t := (.tmp 66)) (b := (a1.Kind == 8)) (by kernel_rfl) (by kernel_rfl) beq_iff_eq (fun hc1003 => ?_) (fun hc1003 => ?_)
                · refine SJ.region (id := 19) (by kernel_rfl) [0, 1] (by kernel_rfl) ?_
                  refine OJ.run [0] [1] [68] (m2 := [(68, .pointer a0)]) (by kernel_rfl) (by kernel_rfl) ?_
                  refine OJ.call (d := 69) (g := 22) (ats := #[23]) (args := [.tmp 68]) (vals := [.pointer a0]) (owed := []) (by kernel_rfl) F22 (by kernel_rfl) (ring_Port_Drain_ok a0) (by kernel_rfl) (by kernel_rfl) (by kernel_rfl) (fun r1002 => ?_)
                  refine OW.nil ?_
                  refine OJ.nil ?_
                  refine SJ.inBlock ?_
                  refine SJ.seq (by kernel_rfl) ?_
                  refine SJ.region (id := 20) (by kernel_rfl) [0] (by kernel_rfl) ?_
                  refine OJ.run [0] [] [4] (m2 := [(4, .int .i64 0)]) (by kernel_rfl) (by kernel_rfl) ?_
                  refine OJ.nil ?_
                  exact SJ.ret (by kernel_rfl) rfl (Res.run (ys := [.int .i64 0]) (.tmp (by kernel_rfl) .nil) rfl)
                · refine SJ.skip (by kernel_rfl) ?_
                  refine SJ.inBlock ?_
                  refine SJ.seq (by kernel_rfl) ?_
                  refine SJ.region (id := 20) (by kernel_rfl) [0] (by kernel_rfl) ?_
                  refine OJ.run [0] [] [4] (m2 := [(4, .int .i64 0)]) (by kernel_rfl) (by kernel_rfl) ?_
                  refine OJ.nil ?_
                  exact SJ.ret (by kernel_rfl) rfl (Res.run (ys := [.int .i64 0]) (.tmp (by kernel_rfl) .nil) rfl)

/-! ### weir/weirlaw3.together: function 33 -/
noncomputable def weirlaw3_together.B : Code := (Try.f33.body).getD .skip
noncomputable def weirlaw3_together.cx : Fx := ⟨Try.prog, 33, Try.f33⟩
noncomputable def weirlaw3_together.out (r_ : Bool) : Value := .bool r_
noncomputable def weirlaw3_together.F0 (r_ : Bool) : Reach := .ret (weirlaw3_together.out r_)
noncomputable def weirlaw3_together.K1 (a0 : (Option Addr)) (a1 : Int) (r1 : Sl) (s4 : (Vec Int 6)) : M Bool :=
  ring_Port_Stat a0 >>= fun r18 =>
  slot 52 >>= fun b19 =>
  (if (r1.len : Int) = a1 then
      pure (eqv r18 (⟨(Vec.g s4 1 0), (Vec.g s4 2 0), (Vec.g s4 3 0), (Vec.g s4 4 0), (Vec.g s4 5 0)⟩ : api_RingStat))
    else
      pure false) >>= fun y20 =>
  pure y20
theorem weirlaw3_together.K1_ok (a0 : (Option Addr)) (a1 : Int) (r1 : Sl) (b2 : Nat) (s4 : (Vec Int 6)) :
    SJ weirlaw3_together.cx [.code (c2 (c2 (c2 (c2 weirlaw3_together.B))))] [(0, .pointer a0), (1, .int .i64 a1), (5, Sl.v r1), (6, .pointer (some (pt b2 0)))] [(b2, ((cI .i64).arr 6).enc s4)] (weirlaw3_together.K1 a0 a1 r1 s4) weirlaw3_together.F0 := by
  unfold weirlaw3_together.K1
  refine SJ.seq (by kernel_rfl) ?_
  refine SJ.region (id := 9) (by kernel_rfl) [0, 1, 2, 3] (by kernel_rfl) ?_
  refine OJ.run [0] [1, 2, 3] [1, 5, 6, 37] (m2 := [(1, .int .i64 a1), (5, Sl.v r1), (6, .pointer (some (pt b2 0))), (37, .pointer a0)]) (by kernel_rfl) (by kernel_rfl) ?_
  refine OJ.call (d := 38) (g := 27) (ats := #[23]) (args := [.tmp 37]) (vals := [.pointer a0]) (owed := []) (by kernel_rfl) F27 (by kernel_rfl) (ring_Port_Stat_ok a0) (by kernel_rfl) (by kernel_rfl) (by kernel_rfl) (fun r18 => ?_)
  refine OW.nil ?_
  refine OJ.slotOf (d := 8) (op := (.alloc 52)) (cd := c_api_RingStat) (u := z_api_RingStat) (owed := []) (by kernel_rfl) (alloc_run Ty52) (by kernel_rfl) (by kernel_rfl) (by kernel_rfl) (fun b19 => ?_)
  refine OW.nil ?_
  refine OJ.kst (T := 52) (y := .tmp 8) (z := .tmp 38) (cd := c_api_RingStat) (u := r18) (j := 0) (b := b19) (o := 0) (c_api_RingStat.enc r18) (h2 := [(b19, c_api_RingStat.enc r18), (b2, ((cI .i64).arr 6).enc s4)]) (owed := []) (by kernel_rfl) (by kernel_rfl) (by kernel_rfl) Ty52 rfl (Upd.whole ((Cod.len _ _).trans (Cod.len _ _).symm)) (by kernel_rfl) (by kernel_rfl) rfl ?_
  refine OW.nil ?_
  refine OJ.nil ?_
  refine SJ.seq (by kernel_rfl) ?_
  refine SJ.region (id := 10) (by kernel_rfl) [0, 1, 2, 3, 4, 5, 6, 7, 8, 9, 10, 11, 12, 13, 14, 15, 16, 17, 18, 19] (by kernel_rfl) ?_
  refine OJ.run [0, 1, 2, 3, 4] [5, 6, 7, 8, 9, 10, 11, 12, 13, 14, 15, 16, 17, 18, 19] [6, 8, 43] (m2 := [(6, .pointer (some (pt b2 0))), (8, .pointer (some (pt b19 0))), (43, .bool ((r1.len : Int) == a1))]) (by kernel_rfl) (by kernel_rfl) ?_
  refine OJ.join (b := ((r1.len : Int) == a1)) [5, 6, 7, 8, 9, 10, 11, 12, 13, 14, 15, 16, 17, 18] [19] [57] (fun y20 => [(57, .bool y20)]) [] [] (by kernel_rfl) (t := 43) (by kernel_rfl) beq_iff_eq (fun hp_ => ?_) (fun hp_ => ?_) (by kernel_rfl) (fun _ _ _ _ _ _ h_ => h_) (fun y20 => ?_)
  · refine OJ.kld (d := 44) (T := 52) (y := .tmp 8) (cd := c_api_RingStat) (j := 0) (b := b19) (o := 0) r18 (pend2 := []) (by kernel_rfl) (by kernel_rfl) Ty52 (by kernel_rfl) rfl (At.whole _) (by kernel_rfl) rfl ?_
    refine OJ.run [6] [7, 8, 9, 10, 11, 12, 13, 14, 15, 16, 17, 18] [6, 43, 44, 45] (m2 := [(6, .pointer (some (pt b2 0))), (43, .bool true), (44, c_api_RingStat.val r18), (45, .pointer (some (pt b2 1)))]) (by kernel_rfl) (by kernel_rfl) ?_
    refine OJ.kld (d := 46) (T := 3) (y := .tmp 45) (cd := (cI .i64)) (j := 1) (b := b2) (o := 1) (Vec.g s4 1 0) (pend2 := []) (by kernel_rfl) (by kernel_rfl) Ty3 (by kernel_rfl) rfl (At.zero (At.arr (z := 0) (by decide) (by decide))) (by kernel_rfl) rfl ?_
    refine OJ.run [8] [9, 10, 11, 12, 13, 14, 15, 16, 17, 18] [6, 43, 44, 46, 47] (m2 := [(6, .pointer (some (pt b2 0))), (43, .bool true), (44, c_api_RingStat.val r18), (46, .int .i64 (Vec.g s4 1 0)), (47, .pointer (some (pt b2 2)))]) (by kernel_rfl) (by kernel_rfl) ?_
    refine OJ.kld (d := 48) (T := 3) (y := .tmp 47) (cd := (cI .i64)) (j := 1) (b := b2) (o := 2) (Vec.g s4 2 0) (pend2 := []) (by kernel_rfl) (by kernel_rfl) Ty3 (by kernel_rfl) rfl (At.zero (At.arr (z := 0) (by decide) (by decide))) (by kernel_rfl) rfl ?_
    refine OJ.run [10] [11, 12, 13, 14, 15, 16, 17, 18] [6, 43, 44, 46, 48, 49] (m2 := [(6, .pointer (some (pt b2 0))), (43, .bool true), (44, c_api_RingStat.val r18), (46, .int .i64 (Vec.g s4 1 0)), (48, .int .i64 (Vec.g s4 2 0)), (49, .pointer (some (pt b2 3)))]) (by kernel_rfl) (by kernel_rfl) ?_
    refine OJ.kld (d := 50) (T := 3) (y := .tmp 49) (cd := (cI .i64)) (j := 1) (b := b2) (o := 3) (Vec.g s4 3 0) (pend2 := []) (by kernel_rfl) (by kernel_rfl) Ty3 (by kernel_rfl) rfl (At.zero (At.arr (z := 0) (by decide) (by decide))) (by kernel_rfl) rfl ?_
    refine OJ.run [12] [13, 14, 15, 16, 17, 18] [6, 43, 44, 46, 48, 50, 51] (m2 := [(6, .pointer (some (pt b2 0))), (43, .bool true), (44, c_api_RingStat.val r18), (46, .int .i64 (Vec.g s4 1 0)), (48, .int .i64 (Vec.g s4 2 0)), (50, .int .i64 (Vec.g s4 3 0)), (51, .pointer (some (pt b2 4)))]) (by kernel_rfl) (by kernel_rfl) ?_
    refine OJ.kld (d := 52) (T := 3) (y := .tmp 51) (cd := (cI .i64)) (j := 1) (b := b2) (o := 4) (Vec.g s4 4 0) (pend2 := []) (by kernel_rfl) (by kernel_rfl) Ty3 (by kernel_rfl) rfl (At.zero (At.arr (z := 0) (by decide) (by decide))) (by kernel_rfl) rfl ?_
    refine OJ.run [14] [15, 16, 17, 18] [43, 44, 46, 48, 50, 52, 53] (m2 := [(43, .bool true), (44, c_api_RingStat.val r18), (46, .int .i64 (Vec.g s4 1 0)), (48, .int .i64 (Vec.g s4 2 0)), (50, .int .i64 (Vec.g s4 3 0)), (52, .int .i64 (Vec.g s4 4 0)), (53, .pointer (some (pt b2 5)))]) (by kernel_rfl) (by kernel_rfl) ?_
    refine OJ.kld (d := 54) (T := 3) (y := .tmp 53) (cd := (cI .i64)) (j := 1) (b := b2) (o := 5) (Vec.g s4 5 0) (pend2 := []) (by kernel_rfl) (by kernel_rfl) Ty3 (by kernel_rfl) rfl (At.zero (At.arr (z := 0) (by decide) (by decide))) (by kernel_rfl) rfl ?_
    refine OJ.build (d := 55) (T := 52) (parts := [(0, .tmp 46), (1, .tmp 48), (2, .tmp 50), (3, .tmp 52), (4, .tmp 54)]) (ps := [(0, (cI .i64).val (Vec.g s4 1 0)), (1, (cI .i64).val (Vec.g s4 2 0)), (2, (cI .i64).val (Vec.g s4 3 0)), (3, (cI .i64).val (Vec.g s4 4 0)), (4, (cI .i64).val (Vec.g s4 5 0))]) (cd := c_api_RingStat) (z0 := z_api_RingStat) (⟨(Vec.g s4 1 0), (Vec.g s4 2 0), (Vec.g s4 3 0), (Vec.g s4 4 0), (Vec.g s4 5 0)⟩ : api_RingStat) (by kernel_rfl) (by kernel_rfl) Ty52 rfl (by kernel_rfl) (Filled.cons (cd := (cI .i64)) (q := (Vec.g s4 1 0)) (o := 0) (by kernel_rfl) (Up_api_RingStat_Free z_api_RingStat (Vec.g s4 1 0)) (Filled.cons (cd := (cI .i64)) (q := (Vec.g s4 2 0)) (o := 1) (by kernel_rfl) (Up_api_RingStat_Posted (⟨(Vec.g s4 1 0), z_api_RingStat.Posted, z_api_RingStat.Filled, z_api_RingStat.Held, z_api_RingStat.Queued⟩ : api_RingStat) (Vec.g s4 2 0)) (Filled.cons (cd := (cI .i64)) (q := (Vec.g s4 3 0)) (o := 2) (by kernel_rfl) (Up_api_RingStat_Filled (⟨(Vec.g s4 1 0), (Vec.g s4 2 0), z_api_RingStat.Filled, z_api_RingStat.Held, z_api_RingStat.Queued⟩ : api_RingStat) (Vec.g s4 3 0)) (Filled.cons (cd := (cI .i64)) (q := (Vec.g s4 4 0)) (o := 3) (by kernel_rfl) (Up_api_RingStat_Held (⟨(Vec.g s4 1 0), (Vec.g s4 2 0), (Vec.g s4 3 0), z_api_RingStat.Held, z_api_RingStat.Queued⟩ : api_RingStat) (Vec.g s4 4 0)) (Filled.cons (cd := (cI .i64)) (q := (Vec.g s4 5 0)) (o := 4) (by kernel_rfl) (Up_api_RingStat_Queued (⟨(Vec.g s4 1 0), (Vec.g s4 2 0), (Vec.g s4 3 0), (Vec.g s4 4 0), z_api_RingStat.Queued⟩ : api_RingStat) (Vec.g s4 5 0)) Filled.nil))))) (by kernel_rfl) (by kernel_rfl) (by kernel_rfl) ?_
    refine OJ.eql (d := 56) (T := 52) (yT := 52) (y := .tmp 44) (z := .tmp 55) (cd := c_api_RingStat) (p := r18) (q := (⟨(Vec.g s4 1 0), (Vec.g s4 2 0), (Vec.g s4 3 0), (Vec.g s4 4 0), (Vec.g s4 5 0)⟩ : api_RingStat)) (by kernel_rfl) (by kernel_rfl) (by kernel_rfl) rfl Eq52 (by kernel_rfl) (by kernel_rfl) (by kernel_rfl) (by kernel_rfl) (by kernel_rfl) ?_
    refine OJ.run [18] [] [57] (m2 := [(57, .bool (eqv r18 (⟨(Vec.g s4 1 0), (Vec.g s4 2 0), (Vec.g s4 3 0), (Vec.g s4 4 0), (Vec.g s4 5 0)⟩ : api_RingStat)))]) (by kernel_rfl) (by kernel_rfl) ?_
    exact OJ.nil ⟨(Cov.mem Cov.nil), rfl, _, rfl, by kernel_rfl⟩
  · refine OJ.run [5, 6, 7, 8, 9, 10, 11, 12, 13, 14, 15, 16, 17, 18] [] [57] (m2 := [(57, .bool false)]) (by kernel_rfl) (by kernel_rfl) ?_
    exact OJ.nil ⟨(Cov.mem Cov.nil), rfl, _, rfl, by kernel_rfl⟩
  · refine OJ.run [19] [] [4] (m2 := [(4, .bool y20)]) (by kernel_rfl) (by kernel_rfl) ?_
    refine OJ.nil ?_
    exact SJ.ret (by kernel_rfl) rfl (Res.run (ys := [.bool y20]) (.tmp (by kernel_rfl) .nil) rfl)
noncomputable def weirlaw3_together.F1 (a0 : (Option Addr)) (a1 : Int) (r1 : Sl) (b2 : Nat) : (LS (Int × (Vec Int 6)) Bool) → Reach := loopF [.inLoop (c1 (c1 (c2 (c1 (c2 (c2 (c2 weirlaw3_together.B))))))), .inBlock 0, .code (c2 (c2 (c2 (c2 weirlaw3_together.B))))] (fun s_ : (Int × (Vec Int 6)) => [(0, .pointer a0), (1, .int .i64 a1), (5, Sl.v r1), (6, .pointer (some (pt b2 0))), (7, .int .i64 s_.1)]) (fun s_ : (Int × (Vec Int 6)) => [(b2, ((cI .i64).arr 6).enc s_.2)]) weirlaw3_together.F0
noncomputable def weirlaw3_together.L1 (a0 : (Option Addr)) (a1 : Int) (r1 : Sl) (s3 : Int) (s4 : (Vec Int 6)) : M (LS (Int × (Vec Int 6)) Bool) :=
  if s3 < (r1.len : Int) then
    idx r1.a r1.len s3 1 >>= fun p21 =>
    ld (cI .i64) p21 >>= fun x22 =>
    (if x22 < 1 then
        pure true
      else
        idx r1.a r1.len s3 1 >>= fun p23 =>
        ld (cI .i64) p23 >>= fun x24 =>
        pure (decide (x24 > 5))) >>= fun y25 =>
    if y25 = true then
      pure (LS.done false)
    else
      idx r1.a r1.len s3 1 >>= fun p26 =>
      ld (cI .i64) p26 >>= fun x27 =>
      chk (0 ≤ x27 ∧ x27 < (6 : Nat)) >>= fun _ =>
      chk (0 ≤ x27 ∧ x27 < (6 : Nat)) >>= fun _ =>
      pure (LS.next (IntKind.wrap .i64 (s3 + 1), (Vec.s s4 x27 (IntKind.wrap .i64 ((Vec.g s4 x27 0) + 1)))))
  else
    (weirlaw3_together.K1 a0 a1 r1 s4) >>= fun b => pure (LS.done b)
theorem weirlaw3_together.L1_ok (a0 : (Option Addr)) (a1 : Int) (r1 : Sl) (b2 : Nat) (s3 : Int) (s4 : (Vec Int 6)) :
    SJ weirlaw3_together.cx [.code (c1 (c1 (c2 (c1 (c2 (c2 (c2 weirlaw3_together.B))))))), .inLoop (c1 (c1 (c2 (c1 (c2 (c2 (c2 weirlaw3_together.B))))))), .inBlock 0, .code (c2 (c2 (c2 (c2 weirlaw3_together.B))))] [(0, .pointer a0), (1, .int .i64 a1), (5, Sl.v r1), (6, .pointer (some (pt b2 0))), (7, .int .i64 s3)] [(b2, ((cI .i64).arr 6).enc s4)] (weirlaw3_together.L1 a0 a1 r1 s3 s4) (weirlaw3_together.F1 a0 a1 r1 b2) := by
  unfold weirlaw3_together.L1
  refine SJ.seq (by kernel_rfl) ?_
  refine SJ.seq (by kernel_rfl) ?_
  refine SJ.region (id := 4) (by kernel_rfl) [0, 1, 2, 3] (by kernel_rfl) ?_
  refine OJ.run [0, 1, 2, 3] [] [0, 1, 5, 6, 7, 14] (m2 := [(0, .pointer a0), (1, .int .i64 a1), (5, Sl.v r1), (6, .pointer (some (pt b2 0))), (7, .int .i64 s3), (14, .bool (decide (s3 < (r1.len : Int))))]) (by kernel_rfl) (by kernel_rfl) ?_
  refine OJ.nil ?_
  refine SJ.cond (t := (.tmp 14)) (b := decide (s3 < (r1.len : Int))) (by kernel_rfl) (by kernel_rfl) decide_eq_true_iff (fun hc33 => ?_) (fun hc33 => ?_)
  · refine SJ.skip (by kernel_rfl) ?_
    refine SJ.seq (by kernel_rfl) ?_
    refine SJ.block (id := 1) (by kernel_rfl) ?_
    refine SJ.seq (by kernel_rfl) ?_
    refine SJ.seq (by kernel_rfl) ?_
    refine SJ.region (id := 6) (by kernel_rfl) [0, 1, 2, 3, 4, 5, 6, 7, 8, 9, 10, 11] (by kernel_rfl) ?_
    refine OJ.run [0, 1] [2, 3, 4, 5, 6, 7, 8, 9, 10, 11] [0, 1, 5, 6, 7, 17, 18] (m2 := [(0, .pointer a0), (1, .int .i64 a1), (5, Sl.v r1), (6, .pointer (some (pt b2 0))), (7, .int .i64 s3), (17, Sl.v r1), (18, .int .i64 s3)]) (by kernel_rfl) (by kernel_rfl) ?_
    refine OJ.idxS (d := 19) (T := 67) (y := .tmp 17) (j := .tmp 18) (E := 3) (cap := r1.cap) (k := .i64) (by kernel_rfl) (by kernel_rfl) (by kernel_rfl) (by kernel_rfl) (by kernel_rfl) (by kernel_rfl) (by kernel_rfl) (by kernel_rfl) (fun p21 => ?_)
    refine OJ.ld (d := 20) (T := 3) (y := .tmp 19) (pend2 := fun x22 => []) (by kernel_rfl) (by kernel_rfl) Ty3 (by kernel_rfl) (by kernel_rfl) (fun _ => rfl) (fun x22 => ?_)
    refine OJ.run [4, 5] [6, 7, 8, 9, 10, 11] [0, 1, 5, 6, 7, 22] (m2 := [(0, .pointer a0), (1, .int .i64 a1), (5, Sl.v r1), (6, .pointer (some (pt b2 0))), (7, .int .i64 s3), (22, .bool (decide (x22 < 1)))]) (by kernel_rfl) (by kernel_rfl) ?_
    refine OJ.join (b := decide (x22 < 1)) [6, 7, 8, 9, 10, 11] [] [0, 1, 5, 6, 7, 28] (fun y25 => [(0, .pointer a0), (1, .int .i64 a1), (5, Sl.v r1), (6, .pointer (some (pt b2 0))), (7, .int .i64 s3), (28, .bool y25)]) [] [] (by kernel_rfl) (t := 22) (by kernel_rfl) decide_eq_true_iff (fun hp_ => ?_) (fun hp_ => ?_) (by kernel_rfl) (fun _ _ _ _ _ _ h_ => h_) (fun y25 => ?_)
    · refine OJ.run [6, 7, 8, 9, 10, 11] [] [0, 1, 5, 6, 7, 28] (m2 := [(0, .pointer a0), (1, .int .i64 a1), (5, Sl.v r1), (6, .pointer (some (pt b2 0))), (7, .int .i64 s3), (28, .bool true)]) (by kernel_rfl) (by kernel_rfl) ?_
      exact OJ.nil ⟨(Cov.mem Cov.nil), rfl, _, rfl, by kernel_rfl⟩
    · refine OJ.run [6, 7] [8, 9, 10, 11] [0, 1, 5, 6, 7, 22, 23, 24] (m2 := [(0, .pointer a0), (1, .int .i64 a1), (5, Sl.v r1), (6, .pointer (some (pt b2 0))), (7, .int .i64 s3), (22, .bool false), (23, Sl.v r1), (24, .int .i64 s3)]) (by kernel_rfl) (by kernel_rfl) ?_
      refine OJ.idxS (d := 25) (T := 67) (y := .tmp 23) (j := .tmp 24) (E := 3) (cap := r1.cap) (k := .i64) (by kernel_rfl) (by kernel_rfl) (by kernel_rfl) (by kernel_rfl) (by kernel_rfl) (by kernel_rfl) (by kernel_rfl) (by kernel_rfl) (fun p23 => ?_)
      refine OJ.ld (d := 26) (T := 3) (y := .tmp 25) (pend2 := fun x24 => []) (by kernel_rfl) (by kernel_rfl) Ty3 (by kernel_rfl) (by kernel_rfl) (fun _ => rfl) (fun x24 => ?_)
      refine OJ.run [10, 11] [] [0, 1, 5, 6, 7, 28] (m2 := [(0, .pointer a0), (1, .int .i64 a1), (5, Sl.v r1), (6, .pointer (some (pt b2 0))), (7, .int .i64 s3), (28, .bool (decide (x24 > 5)))]) (by kernel_rfl) (by kernel_rfl) ?_
      exact OJ.nil ⟨(Cov.mem Cov.nil), rfl, _, rfl, by kernel_rfl⟩
    · refine OJ.nil ?_
      refine SJ.cond (t := (.tmp 28)) (b := y25) (by kernel_rfl) (by kernel_rfl) Iff.rfl (fun hc32 => ?_) (fun hc32 => ?_)
      · refine SJ.seq (by kernel_rfl) ?_
        refine SJ.region (id := 7) (by kernel_rfl) [0] (by kernel_rfl) ?_
        refine OJ.run [0] [] [4] (m2 := [(4, .bool false)]) (by kernel_rfl) (by kernel_rfl) ?_
        refine OJ.nil ?_
        exact SJ.ret (by kernel_rfl) rfl (Res.run (ys := [.bool false]) (.tmp (by kernel_rfl) .nil) rfl)
      · refine SJ.skip (by kernel_rfl) ?_
        refine SJ.region (id := 8) (by kernel_rfl) [0, 1, 2, 3, 4, 5, 6, 7, 8] (by kernel_rfl) ?_
        refine OJ.run [0, 1] [2, 3, 4, 5, 6, 7, 8] [0, 1, 5, 6, 7, 29, 30] (m2 := [(0, .pointer a0), (1, .int .i64 a1), (5, Sl.v r1), (6, .pointer (some (pt b2 0))), (7, .int .i64 s3), (29, Sl.v r1), (30, .int .i64 s3)]) (by kernel_rfl) (by kernel_rfl) ?_
        refine OJ.idxS (d := 31) (T := 67) (y := .tmp 29) (j := .tmp 30) (E := 3) (cap := r1.cap) (k := .i64) (by kernel_rfl) (by kernel_rfl) (by kernel_rfl) (by kernel_rfl) (by kernel_rfl) (by kernel_rfl) (by kernel_rfl) (by kernel_rfl) (fun p26 => ?_)
        refine OJ.ld (d := 32) (T := 3) (y := .tmp 31) (pend2 := fun x27 => []) (by kernel_rfl) (by kernel_rfl) Ty3 (by kernel_rfl) (by kernel_rfl) (fun _ => rfl) (fun x27 => ?_)
        refine OJ.idxK (d := 33) (T := 94) (y := .tmp 6) (j := .tmp 32) (E := 3) (sz := 1) (b := b2) (o := 0) (k := .i64) (by kernel_rfl) (by kernel_rfl) (by kernel_rfl) (by kernel_rfl) (by kernel_rfl) (by kernel_rfl) (by kernel_rfl) (by kernel_rfl) (fun hb28 hb29 => ?_)
        refine OJ.kld (d := 34) (T := 3) (y := .tmp 33) (cd := (cI .i64)) (j := 0) (b := b2) (o := (0 + x27.toNat * 1)) (Vec.g s4 x27 0) (pend2 := []) (by kernel_rfl) (by kernel_rfl) Ty3 (by kernel_rfl) rfl (At.zero (At.arr (z := 0) hb28 hb29)) (by kernel_rfl) rfl ?_
        refine OJ.run [6] [7, 8] [0, 1, 5, 6, 7, 32, 35] (m2 := [(0, .pointer a0), (1, .int .i64 a1), (5, Sl.v r1), (6, .pointer (some (pt b2 0))), (7, .int .i64 s3), (32, .int .i64 x27), (35, .int .i64 (IntKind.wrap .i64 ((Vec.g s4 x27 0) + 1)))]) (by kernel_rfl) (by kernel_rfl) ?_
        refine OJ.idxK (d := 36) (T := 94) (y := .tmp 6) (j := .tmp 32) (E := 3) (sz := 1) (b := b2) (o := 0) (k := .i64) (by kernel_rfl) (by kernel_rfl) (by kernel_rfl) (by kernel_rfl) (by kernel_rfl) (by kernel_rfl) (by kernel_rfl) (by kernel_rfl) (fun hb30 hb31 => ?_)
        refine OJ.kst (T := 3) (y := .tmp 36) (z := .tmp 35) (cd := (cI .i64)) (u := (IntKind.wrap .i64 ((Vec.g s4 x27 0) + 1))) (j := 0) (b := b2) (o := (0 + x27.toNat * 1)) (((cI .i64).arr 6).enc (Vec.s s4 x27 (IntKind.wrap .i64 ((Vec.g s4 x27 0) + 1)))) (h2 := [(b2, ((cI .i64).arr 6).enc (Vec.s s4 x27 (IntKind.wrap .i64 ((Vec.g s4 x27 0) + 1))))]) (owed := []) (by kernel_rfl) (by kernel_rfl) (by kernel_rfl) Ty3 rfl (Upd.zero (Upd.arr hb30 hb31)) (by kernel_rfl) (by kernel_rfl) rfl ?_
        refine OW.nil ?_
        refine OJ.nil ?_
        refine SJ.inBlock ?_
        refine SJ.region (id := 5) (by kernel_rfl) [0, 1, 2] (by kernel_rfl) ?_
        refine OJ.run [0, 1, 2] [] [0, 1, 5, 6, 7] (m2 := [(0, .pointer a0), (1, .int .i64 a1), (5, Sl.v r1), (6, .pointer (some (pt b2 0))), (7, .int .i64 (IntKind.wrap .i64 (s3 + 1)))]) (by kernel_rfl) (by kernel_rfl) ?_
        refine OJ.nil ?_
        exact SJ.at_ [0, 1, 5, 6, 7] rfl (by kernel_rfl)
  · refine SJ.exit (id := 0) (by kernel_rfl) (by rfl) ?_
    refine SJ.less [0, 1, 5, 6] (m' := [(0, .pointer a0), (1, .int .i64 a1), (5, Sl.v r1), (6, .pointer (some (pt b2 0)))]) (by kernel_rfl) ?_
    refine SJ.done ?_
    exact weirlaw3_together.K1_ok a0 a1 r1 b2 s4
noncomputable def weirlaw3_together (a0 : (Option Addr)) (a1 : Int) : M Bool :=
  ring_Port_Places a0 >>= fun r1 =>
  slot 94 >>= fun b2 =>
  loopM (fun s_ : (Int × (Vec Int 6)) => weirlaw3_together.L1 a0 a1 r1 s_.1 s_.2) (0, (Vec.rep 6 0))
theorem weirlaw3_together_ok (a0 : (Option Addr)) (a1 : Int) : Ref Try.prog 33 [.pointer a0, .int .i64 a1] (weirlaw3_together a0 a1) weirlaw3_together.out := by
  refine Ref.of (cd := weirlaw3_together.B) Try.func33 (by kernel_rfl) (by kernel_rfl) ?_
  show SJ weirlaw3_together.cx [.code weirlaw3_together.B] [(0, .pointer a0), (1, .int .i64 a1)] [] (weirlaw3_together a0 a1) weirlaw3_together.F0
  unfold weirlaw3_together
  refine SJ.seq (by kernel_rfl) ?_
  refine SJ.region (id := 0) (by kernel_rfl) [0] (by kernel_rfl) ?_
  refine OJ.run [0] [] [0, 1] (m2 := [(0, .pointer a0), (1, .int .i64 a1)]) (by kernel_rfl) (by kernel_rfl) ?_
  refine OJ.nil ?_
  refine SJ.seq (by kernel_rfl) ?_
  refine SJ.region (id := 1) (by kernel_rfl) [0, 1, 2] (by kernel_rfl) ?_
  refine OJ.run [0] [1, 2] [0, 1, 9] (m2 := [(0, .pointer a0), (1, .int .i64 a1), (9, .pointer a0)]) (by kernel_rfl) (by kernel_rfl) ?_
  refine OJ.call (d := 10) (g := 32) (ats := #[23]) (args := [.tmp 9]) (vals := [.pointer a0]) (owed := []) (by kernel_rfl) F32 (by kernel_rfl) (ring_Port_Places_ok a0) (by kernel_rfl) (by kernel_rfl) (by kernel_rfl) (fun r1 => ?_)
  refine OW.nil ?_
  refine OJ.run [2] [] [0, 1, 5] (m2 := [(0, .pointer a0), (1, .int .i64 a1), (5, Sl.v r1)]) (by kernel_rfl) (by kernel_rfl) ?_
  refine OJ.nil ?_
  refine SJ.seq (by kernel_rfl) ?_
  refine SJ.region (id := 2) (by kernel_rfl) [0] (by kernel_rfl) ?_
  refine OJ.slotOf (d := 6) (op := (.alloc 94)) (cd := ((cI .i64).arr 6)) (u := (Vec.rep 6 0)) (owed := []) (by kernel_rfl) (alloc_run Ty94) (by kernel_rfl) (by kernel_rfl) (by kernel_rfl) (fun b2 => ?_)
  refine OW.nil ?_
  refine OJ.nil ?_
  refine SJ.seq (by kernel_rfl) ?_
  refine SJ.seq (by kernel_rfl) ?_
  refine SJ.region (id := 3) (by kernel_rfl) [0] (by kernel_rfl) ?_
  refine OJ.run [0] [] [0, 1, 5, 6, 7] (m2 := [(0, .pointer a0), (1, .int .i64 a1), (5, Sl.v r1), (6, .pointer (some (pt b2 0))), (7, .int .i64 0)]) (by kernel_rfl) (by kernel_rfl) ?_
  refine OJ.nil ?_
  refine SJ.block (id := 0) (by kernel_rfl) ?_
  exact SJ.loop (fun s_ : (Int × (Vec Int 6)) => [(0, .pointer a0), (1, .int .i64 a1), (5, Sl.v r1), (6, .pointer (some (pt b2 0))), (7, .int .i64 s_.1)]) (fun s_ : (Int × (Vec Int 6)) => [(b2, ((cI .i64).arr 6).enc s_.2)]) [0, 1, 5, 6, 7] (by kernel_rfl) (by kernel_rfl) rfl (fun _ _ => rfl) (fun s_ => weirlaw3_together.L1_ok a0 a1 r1 b2 s_.1 s_.2)

/-! ### weir/weirlaw3.RingPlaces: function 10 -/
noncomputable def weirlaw3_RingPlaces.B : Code := (Try.f10.body).getD .skip
noncomputable def weirlaw3_RingPlaces.cx : Fx := ⟨Try.prog, 10, Try.f10⟩
noncomputable def weirlaw3_RingPlaces.out (r_ : Bool) : Value := .bool r_
noncomputable def weirlaw3_RingPlaces.F0 (r_ : Bool) : Reach := .ret (weirlaw3_RingPlaces.out r_)
noncomputable def weirlaw3_RingPlaces.F1 (a4 : Sl) (r1 : ((Option Addr) × Int × Int × Int × Int)) : (LS Int Bool) → Reach := loopF [.inLoop (c1 (c1 (c2 (c1 (c2 (c2 (c2 weirlaw3_RingPlaces.B))))))), .inBlock 0, .code (c2 (c2 (c2 (c2 weirlaw3_RingPlaces.B))))] (fun s_ : Int => [(4, Sl.v a4), (11, .pointer r1.1), (12, .int .i64 r1.2.1), (13, .int .i64 r1.2.2.1), (14, .int .i64 r1.2.2.2.1), (16, .int .i64 s_)]) (fun s_ : Int => []) weirlaw3_RingPlaces.F0
noncomputable def weirlaw3_RingPlaces.K1 (s6 : Int) (x40 : weirlaw3_Op) (r43 : Int) (s51 : Int) : M (LS Int Bool) :=
  (if r43 ≠ 0 then
      pure (decide (s51 > 0))
    else
      pure false) >>= fun y59 =>
  (if y59 = true then
      pure true
    else
      (if x40.Kind ≠ 1 then
          pure (decide (s51 > 1))
        else
          pure false) >>= fun y60 =>
      pure y60) >>= fun y61 =>
  if y61 = true then
    pure (LS.done false)
  else
    pure (LS.next (IntKind.wrap .i64 (s6 + 1)))
theorem weirlaw3_RingPlaces.K1_ok (a4 : Sl) (r1 : ((Option Addr) × Int × Int × Int × Int)) (s6 : Int) (x40 : weirlaw3_Op) (b41 : Nat) (r43 : Int) (s51 : Int) :
    SJ weirlaw3_RingPlaces.cx [.code (c2 (c2 (c2 (c2 (c2 (c2 (c2 (c2 (c1 (c1 (c2 (c1 (c1 (c2 (c1 (c2 (c2 (c2 weirlaw3_RingPlaces.B)))))))))))))))))), .inBlock 1, .code (c2 (c2 (c1 (c1 (c2 (c1 (c2 (c2 (c2 weirlaw3_RingPlaces.B))))))))), .inLoop (c1 (c1 (c2 (c1 (c2 (c2 (c2 weirlaw3_RingPlaces.B))))))), .inBlock 0, .code (c2 (c2 (c2 (c2 weirlaw3_RingPlaces.B))))] [(4, Sl.v a4), (11, .pointer r1.1), (12, .int .i64 r1.2.1), (13, .int .i64 r1.2.2.1), (14, .int .i64 r1.2.2.2.1), (16, .int .i64 s6), (17, .pointer (some (pt b41 0))), (19, .int .i64 r43), (22, .int .i64 s51)] [(b41, c_weirlaw3_Op.enc x40)] (weirlaw3_RingPlaces.K1 s6 x40 r43 s51) (weirlaw3_RingPlaces.F1 a4 r1) := by
  unfold weirlaw3_RingPlaces.K1
  refine SJ.seq (by kernel_rfl) ?_
  refine SJ.region (id := 20) (by kernel_rfl) [0, 1, 2, 3, 4, 5, 6, 7, 8, 9, 10, 11, 12, 13, 14] (by kernel_rfl) ?_
  refine OJ.run [0, 1, 2] [3, 4, 5, 6, 7, 8, 9, 10, 11, 12, 13, 14] [4, 11, 12, 13, 14, 16, 17, 22, 112] (m2 := [(4, Sl.v a4), (11, .pointer r1.1), (12, .int .i64 r1.2.1), (13, .int .i64 r1.2.2.1), (14, .int .i64 r1.2.2.2.1), (16, .int .i64 s6), (17, .pointer (some (pt b41 0))), (22, .int .i64 s51), (112, .bool (r43 != 0))]) (by kernel_rfl) (by kernel_rfl) ?_
  refine OJ.join (b := (r43 != 0)) [3, 4, 5] [6, 7, 8, 9, 10, 11, 12, 13, 14] [4, 11, 12, 13, 14, 16, 17, 22, 115] (fun y59 => [(4, Sl.v a4), (11, .pointer r1.1), (12, .int .i64 r1.2.1), (13, .int .i64 r1.2.2.1), (14, .int .i64 r1.2.2.2.1), (16, .int .i64 s6), (17, .pointer (some (pt b41 0))), (22, .int .i64 s51), (115, .bool y59)]) [] [] (by kernel_rfl) (t := 112) (by kernel_rfl) bne_iff_ne (fun hp_ => ?_) (fun hp_ => ?_) (by kernel_rfl) (fun _ _ _ _ _ _ h_ => h_) (fun y59 => ?_)
  · refine OJ.run [3, 4, 5] [] [4, 11, 12, 13, 14, 16, 17, 22, 115] (m2 := [(4, Sl.v a4), (11, .pointer r1.1), (12, .int .i64 r1.2.1), (13, .int .i64 r1.2.2.1), (14, .int .i64 r1.2.2.2.1), (16, .int .i64 s6), (17, .pointer (some (pt b41 0))), (22, .int .i64 s51), (115, .bool (decide (s51 > 0)))]) (by kernel_rfl) (by kernel_rfl) ?_
    exact OJ.nil ⟨(Cov.mem Cov.nil), rfl, _, rfl, by kernel_rfl⟩
  · refine OJ.run [3, 4, 5] [] [4, 11, 12, 13, 14, 16, 17, 22, 115] (m2 := [(4, Sl.v a4), (11, .pointer r1.1), (12, .int .i64 r1.2.1), (13, .int .i64 r1.2.2.1), (14, .int .i64 r1.2.2.2.1), (16, .int .i64 s6), (17, .pointer (some (pt b41 0))), (22, .int .i64 s51), (115, .bool false)]) (by kernel_rfl) (by kernel_rfl) ?_
    exact OJ.nil ⟨(Cov.mem Cov.nil), rfl, _, rfl, by kernel_rfl⟩
  · refine OJ.run [6] [7, 8, 9, 10, 11, 12, 13, 14] [4, 11, 12, 13, 14, 16, 17, 22, 116] (m2 := [(4, Sl.v a4), (11, .pointer r1.1), (12, .int .i64 r1.2.1), (13, .int .i64 r1.2.2.1), (14, .int .i64 r1.2.2.2.1), (16, .int .i64 s6), (17, .pointer (some (pt b41 0))), (22, .int .i64 s51), (116, .bool y59)]) (by kernel_rfl) (by kernel_rfl) ?_
    refine OJ.join (b := y59) [7, 8, 9, 10, 11, 12, 13, 14] [] [4, 11, 12, 13, 14, 16, 124] (fun y61 => [(4, Sl.v a4), (11, .pointer r1.1), (12, .int .i64 r1.2.1), (13, .int .i64 r1.2.2.1), (14, .int .i64 r1.2.2.2.1), (16, .int .i64 s6), (124, .bool y61)]) [] [] (by kernel_rfl) (t := 116) (by kernel_rfl) Iff.rfl (fun hp_ => ?_) (fun hp_ => ?_) (by kernel_rfl) (fun _ _ _ _ _ _ h_ => h_) (fun y61 => ?_)
    · refine OJ.run [7, 8, 9, 10, 11, 12, 13, 14] [] [4, 11, 12, 13, 14, 16, 124] (m2 := [(4, Sl.v a4), (11, .pointer r1.1), (12, .int .i64 r1.2.1), (13, .int .i64 r1.2.2.1), (14, .int .i64 r1.2.2.2.1), (16, .int .i64 s6), (124, .bool true)]) (by kernel_rfl) (by kernel_rfl) ?_
      exact OJ.nil ⟨(Cov.mem Cov.nil), rfl, _, rfl, by kernel_rfl⟩
    · refine OJ.run [7] [8, 9, 10, 11, 12, 13, 14] [4, 11, 12, 13, 14, 16, 22, 116, 117] (m2 := [(4, Sl.v a4), (11, .pointer r1.1), (12, .int .i64 r1.2.1), (13, .int .i64 r1.2.2.1), (14, .int .i64 r1.2.2.2.1), (16, .int .i64 s6), (22, .int .i64 s51), (116, .bool false), (117, .pointer (some (pt b41 0)))]) (by kernel_rfl) (by kernel_rfl) ?_
      refine OJ.kld (d := 118) (T := 3) (y := .tmp 117) (cd := (cI .i64)) (j := 0) (b := b41) (o := 0) x40.Kind (pend2 := []) (by kernel_rfl) (by kernel_rfl) Ty3 (by kernel_rfl) rfl (At_weirlaw3_Op_Kind x40) (by kernel_rfl) rfl ?_
      refine OJ.run [9, 10] [11, 12, 13, 14] [4, 11, 12, 13, 14, 16, 22, 116, 120] (m2 := [(4, Sl.v a4), (11, .pointer r1.1), (12, .int .i64 r1.2.1), (13, .int .i64 r1.2.2.1), (14, .int .i64 r1.2.2.2.1), (16, .int .i64 s6), (22, .int .i64 s51), (116, .bool false), (120, .bool (x40.Kind != 1))]) (by kernel_rfl) (by kernel_rfl) ?_
      refine OJ.join (b := (x40.Kind != 1)) [11, 12, 13] [14] [4, 11, 12, 13, 14, 16, 116, 123] (fun y60 => [(4, Sl.v a4), (11, .pointer r1.1), (12, .int .i64 r1.2.1), (13, .int .i64 r1.2.2.1), (14, .int .i64 r1.2.2.2.1), (16, .int .i64 s6), (116, .bool false), (123, .bool y60)]) [] [] (by kernel_rfl) (t := 120) (by kernel_rfl) bne_iff_ne (fun hp_ => ?_) (fun hp_ => ?_) (by kernel_rfl) (fun _ _ _ _ _ hq_ h_ => ⟨fun e_ he_ => (hq_ e_ he_).elim (fun h => h_.1 e_ h) (fun h => nomatch h), h_.2⟩) (fun y60 => ?_)
      · refine OJ.run [11, 12, 13] [] [4, 11, 12, 13, 14, 16, 116, 123] (m2 := [(4, Sl.v a4), (11, .pointer r1.1), (12, .int .i64 r1.2.1), (13, .int .i64 r1.2.2.1), (14, .int .i64 r1.2.2.2.1), (16, .int .i64 s6), (116, .bool false), (123, .bool (decide (s51 > 1)))]) (by kernel_rfl) (by kernel_rfl) ?_
        exact OJ.nil ⟨(Cov.mem Cov.nil), rfl, _, rfl, by kernel_rfl⟩
      · refine OJ.run [11, 12, 13] [] [4, 11, 12, 13, 14, 16, 116, 123] (m2 := [(4, Sl.v a4), (11, .pointer r1.1), (12, .int .i64 r1.2.1), (13, .int .i64 r1.2.2.1), (14, .int .i64 r1.2.2.2.1), (16, .int .i64 s6), (116, .bool false), (123, .bool false)]) (by kernel_rfl) (by kernel_rfl) ?_
        exact OJ.nil ⟨(Cov.mem Cov.nil), rfl, _, rfl, by kernel_rfl⟩
      · refine OJ.run [14] [] [4, 11, 12, 13, 14, 16, 124] (m2 := [(4, Sl.v a4), (11, .pointer r1.1), (12, .int .i64 r1.2.1), (13, .int .i64 r1.2.2.1), (14, .int .i64 r1.2.2.2.1), (16, .int .i64 s6), (124, .bool y60)]) (by kernel_rfl) (by kernel_rfl) ?_
        exact OJ.nil ⟨(Cov.mem Cov.nil), rfl, _, rfl, by kernel_rfl⟩
    · refine OJ.nil ?_
      refine SJ.cond (t := (.tmp 124)) (b := y61) (by kernel_rfl) (by kernel_rfl) Iff.rfl (fun hc62 => ?_) (fun hc62 => ?_)
      · refine SJ.seq (by kernel_rfl) ?_
        refine SJ.region (id := 21) (by kernel_rfl) [0] (by kernel_rfl) ?_
        refine OJ.run [0] [] [10] (m2 := [(10, .bool false)]) (by kernel_rfl) (by kernel_rfl) ?_
        refine OJ.nil ?_
        exact SJ.ret (by kernel_rfl) rfl (Res.run (ys := [.bool false]) (.tmp (by kernel_rfl) .nil) rfl)
      · refine SJ.skip (by kernel_rfl) ?_
        refine SJ.inBlock ?_
        refine SJ.region (id := 6) (by kernel_rfl) [0, 1, 2] (by kernel_rfl) ?_
        refine OJ.run [0, 1, 2] [] [4, 11, 12, 13, 14, 16] (m2 := [(4, Sl.v a4), (11, .pointer r1.1), (12, .int .i64 r1.2.1), (13, .int .i64 r1.2.2.1), (14, .int .i64 r1.2.2.2.1), (16, .int .i64 (IntKind.wrap .i64 (s6 + 1)))]) (by kernel_rfl) (by kernel_rfl) ?_
        refine OJ.nil ?_
        refine SJ.forget (List.Sublist.cons _ List.Sublist.slnil) ?_
        exact SJ.at_ [4, 11, 12, 13, 14, 16] rfl (by kernel_rfl)
noncomputable def weirlaw3_RingPlaces.F2 (a4 : Sl) (r1 : ((Option Addr) × Int × Int × Int × Int)) (s6 : Int) (x40 : weirlaw3_Op) (b41 : Nat) (r42 : Sl) (r43 : Int) (r44 : Sl) : (LS (Int × Int) (LS Int Bool)) → Reach := loopF [.inLoop (c1 (c1 (c2 (c1 (c2 (c2 (c2 (c2 (c2 (c2 (c2 (c1 (c1 (c2 (c1 (c1 (c2 (c1 (c2 (c2 (c2 weirlaw3_RingPlaces.B))))))))))))))))))))), .inBlock 2, .code (c2 (c2 (c2 (c2 (c2 (c2 (c2 (c2 (c1 (c1 (c2 (c1 (c1 (c2 (c1 (c2 (c2 (c2 weirlaw3_RingPlaces.B)))))))))))))))))), .inBlock 1, .code (c2 (c2 (c1 (c1 (c2 (c1 (c2 (c2 (c2 weirlaw3_RingPlaces.B))))))))), .inLoop (c1 (c1 (c2 (c1 (c2 (c2 (c2 weirlaw3_RingPlaces.B))))))), .inBlock 0, .code (c2 (c2 (c2 (c2 weirlaw3_RingPlaces.B))))] (fun s_ : (Int × Int) => [(4, Sl.v a4), (11, .pointer r1.1), (12, .int .i64 r1.2.1), (13, .int .i64 r1.2.2.1), (14, .int .i64 r1.2.2.2.1), (16, .int .i64 s6), (17, .pointer (some (pt b41 0))), (18, Sl.v r42), (19, .int .i64 r43), (20, Sl.v r44), (22, .int .i64 s_.1), (23, .int .i64 s_.2)]) (fun s_ : (Int × Int) => [(b41, c_weirlaw3_Op.enc x40)]) (weirlaw3_RingPlaces.F1 a4 r1)
noncomputable def weirlaw3_RingPlaces.L2 (r1 : ((Option Addr) × Int × Int × Int × Int)) (s6 : Int) (x40 : weirlaw3_Op) (r42 : Sl) (r43 : Int) (r44 : Sl) (s51 : Int) (s52 : Int) : M (LS (Int × Int) (LS Int Bool)) :=
  if s52 < r1.2.2.2.1 then
    draw >>= fun _ =>
    idx r42.a r42.len s52 1 >>= fun p63 =>
    ld (cI .i64) p63 >>= fun x64 =>
    idx r44.a r44.len s52 1 >>= fun p65 =>
    ld (cI .i64) p65 >>= fun x66 =>
    if x64 ≠ x66 then
      pure (LS.next (IntKind.wrap .i64 (s51 + 1), IntKind.wrap .i64 (s52 + 1)))
    else
      pure (LS.next (s51, IntKind.wrap .i64 (s52 + 1)))
  else
    (weirlaw3_RingPlaces.K1 s6 x40 r43 s51) >>= fun b => pure (LS.done b)
theorem weirlaw3_RingPlaces.L2_ok (a4 : Sl) (r1 : ((Option Addr) × Int × Int × Int × Int)) (s6 : Int) (x40 : weirlaw3_Op) (b41 : Nat) (r42 : Sl) (r43 : Int) (r44 : Sl) (s51 : Int) (s52 : Int) :
    SJ weirlaw3_RingPlaces.cx [.code (c1 (c1 (c2 (c1 (c2 (c2 (c2 (c2 (c2 (c2 (c2 (c1 (c1 (c2 (c1 (c1 (c2 (c1 (c2 (c2 (c2 weirlaw3_RingPlaces.B))))))))))))))))))))), .inLoop (c1 (c1 (c2 (c1 (c2 (c2 (c2 (c2 (c2 (c2 (c2 (c1 (c1 (c2 (c1 (c1 (c2 (c1 (c2 (c2 (c2 weirlaw3_RingPlaces.B))))))))))))))))))))), .inBlock 2, .code (c2 (c2 (c2 (c2 (c2 (c2 (c2 (c2 (c1 (c1 (c2 (c1 (c1 (c2 (c1 (c2 (c2 (c2 weirlaw3_RingPlaces.B)))))))))))))))))), .inBlock 1, .code (c2 (c2 (c1 (c1 (c2 (c1 (c2 (c2 (c2 weirlaw3_RingPlaces.B))))))))), .inLoop (c1 (c1 (c2 (c1 (c2 (c2 (c2 weirlaw3_RingPlaces.B))))))), .inBlock 0, .code (c2 (c2 (c2 (c2 weirlaw3_RingPlaces.B))))] [(4, Sl.v a4), (11, .pointer r1.1), (12, .int .i64 r1.2.1), (13, .int .i64 r1.2.2.1), (14, .int .i64 r1.2.2.2.1), (16, .int .i64 s6), (17, .pointer (some (pt b41 0))), (18, Sl.v r42), (19, .int .i64 r43), (20, Sl.v r44), (22, .int .i64 s51), (23, .int .i64 s52)] [(b41, c_weirlaw3_Op.enc x40)] (weirlaw3_RingPlaces.L2 r1 s6 x40 r42 r43 r44 s51 s52) (weirlaw3_RingPlaces.F2 a4 r1 s6 x40 b41 r42 r43 r44) := by
  unfold weirlaw3_RingPlaces.L2
  refine SJ.seq (by kernel_rfl) ?_
  refine SJ.seq (by kernel_rfl) ?_
  refine SJ.region (id := 16) (by kernel_rfl) [0, 1, 2] (by kernel_rfl) ?_
  refine OJ.run [0, 1, 2] [] [4, 11, 12, 13, 14, 16, 17, 18, 19, 20, 22, 23, 96] (m2 := [(4, Sl.v a4), (11, .pointer r1.1), (12, .int .i64 r1.2.1), (13, .int .i64 r1.2.2.1), (14, .int .i64 r1.2.2.2.1), (16, .int .i64 s6), (17, .pointer (some (pt b41 0))), (18, Sl.v r42), (19, .int .i64 r43), (20, Sl.v r44), (22, .int .i64 s51), (23, .int .i64 s52), (96, .bool (decide (s52 < r1.2.2.2.1)))]) (by kernel_rfl) (by kernel_rfl) ?_
  refine OJ.nil ?_
  refine SJ.cond (t := (.tmp 96)) (b := decide (s52 < r1.2.2.2.1)) (by kernel_rfl) (by kernel_rfl) decide_eq_true_iff (fun hc68 => ?_) (fun hc68 => ?_)
  · refine SJ.skip (by kernel_rfl) ?_
    refine SJ.seq (by kernel_rfl) ?_
    refine SJ.block (id := 3) (by kernel_rfl) ?_
    refine SJ.seq (by kernel_rfl) ?_
    refine SJ.draw (id := 18) (kd := [0, 0, 0, 1, 0, 0, 0, 1, 0]) (bef := [0, 0, 3, 7, 0, 0, 48, 112, 255]) (ord := [0, 1, 2, 3, 4, 5, 6, 7, 8]) (by kernel_rfl) mixed (by kernel_rfl) ?_
    refine OJ.run [0, 1] [2, 3, 4, 5, 6, 7, 8] [4, 11, 12, 13, 14, 16, 17, 18, 19, 20, 22, 23, 99, 100] (m2 := [(4, Sl.v a4), (11, .pointer r1.1), (12, .int .i64 r1.2.1), (13, .int .i64 r1.2.2.1), (14, .int .i64 r1.2.2.2.1), (16, .int .i64 s6), (17, .pointer (some (pt b41 0))), (18, Sl.v r42), (19, .int .i64 r43), (20, Sl.v r44), (22, .int .i64 s51), (23, .int .i64 s52), (99, Sl.v r42), (100, .int .i64 s52)]) (by kernel_rfl) (by kernel_rfl) ?_
    refine OJ.idxS (d := 101) (T := 67) (y := .tmp 99) (j := .tmp 100) (E := 3) (cap := r42.cap) (k := .i64) (by kernel_rfl) (by kernel_rfl) (by kernel_rfl) (by kernel_rfl) (by kernel_rfl) (by kernel_rfl) (by kernel_rfl) (by kernel_rfl) (fun p63 => ?_)
    refine OJ.ld (d := 102) (T := 3) (y := .tmp 101) (pend2 := fun x64 => [⟨3, 3, p63, (cI .i64).val x64⟩]) (by kernel_rfl) (by kernel_rfl) Ty3 (by kernel_rfl) (by kernel_rfl) (fun _ => rfl) (fun x64 => ?_)
    refine OJ.run [4, 5] [6, 7, 8] [4, 11, 12, 13, 14, 16, 17, 18, 19, 20, 22, 23, 102, 103, 104] (m2 := [(4, Sl.v a4), (11, .pointer r1.1), (12, .int .i64 r1.2.1), (13, .int .i64 r1.2.2.1), (14, .int .i64 r1.2.2.2.1), (16, .int .i64 s6), (17, .pointer (some (pt b41 0))), (18, Sl.v r42), (19, .int .i64 r43), (20, Sl.v r44), (22, .int .i64 s51), (23, .int .i64 s52), (102, .int .i64 x64), (103, Sl.v r44), (104, .int .i64 s52)]) (by kernel_rfl) (by kernel_rfl) ?_
    refine OJ.idxS (d := 105) (T := 67) (y := .tmp 103) (j := .tmp 104) (E := 3) (cap := r44.cap) (k := .i64) (by kernel_rfl) (by kernel_rfl) (by kernel_rfl) (by kernel_rfl) (by kernel_rfl) (by kernel_rfl) (by kernel_rfl) (by kernel_rfl) (fun p65 => ?_)
    refine OJ.ld (d := 106) (T := 3) (y := .tmp 105) (pend2 := fun x66 => [⟨7, 3, p65, (cI .i64).val x66⟩, ⟨3, 3, p63, (cI .i64).val x64⟩]) (by kernel_rfl) (by kernel_rfl) Ty3 (by kernel_rfl) (by kernel_rfl) (fun _ => rfl) (fun x66 => ?_)
    refine OJ.run [8] [] [4, 11, 12, 13, 14, 16, 17, 18, 19, 20, 22, 23, 107] (m2 := [(4, Sl.v a4), (11, .pointer r1.1), (12, .int .i64 r1.2.1), (13, .int .i64 r1.2.2.1), (14, .int .i64 r1.2.2.2.1), (16, .int .i64 s6), (17, .pointer (some (pt b41 0))), (18, Sl.v r42), (19, .int .i64 r43), (20, Sl.v r44), (22, .int .i64 s51), (23, .int .i64 s52), (107, .bool (x64 != x66))]) (by kernel_rfl) (by kernel_rfl) ?_
    refine OJ.nil ?_
    refine SJ.cond (t := (.tmp 107)) (b := (x64 != x66)) (by kernel_rfl) (by kernel_rfl) bne_iff_ne (fun hc67 => ?_) (fun hc67 => ?_)
    · refine SJ.region (id := 19) (by kernel_rfl) [0, 1, 2] (by kernel_rfl) ?_
      refine OJ.run [0, 1, 2] [] [4, 11, 12, 13, 14, 16, 17, 18, 19, 20, 22, 23] (m2 := [(4, Sl.v a4), (11, .pointer r1.1), (12, .int .i64 r1.2.1), (13, .int .i64 r1.2.2.1), (14, .int .i64 r1.2.2.2.1), (16, .int .i64 s6), (17, .pointer (some (pt b41 0))), (18, Sl.v r42), (19, .int .i64 r43), (20, Sl.v r44), (22, .int .i64 (IntKind.wrap .i64 (s51 + 1))), (23, .int .i64 s52)]) (by kernel_rfl) (by kernel_rfl) ?_
      refine OJ.nil ?_
      refine SJ.inBlock ?_
      refine SJ.region (id := 17) (by kernel_rfl) [0, 1, 2] (by kernel_rfl) ?_
      refine OJ.run [0, 1, 2] [] [4, 11, 12, 13, 14, 16, 17, 18, 19, 20, 22, 23] (m2 := [(4, Sl.v a4), (11, .pointer r1.1), (12, .int .i64 r1.2.1), (13, .int .i64 r1.2.2.1), (14, .int .i64 r1.2.2.2.1), (16, .int .i64 s6), (17, .pointer (some (pt b41 0))), (18, Sl.v r42), (19, .int .i64 r43), (20, Sl.v r44), (22, .int .i64 (IntKind.wrap .i64 (s51 + 1))), (23, .int .i64 (IntKind.wrap .i64 (s52 + 1)))]) (by kernel_rfl) (by kernel_rfl) ?_
      refine OJ.nil ?_
      exact SJ.at_ [4, 11, 12, 13, 14, 16, 17, 18, 19, 20, 22, 23] rfl (by kernel_rfl)
    · refine SJ.skip (by kernel_rfl) ?_
      refine SJ.inBlock ?_
      refine SJ.region (id := 17) (by kernel_rfl) [0, 1, 2] (by kernel_rfl) ?_
      refine OJ.run [0, 1, 2] [] [4, 11, 12, 13, 14, 16, 17, 18, 19, 20, 22, 23] (m2 := [(4, Sl.v a4), (11, .pointer r1.1), (12, .int .i64 r1.2.1), (13, .int .i64 r1.2.2.1), (14, .int .i64 r1.2.2.2.1), (16, .int .i64 s6), (17, .pointer (some (pt b41 0))), (18, Sl.v r42), (19, .int .i64 r43), (20, Sl.v r44), (22, .int .i64 s51), (23, .int .i64 (IntKind.wrap .i64 (s52 + 1)))]) (by kernel_rfl) (by kernel_rfl) ?_
      refine OJ.nil ?_
      exact SJ.at_ [4, 11, 12, 13, 14, 16, 17, 18, 19, 20, 22, 23] rfl (by kernel_rfl)
  · refine SJ.exit (id := 2) (by kernel_rfl) (by rfl) ?_
    refine SJ.less [4, 11, 12, 13, 14, 16, 17, 19, 22] (m' := [(4, Sl.v a4), (11, .pointer r1.1), (12, .int .i64 r1.2.1), (13, .int .i64 r1.2.2.1), (14, .int .i64 r1.2.2.2.1), (16, .int .i64 s6), (17, .pointer (some (pt b41 0))), (19, .int .i64 r43), (22, .int .i64 s51)]) (by kernel_rfl) ?_
    refine SJ.done ?_
    exact weirlaw3_RingPlaces.K1_ok a4 r1 s6 x40 b41 r43 s51
noncomputable def weirlaw3_RingPlaces.L1 (a4 : Sl) (r1 : ((Option Addr) × Int × Int × Int × Int)) (s6 : Int) : M (LS Int Bool) :=
  if s6 < (a4.len : Int) then
    idx a4.a a4.len s6 5 >>= fun p39 =>
    ld c_weirlaw3_Op p39 >>= fun x40 =>
    slot 45 >>= fun b41 =>
    ring_Port_Places r1.1 >>= fun r42 =>
    weirlaw3_do r1.1 x40 >>= fun r43 =>
    ring_Port_Places r1.1 >>= fun r44 =>
    ring_Port_Stat r1.1 >>= fun r45 =>
    slot 52 >>= fun b46 =>
    weirlaw3_together r1.1 r1.2.2.2.1 >>= fun r47 =>
    (if ¬ (r47 = true) then
        pure true
      else
        pure (decide ((IntKind.wrap .i64 (r45.Posted + r45.Filled)) > r1.2.1))) >>= fun y48 =>
    (if y48 = true then
        pure true
      else
        pure (decide (r45.Queued > r1.2.2.1))) >>= fun y49 =>
    (if y49 = true then
        pure true
      else
        pure ((r42.len : Int) != (r44.len : Int))) >>= fun y50 =>
    if y50 = true then
      pure (LS.done false)
    else
      loopM (fun s_ : (Int × Int) => weirlaw3_RingPlaces.L2 r1 s6 x40 r42 r43 r44 s_.1 s_.2) (0, 0)
  else
    pure (LS.done true)
theorem weirlaw3_RingPlaces.L1_ok (a4 : Sl) (r1 : ((Option Addr) × Int × Int × Int × Int)) (s6 : Int) :
    SJ weirlaw3_RingPlaces.cx [.code (c1 (c1 (c2 (c1 (c2 (c2 (c2 weirlaw3_RingPlaces.B))))))), .inLoop (c1 (c1 (c2 (c1 (c2 (c2 (c2 weirlaw3_RingPlaces.B))))))), .inBlock 0, .code (c2 (c2 (c2 (c2 weirlaw3_RingPlaces.B))))] [(4, Sl.v a4), (11, .pointer r1.1), (12, .int .i64 r1.2.1), (13, .int .i64 r1.2.2.1), (14, .int .i64 r1.2.2.2.1), (16, .int .i64 s6)] [] (weirlaw3_RingPlaces.L1 a4 r1 s6) (weirlaw3_RingPlaces.F1 a4 r1) := by
  unfold weirlaw3_RingPlaces.L1
  refine SJ.seq (by kernel_rfl) ?_
  refine SJ.seq (by kernel_rfl) ?_
  refine SJ.region (id := 5) (by kernel_rfl) [0, 1, 2, 3] (by kernel_rfl) ?_
  refine OJ.run [0, 1, 2, 3] [] [4, 11, 12, 13, 14, 16, 52] (m2 := [(4, Sl.v a4), (11, .pointer r1.1), (12, .int .i64 r1.2.1), (13, .int .i64 r1.2.2.1), (14, .int .i64 r1.2.2.2.1), (16, .int .i64 s6), (52, .bool (decide (s6 < (a4.len : Int))))]) (by kernel_rfl) (by kernel_rfl) ?_
  refine OJ.nil ?_
  refine SJ.cond (t := (.tmp 52)) (b := decide (s6 < (a4.len : Int))) (by kernel_rfl) (by kernel_rfl) decide_eq_true_iff (fun hc70 => ?_) (fun hc70 => ?_)
  · refine SJ.skip (by kernel_rfl) ?_
    refine SJ.seq (by kernel_rfl) ?_
    refine SJ.block (id := 1) (by kernel_rfl) ?_
    refine SJ.seq (by kernel_rfl) ?_
    refine SJ.region (id := 7) (by kernel_rfl) [0, 1, 2, 3, 4, 5] (by kernel_rfl) ?_
    refine OJ.run [0, 1] [2, 3, 4, 5] [4, 11, 12, 13, 14, 16, 55, 56] (m2 := [(4, Sl.v a4), (11, .pointer r1.1), (12, .int .i64 r1.2.1), (13, .int .i64 r1.2.2.1), (14, .int .i64 r1.2.2.2.1), (16, .int .i64 s6), (55, Sl.v a4), (56, .int .i64 s6)]) (by kernel_rfl) (by kernel_rfl) ?_
    refine OJ.idxS (d := 57) (T := 40) (y := .tmp 55) (j := .tmp 56) (E := 45) (cap := a4.cap) (k := .i64) (by kernel_rfl) (by kernel_rfl) (by kernel_rfl) (by kernel_rfl) (by kernel_rfl) (by kernel_rfl) (by kernel_rfl) (by kernel_rfl) (fun p39 => ?_)
    refine OJ.ld (d := 58) (T := 45) (y := .tmp 57) (pend2 := fun x40 => []) (by kernel_rfl) (by kernel_rfl) Ty45 (by kernel_rfl) (by kernel_rfl) (fun _ => rfl) (fun x40 => ?_)
    refine OJ.slotOf (d := 17) (op := (.alloc 45)) (cd := c_weirlaw3_Op) (u := z_weirlaw3_Op) (owed := []) (by kernel_rfl) (alloc_run Ty45) (by kernel_rfl) (by kernel_rfl) (by kernel_rfl) (fun b41 => ?_)
    refine OW.nil ?_
    refine OJ.kst (T := 45) (y := .tmp 17) (z := .tmp 58) (cd := c_weirlaw3_Op) (u := x40) (j := 0) (b := b41) (o := 0) (c_weirlaw3_Op.enc x40) (h2 := [(b41, c_weirlaw3_Op.enc x40)]) (owed := []) (by kernel_rfl) (by kernel_rfl) (by kernel_rfl) Ty45 rfl (Upd.whole ((Cod.len _ _).trans (Cod.len _ _).symm)) (by kernel_rfl) (by kernel_rfl) rfl ?_
    refine OW.nil ?_
    refine OJ.nil ?_
    refine SJ.seq (by kernel_rfl) ?_
    refine SJ.region (id := 8) (by kernel_rfl) [0, 1, 2] (by kernel_rfl) ?_
    refine OJ.run [0] [1, 2] [4, 11, 12, 13, 14, 16, 17, 59] (m2 := [(4, Sl.v a4), (11, .pointer r1.1), (12, .int .i64 r1.2.1), (13, .int .i64 r1.2.2.1), (14, .int .i64 r1.2.2.2.1), (16, .int .i64 s6), (17, .pointer (some (pt b41 0))), (59, .pointer r1.1)]) (by kernel_rfl) (by kernel_rfl) ?_
    refine OJ.call (d := 60) (g := 32) (ats := #[23]) (args := [.tmp 59]) (vals := [.pointer r1.1]) (owed := []) (by kernel_rfl) F32 (by kernel_rfl) (ring_Port_Places_ok r1.1) (by kernel_rfl) (by kernel_rfl) (by kernel_rfl) (fun r42 => ?_)
    refine OW.nil ?_
    refine OJ.run [2] [] [4, 11, 12, 13, 14, 16, 17, 18] (m2 := [(4, Sl.v a4), (11, .pointer r1.1), (12, .int .i64 r1.2.1), (13, .int .i64 r1.2.2.1), (14, .int .i64 r1.2.2.2.1), (16, .int .i64 s6), (17, .pointer (some (pt b41 0))), (18, Sl.v r42)]) (by kernel_rfl) (by kernel_rfl) ?_
    refine OJ.nil ?_
    refine SJ.seq (by kernel_rfl) ?_
    refine SJ.region (id := 9) (by kernel_rfl) [0, 1, 2, 3] (by kernel_rfl) ?_
    refine OJ.run [0] [1, 2, 3] [4, 11, 12, 13, 14, 16, 17, 18, 61] (m2 := [(4, Sl.v a4), (11, .pointer r1.1), (12, .int .i64 r1.2.1), (13, .int .i64 r1.2.2.1), (14, .int .i64 r1.2.2.2.1), (16, .int .i64 s6), (17, .pointer (some (pt b41 0))), (18, Sl.v r42), (61, .pointer r1.1)]) (by kernel_rfl) (by kernel_rfl) ?_
    refine OJ.kld (d := 62) (T := 45) (y := .tmp 17) (cd := c_weirlaw3_Op) (j := 0) (b := b41) (o := 0) x40 (pend2 := []) (by kernel_rfl) (by kernel_rfl) Ty45 (by kernel_rfl) rfl (At.whole _) (by kernel_rfl) rfl ?_
    refine OJ.call (d := 63) (g := 26) (ats := #[23, 45]) (args := [.tmp 61, .tmp 62]) (vals := [.pointer r1.1, c_weirlaw3_Op.val x40]) (owed := []) (by kernel_rfl) F26 (by kernel_rfl) (weirlaw3_do_ok r1.1 x40) (by kernel_rfl) (by kernel_rfl) (by kernel_rfl) (fun r43 => ?_)
    refine OW.nil ?_
    refine OJ.run [3] [] [4, 11, 12, 13, 14, 16, 17, 18, 19] (m2 := [(4, Sl.v a4), (11, .pointer r1.1), (12, .int .i64 r1.2.1), (13, .int .i64 r1.2.2.1), (14, .int .i64 r1.2.2.2.1), (16, .int .i64 s6), (17, .pointer (some (pt b41 0))), (18, Sl.v r42), (19, .int .i64 r43)]) (by kernel_rfl) (by kernel_rfl) ?_
    refine OJ.nil ?_
    refine SJ.seq (by kernel_rfl) ?_
    refine SJ.region (id := 10) (by kernel_rfl) [0, 1, 2] (by kernel_rfl) ?_
    refine OJ.run [0] [1, 2] [4, 11, 12, 13, 14, 16, 17, 18, 19, 64] (m2 := [(4, Sl.v a4), (11, .pointer r1.1), (12, .int .i64 r1.2.1), (13, .int .i64 r1.2.2.1), (14, .int .i64 r1.2.2.2.1), (16, .int .i64 s6), (17, .pointer (some (pt b41 0))), (18, Sl.v r42), (19, .int .i64 r43), (64, .pointer r1.1)]) (by kernel_rfl) (by kernel_rfl) ?_
    refine OJ.call (d := 65) (g := 32) (ats := #[23]) (args := [.tmp 64]) (vals := [.pointer r1.1]) (owed := []) (by kernel_rfl) F32 (by kernel_rfl) (ring_Port_Places_ok r1.1) (by kernel_rfl) (by kernel_rfl) (by kernel_rfl) (fun r44 => ?_)
    refine OW.nil ?_
    refine OJ.run [2] [] [4, 11, 12, 13, 14, 16, 17, 18, 19, 20] (m2 := [(4, Sl.v a4), (11, .pointer r1.1), (12, .int .i64 r1.2.1), (13, .int .i64 r1.2.2.1), (14, .int .i64 r1.2.2.2.1), (16, .int .i64 s6), (17, .pointer (some (pt b41 0))), (18, Sl.v r42), (19, .int .i64 r43), (20, Sl.v r44)]) (by kernel_rfl) (by kernel_rfl) ?_
    refine OJ.nil ?_
    refine SJ.seq (by kernel_rfl) ?_
    refine SJ.region (id := 11) (by kernel_rfl) [0, 1, 2, 3] (by kernel_rfl) ?_
    refine OJ.run [0] [1, 2, 3] [4, 11, 12, 13, 14, 16, 17, 18, 19, 20, 66] (m2 := [(4, Sl.v a4), (11, .pointer r1.1), (12, .int .i64 r1.2.1), (13, .int .i64 r1.2.2.1), (14, .int .i64 r1.2.2.2.1), (16, .int .i64 s6), (17, .pointer (some (pt b41 0))), (18, Sl.v r42), (19, .int .i64 r43), (20, Sl.v r44), (66, .pointer r1.1)]) (by kernel_rfl) (by kernel_rfl) ?_
    refine OJ.call (d := 67) (g := 27) (ats := #[23]) (args := [.tmp 66]) (vals := [.pointer r1.1]) (owed := []) (by kernel_rfl) F27 (by kernel_rfl) (ring_Port_Stat_ok r1.1) (by kernel_rfl) (by kernel_rfl) (by kernel_rfl) (fun r45 => ?_)
    refine OW.nil ?_
    refine OJ.slotOf (d := 21) (op := (.alloc 52)) (cd := c_api_RingStat) (u := z_api_RingStat) (owed := []) (by kernel_rfl) (alloc_run Ty52) (by kernel_rfl) (by kernel_rfl) (by kernel_rfl) (fun b46 => ?_)
    refine OW.nil ?_
    refine OJ.kst (T := 52) (y := .tmp 21) (z := .tmp 67) (cd := c_api_RingStat) (u := r45) (j := 0) (b := b46) (o := 0) (c_api_RingStat.enc r45) (h2 := [(b46, c_api_RingStat.enc r45), (b41, c_weirlaw3_Op.enc x40)]) (owed := []) (by kernel_rfl) (by kernel_rfl) (by kernel_rfl) Ty52 rfl (Upd.whole ((Cod.len _ _).trans (Cod.len _ _).symm)) (by kernel_rfl) (by kernel_rfl) rfl ?_
    refine OW.nil ?_
    refine OJ.nil ?_
    refine SJ.seq (by kernel_rfl) ?_
    refine SJ.seq (by kernel_rfl) ?_
    refine SJ.region (id := 12) (by kernel_rfl) [0, 1, 2, 3, 4, 5, 6, 7, 8, 9, 10, 11, 12, 13, 14, 15, 16, 17, 18, 19, 20, 21, 22, 23, 24, 25] (by kernel_rfl) ?_
    refine OJ.run [0, 1] [2, 3, 4, 5, 6, 7, 8, 9, 10, 11, 12, 13, 14, 15, 16, 17, 18, 19, 20, 21, 22, 23, 24, 25] [4, 11, 12, 13, 14, 16, 17, 18, 19, 20, 21, 68, 69] (m2 := [(4, Sl.v a4), (11, .pointer r1.1), (12, .int .i64 r1.2.1), (13, .int .i64 r1.2.2.1), (14, .int .i64 r1.2.2.2.1), (16, .int .i64 s6), (17, .pointer (some (pt b41 0))), (18, Sl.v r42), (19, .int .i64 r43), (20, Sl.v r44), (21, .pointer (some (pt b46 0))), (68, .pointer r1.1), (69, .int .i64 r1.2.2.2.1)]) (by kernel_rfl) (by kernel_rfl) ?_
    refine OJ.call (d := 70) (g := 33) (ats := #[23, 3]) (args := [.tmp 68, .tmp 69]) (vals := [.pointer r1.1, .int .i64 r1.2.2.2.1]) (owed := []) (by kernel_rfl) F33 (by kernel_rfl) (weirlaw3_together_ok r1.1 r1.2.2.2.1) (by kernel_rfl) (by kernel_rfl) (by kernel_rfl) (fun r47 => ?_)
    refine OW.nil ?_
    refine OJ.run [3, 4] [5, 6, 7, 8, 9, 10, 11, 12, 13, 14, 15, 16, 17, 18, 19, 20, 21, 22, 23, 24, 25] [4, 11, 12, 13, 14, 16, 17, 18, 19, 20, 21, 72] (m2 := [(4, Sl.v a4), (11, .pointer r1.1), (12, .int .i64 r1.2.1), (13, .int .i64 r1.2.2.1), (14, .int .i64 r1.2.2.2.1), (16, .int .i64 s6), (17, .pointer (some (pt b41 0))), (18, Sl.v r42), (19, .int .i64 r43), (20, Sl.v r44), (21, .pointer (some (pt b46 0))), (72, .bool (!r47))]) (by kernel_rfl) (by kernel_rfl) ?_
    refine OJ.join (b := (!r47)) [5, 6, 7, 8, 9, 10, 11, 12] [13, 14, 15, 16, 17, 18, 19, 20, 21, 22, 23, 24, 25] [4, 11, 12, 13, 14, 16, 17, 18, 19, 20, 21, 80] (fun y48 => [(4, Sl.v a4), (11, .pointer r1.1), (12, .int .i64 r1.2.1), (13, .int .i64 r1.2.2.1), (14, .int .i64 r1.2.2.2.1), (16, .int .i64 s6), (17, .pointer (some (pt b41 0))), (18, Sl.v r42), (19, .int .i64 r43), (20, Sl.v r44), (21, .pointer (some (pt b46 0))), (80, .bool y48)]) [] [] (by kernel_rfl) (t := 72) (by kernel_rfl) (bnot_iff Iff.rfl) (fun hp_ => ?_) (fun hp_ => ?_) (by kernel_rfl) (fun _ _ _ _ _ _ h_ => h_) (fun y48 => ?_)
    · refine OJ.run [5, 6, 7, 8, 9, 10, 11, 12] [] [4, 11, 12, 13, 14, 16, 17, 18, 19, 20, 21, 80] (m2 := [(4, Sl.v a4), (11, .pointer r1.1), (12, .int .i64 r1.2.1), (13, .int .i64 r1.2.2.1), (14, .int .i64 r1.2.2.2.1), (16, .int .i64 s6), (17, .pointer (some (pt b41 0))), (18, Sl.v r42), (19, .int .i64 r43), (20, Sl.v r44), (21, .pointer (some (pt b46 0))), (80, .bool true)]) (by kernel_rfl) (by kernel_rfl) ?_
      exact OJ.nil ⟨(Cov.mem Cov.nil), rfl, _, rfl, by kernel_rfl⟩
    · refine OJ.run [5] [6, 7, 8, 9, 10, 11, 12] [4, 11, 12, 13, 14, 16, 17, 18, 19, 20, 21, 72, 73] (m2 := [(4, Sl.v a4), (11, .pointer r1.1), (12, .int .i64 r1.2.1), (13, .int .i64 r1.2.2.1), (14, .int .i64 r1.2.2.2.1), (16, .int .i64 s6), (17, .pointer (some (pt b41 0))), (18, Sl.v r42), (19, .int .i64 r43), (20, Sl.v r44), (21, .pointer (some (pt b46 0))), (72, .bool false), (73, .pointer (some (pt b46 1)))]) (by kernel_rfl) (by kernel_rfl) ?_
      refine OJ.kld (d := 74) (T := 3) (y := .tmp 73) (cd := (cI .i64)) (j := 0) (b := b46) (o := 1) r45.Posted (pend2 := []) (by kernel_rfl) (by kernel_rfl) Ty3 (by kernel_rfl) rfl (At_api_RingStat_Posted r45) (by kernel_rfl) rfl ?_
      refine OJ.run [7] [8, 9, 10, 11, 12] [4, 11, 12, 13, 14, 16, 17, 18, 19, 20, 21, 72, 74, 75] (m2 := [(4, Sl.v a4), (11, .pointer r1.1), (12, .int .i64 r1.2.1), (13, .int .i64 r1.2.2.1), (14, .int .i64 r1.2.2.2.1), (16, .int .i64 s6), (17, .pointer (some (pt b41 0))), (18, Sl.v r42), (19, .int .i64 r43), (20, Sl.v r44), (21, .pointer (some (pt b46 0))), (72, .bool false), (74, .int .i64 r45.Posted), (75, .pointer (some (pt b46 2)))]) (by kernel_rfl) (by kernel_rfl) ?_
      refine OJ.kld (d := 76) (T := 3) (y := .tmp 75) (cd := (cI .i64)) (j := 0) (b := b46) (o := 2) r45.Filled (pend2 := []) (by kernel_rfl) (by kernel_rfl) Ty3 (by kernel_rfl) rfl (At_api_RingStat_Filled r45) (by kernel_rfl) rfl ?_
      refine OJ.run [9, 10, 11, 12] [] [4, 11, 12, 13, 14, 16, 17, 18, 19, 20, 21, 80] (m2 := [(4, Sl.v a4), (11, .pointer r1.1), (12, .int .i64 r1.2.1), (13, .int .i64 r1.2.2.1), (14, .int .i64 r1.2.2.2.1), (16, .int .i64 s6), (17, .pointer (some (pt b41 0))), (18, Sl.v r42), (19, .int .i64 r43), (20, Sl.v r44), (21, .pointer (some (pt b46 0))), (80, .bool (decide ((IntKind.wrap .i64 (r45.Posted + r45.Filled)) > r1.2.1)))]) (by kernel_rfl) (by kernel_rfl) ?_
      exact OJ.nil ⟨(Cov.mem Cov.nil), rfl, _, rfl, by kernel_rfl⟩
    · refine OJ.run [13] [14, 15, 16, 17, 18, 19, 20, 21, 22, 23, 24, 25] [4, 11, 12, 13, 14, 16, 17, 18, 19, 20, 21, 81] (m2 := [(4, Sl.v a4), (11, .pointer r1.1), (12, .int .i64 r1.2.1), (13, .int .i64 r1.2.2.1), (14, .int .i64 r1.2.2.2.1), (16, .int .i64 s6), (17, .pointer (some (pt b41 0))), (18, Sl.v r42), (19, .int .i64 r43), (20, Sl.v r44), (21, .pointer (some (pt b46 0))), (81, .bool y48)]) (by kernel_rfl) (by kernel_rfl) ?_
      refine OJ.join (b := y48) [14, 15, 16, 17, 18] [19, 20, 21, 22, 23, 24, 25] [4, 11, 12, 13, 14, 16, 17, 18, 19, 20, 86] (fun y49 => [(4, Sl.v a4), (11, .pointer r1.1), (12, .int .i64 r1.2.1), (13, .int .i64 r1.2.2.1), (14, .int .i64 r1.2.2.2.1), (16, .int .i64 s6), (17, .pointer (some (pt b41 0))), (18, Sl.v r42), (19, .int .i64 r43), (20, Sl.v r44), (86, .bool y49)]) [] [] (by kernel_rfl) (t := 81) (by kernel_rfl) Iff.rfl (fun hp_ => ?_) (fun hp_ => ?_) (by kernel_rfl) (fun _ _ _ _ _ _ h_ => h_) (fun y49 => ?_)
      · refine OJ.run [14, 15, 16, 17, 18] [] [4, 11, 12, 13, 14, 16, 17, 18, 19, 20, 86] (m2 := [(4, Sl.v a4), (11, .pointer r1.1), (12, .int .i64 r1.2.1), (13, .int .i64 r1.2.2.1), (14, .int .i64 r1.2.2.2.1), (16, .int .i64 s6), (17, .pointer (some (pt b41 0))), (18, Sl.v r42), (19, .int .i64 r43), (20, Sl.v r44), (86, .bool true)]) (by kernel_rfl) (by kernel_rfl) ?_
        exact OJ.nil ⟨(Cov.mem Cov.nil), rfl, _, rfl, by kernel_rfl⟩
      · refine OJ.run [14] [15, 16, 17, 18] [4, 11, 12, 13, 14, 16, 17, 18, 19, 20, 81, 82] (m2 := [(4, Sl.v a4), (11, .pointer r1.1), (12, .int .i64 r1.2.1), (13, .int .i64 r1.2.2.1), (14, .int .i64 r1.2.2.2.1), (16, .int .i64 s6), (17, .pointer (some (pt b41 0))), (18, Sl.v r42), (19, .int .i64 r43), (20, Sl.v r44), (81, .bool false), (82, .pointer (some (pt b46 4)))]) (by kernel_rfl) (by kernel_rfl) ?_
        refine OJ.kld (d := 83) (T := 3) (y := .tmp 82) (cd := (cI .i64)) (j := 0) (b := b46) (o := 4) r45.Queued (pend2 := []) (by kernel_rfl) (by kernel_rfl) Ty3 (by kernel_rfl) rfl (At_api_RingStat_Queued r45) (by kernel_rfl) rfl ?_
        refine OJ.run [16, 17, 18] [] [4, 11, 12, 13, 14, 16, 17, 18, 19, 20, 86] (m2 := [(4, Sl.v a4), (11, .pointer r1.1), (12, .int .i64 r1.2.1), (13, .int .i64 r1.2.2.1), (14, .int .i64 r1.2.2.2.1), (16, .int .i64 s6), (17, .pointer (some (pt b41 0))), (18, Sl.v r42), (19, .int .i64 r43), (20, Sl.v r44), (86, .bool (decide (r45.Queued > r1.2.2.1)))]) (by kernel_rfl) (by kernel_rfl) ?_
        exact OJ.nil ⟨(Cov.mem Cov.nil), rfl, _, rfl, by kernel_rfl⟩
      · refine OJ.run [19] [20, 21, 22, 23, 24, 25] [4, 11, 12, 13, 14, 16, 17, 18, 19, 20, 87] (m2 := [(4, Sl.v a4), (11, .pointer r1.1), (12, .int .i64 r1.2.1), (13, .int .i64 r1.2.2.1), (14, .int .i64 r1.2.2.2.1), (16, .int .i64 s6), (17, .pointer (some (pt b41 0))), (18, Sl.v r42), (19, .int .i64 r43), (20, Sl.v r44), (87, .bool y49)]) (by kernel_rfl) (by kernel_rfl) ?_
        refine OJ.join (b := y49) [20, 21, 22, 23, 24, 25] [] [4, 11, 12, 13, 14, 16, 17, 18, 19, 20, 93] (fun y50 => [(4, Sl.v a4), (11, .pointer r1.1), (12, .int .i64 r1.2.1), (13, .int .i64 r1.2.2.1), (14, .int .i64 r1.2.2.2.1), (16, .int .i64 s6), (17, .pointer (some (pt b41 0))), (18, Sl.v r42), (19, .int .i64 r43), (20, Sl.v r44), (93, .bool y50)]) [] [] (by kernel_rfl) (t := 87) (by kernel_rfl) Iff.rfl (fun hp_ => ?_) (fun hp_ => ?_) (by kernel_rfl) (fun _ _ _ _ _ _ h_ => h_) (fun y50 => ?_)
        · refine OJ.run [20, 21, 22, 23, 24, 25] [] [4, 11, 12, 13, 14, 16, 17, 18, 19, 20, 93] (m2 := [(4, Sl.v a4), (11, .pointer r1.1), (12, .int .i64 r1.2.1), (13, .int .i64 r1.2.2.1), (14, .int .i64 r1.2.2.2.1), (16, .int .i64 s6), (17, .pointer (some (pt b41 0))), (18, Sl.v r42), (19, .int .i64 r43), (20, Sl.v r44), (93, .bool true)]) (by kernel_rfl) (by kernel_rfl) ?_
          exact OJ.nil ⟨(Cov.mem Cov.nil), rfl, _, rfl, by kernel_rfl⟩
        · refine OJ.run [20, 21, 22, 23, 24, 25] [] [4, 11, 12, 13, 14, 16, 17, 18, 19, 20, 93] (m2 := [(4, Sl.v a4), (11, .pointer r1.1), (12, .int .i64 r1.2.1), (13, .int .i64 r1.2.2.1), (14, .int .i64 r1.2.2.2.1), (16, .int .i64 s6), (17, .pointer (some (pt b41 0))), (18, Sl.v r42), (19, .int .i64 r43), (20, Sl.v r44), (93, .bool ((r42.len : Int) != (r44.len : Int)))]) (by kernel_rfl) (by kernel_rfl) ?_
          exact OJ.nil ⟨(Cov.mem Cov.nil), rfl, _, rfl, by kernel_rfl⟩
        · refine OJ.nil ?_
          refine SJ.cond (t := (.tmp 93)) (b := y50) (by kernel_rfl) (by kernel_rfl) Iff.rfl (fun hc69 => ?_) (fun hc69 => ?_)
          · refine SJ.seq (by kernel_rfl) ?_
            refine SJ.region (id := 13) (by kernel_rfl) [0] (by kernel_rfl) ?_
            refine OJ.run [0] [] [10] (m2 := [(10, .bool false)]) (by kernel_rfl) (by kernel_rfl) ?_
            refine OJ.nil ?_
            exact SJ.ret (by kernel_rfl) rfl (Res.run (ys := [.bool false]) (.tmp (by kernel_rfl) .nil) rfl)
          · refine SJ.skip (by kernel_rfl) ?_
            refine SJ.seq (by kernel_rfl) ?_
            refine SJ.region (id := 14) (by kernel_rfl) [0] (by kernel_rfl) ?_
            refine OJ.run [0] [] [4, 11, 12, 13, 14, 16, 17, 18, 19, 20, 22] (m2 := [(4, Sl.v a4), (11, .pointer r1.1), (12, .int .i64 r1.2.1), (13, .int .i64 r1.2.2.1), (14, .int .i64 r1.2.2.2.1), (16, .int .i64 s6), (17, .pointer (some (pt b41 0))), (18, Sl.v r42), (19, .int .i64 r43), (20, Sl.v r44), (22, .int .i64 0)]) (by kernel_rfl) (by kernel_rfl) ?_
            refine OJ.nil ?_
            refine SJ.seq (by kernel_rfl) ?_
            refine SJ.seq (by kernel_rfl) ?_
            refine SJ.region (id := 15) (by kernel_rfl) [0] (by kernel_rfl) ?_
            refine OJ.run [0] [] [4, 11, 12, 13, 14, 16, 17, 18, 19, 20, 22, 23] (m2 := [(4, Sl.v a4), (11, .pointer r1.1), (12, .int .i64 r1.2.1), (13, .int .i64 r1.2.2.1), (14, .int .i64 r1.2.2.2.1), (16, .int .i64 s6), (17, .pointer (some (pt b41 0))), (18, Sl.v r42), (19, .int .i64 r43), (20, Sl.v r44), (22, .int .i64 0), (23, .int .i64 0)]) (by kernel_rfl) (by kernel_rfl) ?_
            refine OJ.nil ?_
            refine SJ.block (id := 2) (by kernel_rfl) ?_
            refine SJ.forget (List.Sublist.cons _ (List.Sublist.cons_cons _ List.Sublist.slnil)) ?_
            exact SJ.loop (fun s_ : (Int × Int) => [(4, Sl.v a4), (11, .pointer r1.1), (12, .int .i64 r1.2.1), (13, .int .i64 r1.2.2.1), (14, .int .i64 r1.2.2.2.1), (16, .int .i64 s6), (17, .pointer (some (pt b41 0))), (18, Sl.v r42), (19, .int .i64 r43), (20, Sl.v r44), (22, .int .i64 s_.1), (23, .int .i64 s_.2)]) (fun s_ : (Int × Int) => [(b41, c_weirlaw3_Op.enc x40)]) [4, 11, 12, 13, 14, 16, 17, 18, 19, 20, 22, 23] (by kernel_rfl) (by kernel_rfl) rfl (fun _ _ => rfl) (fun s_ => weirlaw3_RingPlaces.L2_ok a4 r1 s6 x40 b41 r42 r43 r44 s_.1 s_.2)
  · refine SJ.exit (id := 0) (by kernel_rfl) (by rfl) ?_
    refine SJ.seq (by kernel_rfl) ?_
    refine SJ.region (id := 22) (by kernel_rfl) [0] (by kernel_rfl) ?_
    refine OJ.run [0] [] [10] (m2 := [(10, .bool true)]) (by kernel_rfl) (by kernel_rfl) ?_
    refine OJ.nil ?_
    exact SJ.ret (by kernel_rfl) rfl (Res.run (ys := [.bool true]) (.tmp (by kernel_rfl) .nil) rfl)
noncomputable def weirlaw3_RingPlaces (a0 : Int) (a1 : Int) (a2 : Int) (a3 : Int) (a4 : Sl) : M Bool :=
  weirlaw3_port a0 a1 a2 a3 >>= fun r1 =>
  (if r1.1 = none then
      pure true
    else
      ring_Port_Stat r1.1 >>= fun r2 =>
      pure (!eqv r2 (⟨r1.2.2.2.1, z_api_RingStat.Posted, z_api_RingStat.Filled, z_api_RingStat.Held, z_api_RingStat.Queued⟩ : api_RingStat))) >>= fun y3 =>
  (if y3 = true then
      pure true
    else
      ring_Port_Refill r1.1 1 >>= fun r4 =>
      pure (r4 != 1)) >>= fun y5 =>
  if y5 = true then
    pure false
  else
    loopM (fun s_ : Int => weirlaw3_RingPlaces.L1 a4 r1 s_) 0
theorem weirlaw3_RingPlaces_ok (a0 : Int) (a1 : Int) (a2 : Int) (a3 : Int) (a4 : Sl) : Ref Try.prog 10 [.int .i64 a0, .int .i64 a1, .int .i64 a2, .int .i64 a3, Sl.v a4] (weirlaw3_RingPlaces a0 a1 a2 a3 a4) weirlaw3_RingPlaces.out := by
  refine Ref.of (cd := weirlaw3_RingPlaces.B) Try.func10 (by kernel_rfl) (by kernel_rfl) ?_
  show SJ weirlaw3_RingPlaces.cx [.code weirlaw3_RingPlaces.B] [(0, .int .i64 a0), (1, .int .i64 a1), (2, .int .i64 a2), (3, .int .i64 a3), (4, Sl.v a4)] [] (weirlaw3_RingPlaces a0 a1 a2 a3 a4) weirlaw3_RingPlaces.F0
  unfold weirlaw3_RingPlaces
  refine SJ.seq (by kernel_rfl) ?_
  refine SJ.region (id := 0) (by kernel_rfl) [0] (by kernel_rfl) ?_
  refine OJ.run [0] [] [0, 1, 2, 3, 4] (m2 := [(0, .int .i64 a0), (1, .int .i64 a1), (2, .int .i64 a2), (3, .int .i64 a3), (4, Sl.v a4)]) (by kernel_rfl) (by kernel_rfl) ?_
  refine OJ.nil ?_
  refine SJ.seq (by kernel_rfl) ?_
  refine SJ.region (id := 1) (by kernel_rfl) [0, 1, 2, 3, 4, 5, 6, 7, 8, 9, 10, 11, 12, 13, 14, 15] (by kernel_rfl) ?_
  refine OJ.run [0, 1, 2, 3] [4, 5, 6, 7, 8, 9, 10, 11, 12, 13, 14, 15] [4, 25, 26, 27, 28] (m2 := [(4, Sl.v a4), (25, .int .i64 a0), (26, .int .i64 a1), (27, .int .i64 a2), (28, .int .i64 a3)]) (by kernel_rfl) (by kernel_rfl) ?_
  refine OJ.call (d := 29) (g := 23) (ats := #[3, 3, 3, 3]) (args := [.tmp 25, .tmp 26, .tmp 27, .tmp 28]) (vals := [.int .i64 a0, .int .i64 a1, .int .i64 a2, .int .i64 a3]) (owed := []) (by kernel_rfl) F23 (by kernel_rfl) (weirlaw3_port_ok a0 a1 a2 a3) (by kernel_rfl) (by kernel_rfl) (by kernel_rfl) (fun r1 => ?_)
  refine OW.nil ?_
  refine OJ.run [5, 6, 7, 8, 9, 10, 11, 12, 13, 14, 15] [] [4, 11, 12, 13, 14] (m2 := [(4, Sl.v a4), (11, .pointer r1.1), (12, .int .i64 r1.2.1), (13, .int .i64 r1.2.2.1), (14, .int .i64 r1.2.2.2.1)]) (by kernel_rfl) (by kernel_rfl) ?_
  refine OJ.nil ?_
  refine SJ.seq (by kernel_rfl) ?_
  refine SJ.seq (by kernel_rfl) ?_
  refine SJ.region (id := 2) (by kernel_rfl) [0, 1, 2, 3, 4, 5, 6, 7, 8, 9, 10, 11, 12, 13] (by kernel_rfl) ?_
  refine OJ.run [0, 1, 2] [3, 4, 5, 6, 7, 8, 9, 10, 11, 12, 13] [4, 11, 12, 13, 14, 37] (m2 := [(4, Sl.v a4), (11, .pointer r1.1), (12, .int .i64 r1.2.1), (13, .int .i64 r1.2.2.1), (14, .int .i64 r1.2.2.2.1), (37, .bool (Option.isNone r1.1))]) (by kernel_rfl) (by kernel_rfl) ?_
  refine OJ.join (b := (Option.isNone r1.1)) [3, 4, 5, 6, 7, 8] [9, 10, 11, 12, 13] [4, 11, 12, 13, 14, 43] (fun y3 => [(4, Sl.v a4), (11, .pointer r1.1), (12, .int .i64 r1.2.1), (13, .int .i64 r1.2.2.1), (14, .int .i64 r1.2.2.2.1), (43, .bool y3)]) [] [] (by kernel_rfl) (t := 37) (by kernel_rfl) Option.isNone_iff_eq_none (fun hp_ => ?_) (fun hp_ => ?_) (by kernel_rfl) (fun _ _ _ _ _ _ h_ => h_) (fun y3 => ?_)
  · refine OJ.run [3, 4, 5, 6, 7, 8] [] [4, 11, 12, 13, 14, 43] (m2 := [(4, Sl.v a4), (11, .pointer r1.1), (12, .int .i64 r1.2.1), (13, .int .i64 r1.2.2.1), (14, .int .i64 r1.2.2.2.1), (43, .bool true)]) (by kernel_rfl) (by kernel_rfl) ?_
    exact OJ.nil ⟨(Cov.mem Cov.nil), rfl, _, rfl, by kernel_rfl⟩
  · refine OJ.run [3] [4, 5, 6, 7, 8] [4, 11, 12, 13, 14, 37, 38] (m2 := [(4, Sl.v a4), (11, .pointer r1.1), (12, .int .i64 r1.2.1), (13, .int .i64 r1.2.2.1), (14, .int .i64 r1.2.2.2.1), (37, .bool false), (38, .pointer r1.1)]) (by kernel_rfl) (by kernel_rfl) ?_
    refine OJ.call (d := 39) (g := 27) (ats := #[23]) (args := [.tmp 38]) (vals := [.pointer r1.1]) (owed := []) (by kernel_rfl) F27 (by kernel_rfl) (ring_Port_Stat_ok r1.1) (by kernel_rfl) (by kernel_rfl) (by kernel_rfl) (fun r2 => ?_)
    refine OW.nil ?_
    refine OJ.run [5] [6, 7, 8] [4, 11, 12, 13, 14, 37, 39, 40] (m2 := [(4, Sl.v a4), (11, .pointer r1.1), (12, .int .i64 r1.2.1), (13, .int .i64 r1.2.2.1), (14, .int .i64 r1.2.2.2.1), (37, .bool false), (39, c_api_RingStat.val r2), (40, .int .i64 r1.2.2.2.1)]) (by kernel_rfl) (by kernel_rfl) ?_
    refine OJ.build (d := 41) (T := 52) (parts := [(0, .tmp 40)]) (ps := [(0, (cI .i64).val r1.2.2.2.1)]) (cd := c_api_RingStat) (z0 := z_api_RingStat) (⟨r1.2.2.2.1, z_api_RingStat.Posted, z_api_RingStat.Filled, z_api_RingStat.Held, z_api_RingStat.Queued⟩ : api_RingStat) (by kernel_rfl) (by kernel_rfl) Ty52 rfl (by kernel_rfl) (Filled.cons (cd := (cI .i64)) (q := r1.2.2.2.1) (o := 0) (by kernel_rfl) (Up_api_RingStat_Free z_api_RingStat r1.2.2.2.1) Filled.nil) (by kernel_rfl) (by kernel_rfl) (by kernel_rfl) ?_
    refine OJ.neq (d := 42) (T := 52) (yT := 52) (y := .tmp 39) (z := .tmp 41) (cd := c_api_RingStat) (p := r2) (q := (⟨r1.2.2.2.1, z_api_RingStat.Posted, z_api_RingStat.Filled, z_api_RingStat.Held, z_api_RingStat.Queued⟩ : api_RingStat)) (by kernel_rfl) (by kernel_rfl) (by kernel_rfl) rfl Eq52 (by kernel_rfl) (by kernel_rfl) (by kernel_rfl) (by kernel_rfl) (by kernel_rfl) ?_
    refine OJ.run [8] [] [4, 11, 12, 13, 14, 43] (m2 := [(4, Sl.v a4), (11, .pointer r1.1), (12, .int .i64 r1.2.1), (13, .int .i64 r1.2.2.1), (14, .int .i64 r1.2.2.2.1), (43, .bool (!eqv r2 (⟨r1.2.2.2.1, z_api_RingStat.Posted, z_api_RingStat.Filled, z_api_RingStat.Held, z_api_RingStat.Queued⟩ : api_RingStat)))]) (by kernel_rfl) (by kernel_rfl) ?_
    exact OJ.nil ⟨(Cov.mem Cov.nil), rfl, _, rfl, by kernel_rfl⟩
  · refine OJ.run [9] [10, 11, 12, 13] [4, 11, 12, 13, 14, 44] (m2 := [(4, Sl.v a4), (11, .pointer r1.1), (12, .int .i64 r1.2.1), (13, .int .i64 r1.2.2.1), (14, .int .i64 r1.2.2.2.1), (44, .bool y3)]) (by kernel_rfl) (by kernel_rfl) ?_
    refine OJ.join (b := y3) [10, 11, 12, 13] [] [4, 11, 12, 13, 14, 48] (fun y5 => [(4, Sl.v a4), (11, .pointer r1.1), (12, .int .i64 r1.2.1), (13, .int .i64 r1.2.2.1), (14, .int .i64 r1.2.2.2.1), (48, .bool y5)]) [] [] (by kernel_rfl) (t := 44) (by kernel_rfl) Iff.rfl (fun hp_ => ?_) (fun hp_ => ?_) (by kernel_rfl) (fun _ _ _ _ _ _ h_ => h_) (fun y5 => ?_)
    · refine OJ.run [10, 11, 12, 13] [] [4, 11, 12, 13, 14, 48] (m2 := [(4, Sl.v a4), (11, .pointer r1.1), (12, .int .i64 r1.2.1), (13, .int .i64 r1.2.2.1), (14, .int .i64 r1.2.2.2.1), (48, .bool true)]) (by kernel_rfl) (by kernel_rfl) ?_
      exact OJ.nil ⟨(Cov.mem Cov.nil), rfl, _, rfl, by kernel_rfl⟩
    · refine OJ.run [10] [11, 12, 13] [4, 11, 12, 13, 14, 44, 45] (m2 := [(4, Sl.v a4), (11, .pointer r1.1), (12, .int .i64 r1.2.1), (13, .int .i64 r1.2.2.1), (14, .int .i64 r1.2.2.2.1), (44, .bool false), (45, .pointer r1.1)]) (by kernel_rfl) (by kernel_rfl) ?_
      refine OJ.call (d := 46) (g := 15) (ats := #[23, 3]) (args := [.tmp 45, .const (.int .i64 1)]) (vals := [.pointer r1.1, .int .i64 1]) (owed := []) (by kernel_rfl) F15 (by kernel_rfl) (ring_Port_Refill_ok r1.1 1) (by kernel_rfl) (by kernel_rfl) (by kernel_rfl) (fun r4 => ?_)
      refine OW.nil ?_
      refine OJ.run [12, 13] [] [4, 11, 12, 13, 14, 48] (m2 := [(4, Sl.v a4), (11, .pointer r1.1), (12, .int .i64 r1.2.1), (13, .int .i64 r1.2.2.1), (14, .int .i64 r1.2.2.2.1), (48, .bool (r4 != 1))]) (by kernel_rfl) (by kernel_rfl) ?_
      exact OJ.nil ⟨(Cov.mem Cov.nil), rfl, _, rfl, by kernel_rfl⟩
    · refine OJ.nil ?_
      refine SJ.cond (t := (.tmp 48)) (b := y5) (by kernel_rfl) (by kernel_rfl) Iff.rfl (fun hc71 => ?_) (fun hc71 => ?_)
      · refine SJ.seq (by kernel_rfl) ?_
        refine SJ.region (id := 3) (by kernel_rfl) [0] (by kernel_rfl) ?_
        refine OJ.run [0] [] [10] (m2 := [(10, .bool false)]) (by kernel_rfl) (by kernel_rfl) ?_
        refine OJ.nil ?_
        exact SJ.ret (by kernel_rfl) rfl (Res.run (ys := [.bool false]) (.tmp (by kernel_rfl) .nil) rfl)
      · refine SJ.skip (by kernel_rfl) ?_
        refine SJ.seq (by kernel_rfl) ?_
        refine SJ.seq (by kernel_rfl) ?_
        refine SJ.region (id := 4) (by kernel_rfl) [0] (by kernel_rfl) ?_
        refine OJ.run [0] [] [4, 11, 12, 13, 14, 16] (m2 := [(4, Sl.v a4), (11, .pointer r1.1), (12, .int .i64 r1.2.1), (13, .int .i64 r1.2.2.1), (14, .int .i64 r1.2.2.2.1), (16, .int .i64 0)]) (by kernel_rfl) (by kernel_rfl) ?_
        refine OJ.nil ?_
        refine SJ.block (id := 0) (by kernel_rfl) ?_
        exact SJ.loop (fun s_ : Int => [(4, Sl.v a4), (11, .pointer r1.1), (12, .int .i64 r1.2.1), (13, .int .i64 r1.2.2.1), (14, .int .i64 r1.2.2.2.1), (16, .int .i64 s_)]) (fun s_ : Int => []) [4, 11, 12, 13, 14, 16] (by kernel_rfl) (by kernel_rfl) rfl (fun _ _ => rfl) (fun s_ => weirlaw3_RingPlaces.L1_ok a4 r1 s_)

/-! ### weir/weirref3.out: function 62 -/
noncomputable def weirref3_out.B : Code := (Try.f62.body).getD .skip
noncomputable def weirref3_out.cx : Fx := ⟨Try.prog, 62, Try.f62⟩
noncomputable def weirref3_out.out (r_ : Bool) : Value := .bool r_
noncomputable def weirref3_out.F0 (r_ : Bool) : Reach := .ret (weirref3_out.out r_)
noncomputable def weirref3_out (a0 : Int) (a1 : Int) (a2 : Int) : M Bool :=
  (if a0 < a1 then
      pure true
    else
      pure (decide (a0 > a2))) >>= fun y1 =>
  pure y1
theorem weirref3_out_ok (a0 : Int) (a1 : Int) (a2 : Int) : Ref Try.prog 62 [.int .i64 a0, .int .i64 a1, .int .i64 a2] (weirref3_out a0 a1 a2) weirref3_out.out := by
  refine Ref.of (cd := weirref3_out.B) Try.func62 (by kernel_rfl) (by kernel_rfl) ?_
  show SJ weirref3_out.cx [.code weirref3_out.B] [(0, .int .i64 a0), (1, .int .i64 a1), (2, .int .i64 a2)] [] (weirref3_out a0 a1 a2) weirref3_out.F0
  unfold weirref3_out
  refine SJ.seq (by kernel_rfl) ?_
  refine SJ.region (id := 0) (by kernel_rfl) [0] (by kernel_rfl) ?_
  refine OJ.run [0] [] [0, 1, 2] (m2 := [(0, .int .i64 a0), (1, .int .i64 a1), (2, .int .i64 a2)]) (by kernel_rfl) (by kernel_rfl) ?_
  refine OJ.nil ?_
  refine SJ.seq (by kernel_rfl) ?_
  refine SJ.region (id := 1) (by kernel_rfl) [0, 1, 2, 3, 4, 5, 6, 7, 8] (by kernel_rfl) ?_
  refine OJ.run [0, 1, 2, 3] [4, 5, 6, 7, 8] [0, 2, 10] (m2 := [(0, .int .i64 a0), (2, .int .i64 a2), (10, .bool (decide (a0 < a1)))]) (by kernel_rfl) (by kernel_rfl) ?_
  refine OJ.join (b := decide (a0 < a1)) [4, 5, 6, 7] [8] [14] (fun y1 => [(14, .bool y1)]) [] [] (by kernel_rfl) (t := 10) (by kernel_rfl) decide_eq_true_iff (fun hp_ => ?_) (fun hp_ => ?_) (by kernel_rfl) (fun _ _ _ _ _ _ h_ => h_) (fun y1 => ?_)
  · refine OJ.run [4, 5, 6, 7] [] [14] (m2 := [(14, .bool true)]) (by kernel_rfl) (by kernel_rfl) ?_
    exact OJ.nil ⟨(Cov.mem Cov.nil), rfl, _, rfl, by kernel_rfl⟩
  · refine OJ.run [4, 5, 6, 7] [] [14] (m2 := [(14, .bool (decide (a0 > a2)))]) (by kernel_rfl) (by kernel_rfl) ?_
    exact OJ.nil ⟨(Cov.mem Cov.nil), rfl, _, rfl, by kernel_rfl⟩
  · refine OJ.run [8] [] [6] (m2 := [(6, .bool y1)]) (by kernel_rfl) (by kernel_rfl) ?_
    refine OJ.nil ?_
    exact SJ.ret (by kernel_rfl) rfl (Res.run (ys := [.bool y1]) (.tmp (by kernel_rfl) .nil) rfl)
end Go.Proofs.Ytoddkagehbcfjaa.Lx
