/- Programs of the M-world for Go functions, each with the proof that the Go text does what it says. Printed by lxgen.py. -/
import Derived.Test.YtddmmgcfanpmmaaDoorLxT
import Derived.Test.YtddmmgcfanpmmaaDoorLxP0
import Derived.Test.YtddmmgcfanpmmaaDoorLxP1
set_option linter.unusedVariables false
set_option linter.unusedSimpArgs false
namespace Go.Proofs.YtddmmgcfanpmmaaDoor.Lx
open Go Go.Proofs
/-! ### (*strings.Builder).grow: function 58 -/
noncomputable def strings_Builder_grow.B : Code := (Tryd.f58.body).getD .skip
noncomputable def strings_Builder_grow.cx : Fx := ⟨Tryd.prog, 58, Tryd.f58⟩
noncomputable def strings_Builder_grow.out (r_ : Unit) : Value := .tuple #[]
noncomputable def strings_Builder_grow.F0 (r_ : Unit) : Reach := .ret (strings_Builder_grow.out r_)
noncomputable def strings_Builder_grow (a0 : (Option Addr)) (a1 : Int) : M Unit :=
  draw >>= fun _ =>
  nilck a0 >>= fun p1 =>
  ld cL (Addr.add p1 1) >>= fun x2 =>
  nilck a0 >>= fun p3 =>
  ld cL (Addr.add p3 1) >>= fun x4 =>
  mkNZ 5 (IntKind.wrap .i64 ((IntKind.wrap .i64 (2 * (x2.cap : Int))) + a1)) >>= fun r5 =>
  same cL (Addr.add p3 1) x4 >>= fun _ =>
  cut 1 r5 none (some (x4.len : Int)) none >>= fun r6 =>
  nilck a0 >>= fun p7 =>
  ld cL (Addr.add p7 1) >>= fun x8 =>
  cpyS (cI .u8) r6 x8 >>= fun r9 =>
  nilck a0 >>= fun p10 =>
  st cL (Addr.add p10 1) r6 >>= fun _ =>
  pure ()
theorem strings_Builder_grow_ok (a0 : (Option Addr)) (a1 : Int) : Ref Tryd.prog 58 [.pointer a0, .int .i64 a1] (strings_Builder_grow a0 a1) strings_Builder_grow.out := by
  refine Ref.of (cd := strings_Builder_grow.B) Tryd.func58 ?_
  show SJ strings_Builder_grow.cx [.code strings_Builder_grow.B] [(0, .pointer a0), (1, .int .i64 a1)] [] (strings_Builder_grow a0 a1) strings_Builder_grow.F0
  unfold strings_Builder_grow
  refine SJ.seq ?_
  refine SJ.draw (id := 0) (kd := [0, 0, 0, 1, 0, 0, 0, 0, 2, 0, 0, 0, 1, 0, 0, 0]) (bef := [0, 1, 3, 7, 15, 31, 0, 127, 255, 0, 512, 1536, 3584, 7680, 16383, 32767]) (ord := [0, 1, 2, 3, 4, 5, 6, 7, 9, 10, 11, 12, 8, 13, 14, 15]) mixed ?_
  refine OJ.go 1 [(5, .pointer a0)] ?_
  refine OJ.nilck (d := 6) (y := .tmp 5) (fun p1 => ?_)
  refine OJ.go 1 [(7, .pointer (some (Addr.add p1 1)))] ?_
  refine OJ.ld (d := 8) (y := .tmp 7) (pend2 := fun x2 => [⟨3, 55, (Addr.add p1 1), cL.val x2⟩]) Ty55 (fun _ => rfl) (fun x2 => ?_)
  refine OJ.capS (d := 9) (so := .tmp 8) (t := 55) (E := 5) (s := x2) ?_
  refine OJ.go 4 [(14, .pointer a0), (12, .int .i64 (IntKind.wrap .i64 ((IntKind.wrap .i64 (2 * (x2.cap : Int))) + a1))), (11, .int .i64 a1), (10, .int .i64 (IntKind.wrap .i64 (2 * (x2.cap : Int))))] ?_
  refine OJ.nilck (d := 15) (y := .tmp 14) (fun p3 => ?_)
  refine OJ.go 1 [(16, .pointer (some (Addr.add p3 1)))] ?_
  refine OJ.ld (d := 17) (y := .tmp 16) (pend2 := fun x4 => [⟨12, 55, (Addr.add p3 1), cL.val x4⟩, ⟨3, 55, (Addr.add p1 1), cL.val x2⟩]) Ty55 (fun _ => rfl) (fun x4 => ?_)
  refine OJ.ext (d := 13) (g := 68) (ats := #[3]) (args := [.tmp 12]) (out := Sl.v) (owed := [⟨12, 55, (Addr.add p3 1), cL.val x4⟩]) Tryd.func68 (mkNZ_run (t := 55) (E := 5) (ps := #[3]) (by kernel_rfl)) (fun r5 => ?_)
  refine OW.same Ty55 ?_
  refine OW.nil ?_
  refine OJ.go 1 [(18, .int .i64 (x4.len : Int))] ?_
  refine OJ.cut (d := 19) (t := 55) (E := 5) (y := .tmp 13) (lo := none) (hi := (some (.tmp 18))) (mx := none) (lo' := none) (hi' := some (.i64, (x4.len : Int))) (mx' := none) (fun h => by cases h) (fun r6 => ?_)
  refine OJ.go 1 [(4, Sl.v r6)] ?_
  refine OJ.nil ?_
  refine SJ.sr 6 ?_
  refine OJ.go 2 [(21, .pointer a0), (20, Sl.v r6)] ?_
  refine OJ.nilck (d := 22) (y := .tmp 21) (fun p7 => ?_)
  refine OJ.go 1 [(23, .pointer (some (Addr.add p7 1)))] ?_
  refine OJ.ld (d := 24) (y := .tmp 23) (pend2 := fun x8 => []) Ty55 (fun _ => rfl) (fun x8 => ?_)
  refine OJ.cpy1 (n := 25) (t := 55) (u := 55) (so := .tmp 20) (xo := .tmp 24) (owed := []) Ty5 (fun r9 => ?_)
  refine OW.nil ?_
  refine OJ.nil ?_
  refine SJ.rg 5 ?_
  refine OJ.go 2 [(27, Sl.v r6), (26, .pointer a0)] ?_
  refine OJ.nilck (d := 28) (y := .tmp 26) (fun p10 => ?_)
  refine OJ.go 1 [(29, .pointer (some (Addr.add p10 1)))] ?_
  refine OJ.st (y := .tmp 29) (z := .tmp 27) (owed := []) Ty55 ?_
  refine OW.nil ?_
  refine OJ.nil ?_
  exact SJ.end_ rfl (Res.run (ys := []) .nil rfl)

/-! ### (*strings.Builder).Grow: function 51 -/
noncomputable def strings_Builder_Grow.B : Code := (Tryd.f51.body).getD .skip
noncomputable def strings_Builder_Grow.cx : Fx := ⟨Tryd.prog, 51, Tryd.f51⟩
noncomputable def strings_Builder_Grow.out (r_ : Unit) : Value := .tuple #[]
noncomputable def strings_Builder_Grow.F0 (r_ : Unit) : Reach := .ret (strings_Builder_Grow.out r_)
noncomputable def strings_Builder_Grow (a0 : (Option Addr)) (a1 : Int) : M Unit :=
  strings_Builder_copyCheck a0 >>= fun r1 =>
  if a1 < 0 then
    fail
  else
    draw >>= fun _ =>
    nilck a0 >>= fun p2 =>
    ld cL (Addr.add p2 1) >>= fun x3 =>
    nilck a0 >>= fun p4 =>
    ld cL (Addr.add p4 1) >>= fun x5 =>
    if (IntKind.wrap .i64 ((x3.cap : Int) - (x5.len : Int))) < a1 then
      strings_Builder_grow a0 a1 >>= fun r7 =>
      pure ()
    else
      pure ()
theorem strings_Builder_Grow_ok (a0 : (Option Addr)) (a1 : Int) : Ref Tryd.prog 51 [.pointer a0, .int .i64 a1] (strings_Builder_Grow a0 a1) strings_Builder_Grow.out := by
  refine Ref.of (cd := strings_Builder_Grow.B) Tryd.func51 ?_
  show SJ strings_Builder_Grow.cx [.code strings_Builder_Grow.B] [(0, .pointer a0), (1, .int .i64 a1)] [] (strings_Builder_Grow a0 a1) strings_Builder_Grow.F0
  unfold strings_Builder_Grow
  refine SJ.sr 2 ?_
  refine OJ.go 1 [(4, .pointer a0)] ?_
  refine OJ.call (d := 5) (g := 44) (ats := #[73]) (args := [.tmp 4]) (owed := []) F44 (strings_Builder_copyCheck_ok a0) (fun r1 => ?_)
  refine OW.nil ?_
  refine OJ.nil ?_
  refine SJ.seq ?_
  refine SJ.sr 2 ?_
  refine OJ.go 2 [(7, .bool (decide (a1 < 0))), (6, .int .i64 a1)] ?_
  refine OJ.nil ?_
  refine SJ.cond (t := (.tmp 7)) (b := decide (a1 < 0)) decide_eq_true_iff (fun hc9 => ?_) (fun hc9 => ?_)
  · refine SJ.rg 2 ?_
    refine OJ.go 1 [(8, .iface 9 (.string str6))] ?_
    exact OJ.fail
  · refine SJ.skip ?_
    refine SJ.seq ?_
    refine SJ.draw (id := 3) (kd := [0, 0, 0, 1, 0, 0, 0, 0, 1, 0, 0, 0, 0]) (bef := [0, 1, 3, 7, 15, 0, 32, 96, 224, 480, 1023, 0, 4095]) (ord := [0, 1, 2, 3, 4, 5, 6, 7, 8, 9, 10, 11, 12]) mixed ?_
    refine OJ.go 1 [(9, .pointer a0)] ?_
    refine OJ.nilck (d := 10) (y := .tmp 9) (fun p2 => ?_)
    refine OJ.go 1 [(11, .pointer (some (Addr.add p2 1)))] ?_
    refine OJ.ld (d := 12) (y := .tmp 11) (pend2 := fun x3 => [⟨3, 55, (Addr.add p2 1), cL.val x3⟩]) Ty55 (fun _ => rfl) (fun x3 => ?_)
    refine OJ.capS (d := 13) (so := .tmp 12) (t := 55) (E := 5) (s := x3) ?_
    refine OJ.go 1 [(14, .pointer a0)] ?_
    refine OJ.nilck (d := 15) (y := .tmp 14) (fun p4 => ?_)
    refine OJ.go 1 [(16, .pointer (some (Addr.add p4 1)))] ?_
    refine OJ.ld (d := 17) (y := .tmp 16) (pend2 := fun x5 => [⟨8, 55, (Addr.add p4 1), cL.val x5⟩, ⟨3, 55, (Addr.add p2 1), cL.val x3⟩]) Ty55 (fun _ => rfl) (fun x5 => ?_)
    refine OJ.go 4 [(21, .bool (decide ((IntKind.wrap .i64 ((x3.cap : Int) - (x5.len : Int))) < a1))), (20, .int .i64 a1), (19, .int .i64 (IntKind.wrap .i64 ((x3.cap : Int) - (x5.len : Int)))), (18, .int .i64 (x5.len : Int))] ?_
    refine OJ.nil ?_
    refine SJ.cond (t := (.tmp 21)) (b := decide ((IntKind.wrap .i64 ((x3.cap : Int) - (x5.len : Int))) < a1)) decide_eq_true_iff (fun hc8 => ?_) (fun hc8 => ?_)
    · refine SJ.rg 3 ?_
      refine OJ.go 2 [(23, .int .i64 a1), (22, .pointer a0)] ?_
      refine OJ.call (d := 24) (g := 58) (ats := #[73, 3]) (args := [.tmp 22, .tmp 23]) (owed := []) F58 (strings_Builder_grow_ok a0 a1) (fun r7 => ?_)
      refine OW.nil ?_
      refine OJ.nil ?_
      exact SJ.end_ rfl (Res.run (ys := []) .nil rfl)
    · refine SJ.skip ?_
      exact SJ.end_ rfl (Res.run (ys := []) .nil rfl)

/-! ### (*strings.Builder).WriteString: function 52 -/
noncomputable def strings_Builder_WriteString.B : Code := (Tryd.f52.body).getD .skip
noncomputable def strings_Builder_WriteString.cx : Fx := ⟨Tryd.prog, 52, Tryd.f52⟩
noncomputable def strings_Builder_WriteString.out (r_ : (Int × Any)) : Value := .tuple #[.int .i64 r_.1, r_.2.v]
noncomputable def strings_Builder_WriteString.F0 (r_ : (Int × Any)) : Reach := .ret (strings_Builder_WriteString.out r_)
noncomputable def strings_Builder_WriteString (a0 : (Option Addr)) (a1 : ByteArray) : M (Int × Any) :=
  strings_Builder_copyCheck a0 >>= fun r1 =>
  nilck a0 >>= fun p2 =>
  ld cL (Addr.add p2 1) >>= fun x3 =>
  appl (cI .u8) 5 1 0 x3 (strI a1) >>= fun r4 =>
  nilck a0 >>= fun p5 =>
  st cL (Addr.add p5 1) r4 >>= fun _ =>
  pure ((a1.size : Int), (⟨.nilIface, rfl⟩ : Any))
theorem strings_Builder_WriteString_ok (a0 : (Option Addr)) (a1 : ByteArray) : Ref Tryd.prog 52 [.pointer a0, .string a1] (strings_Builder_WriteString a0 a1) strings_Builder_WriteString.out := by
  refine Ref.of (cd := strings_Builder_WriteString.B) Tryd.func52 ?_
  show SJ strings_Builder_WriteString.cx [.code strings_Builder_WriteString.B] [(0, .pointer a0), (1, .string a1)] [] (strings_Builder_WriteString a0 a1) strings_Builder_WriteString.F0
  unfold strings_Builder_WriteString
  refine SJ.sr 2 ?_
  refine OJ.go 2 [(5, (⟨.nilIface, rfl⟩ : Any).v), (4, .int .i64 0)] ?_
  refine OJ.nil ?_
  refine SJ.sr 2 ?_
  refine OJ.go 1 [(6, .pointer a0)] ?_
  refine OJ.call (d := 7) (g := 44) (ats := #[73]) (args := [.tmp 6]) (owed := []) F44 (strings_Builder_copyCheck_ok a0) (fun r1 => ?_)
  refine OW.nil ?_
  refine OJ.nil ?_
  refine SJ.sr 10 ?_
  refine OJ.go 2 [(9, .pointer a0), (8, .pointer a0)] ?_
  refine OJ.nilck (d := 10) (y := .tmp 9) (fun p2 => ?_)
  refine OJ.go 1 [(11, .pointer (some (Addr.add p2 1)))] ?_
  refine OJ.ld (d := 12) (y := .tmp 11) (pend2 := fun x3 => []) Ty55 (fun _ => rfl) (fun x3 => ?_)
  refine OJ.go 1 [(13, .string a1)] ?_
  refine OJ.appT (d := 14) (t := 55) (u := 9) (so := .tmp 12) (xo := .tmp 13) (y := a1) (owed := []) Ty5 (fun r4 => ?_)
  refine OW.nil ?_
  refine OJ.nilck (d := 15) (y := .tmp 8) (fun p5 => ?_)
  refine OJ.go 1 [(16, .pointer (some (Addr.add p5 1)))] ?_
  refine OJ.st (y := .tmp 16) (z := .tmp 14) (owed := []) Ty55 ?_
  refine OW.nil ?_
  refine OJ.nil ?_
  refine SJ.sr 4 ?_
  refine OJ.go 4 [(5, (⟨.nilIface, rfl⟩ : Any).v), (4, .int .i64 (a1.size : Int)), (18, .int .i64 (a1.size : Int)), (17, .string a1)] ?_
  refine OJ.nil ?_
  exact SJ.ret rfl (Res.run (ys := [.int .i64 (a1.size : Int), (⟨.nilIface, rfl⟩ : Any).v]) (.tmp (by kernel_rfl) (.tmp (by kernel_rfl) .nil)) rfl)

/-! ### (*strings.Builder).String: function 33 -/
noncomputable def strings_Builder_String.B : Code := (Tryd.f33.body).getD .skip
noncomputable def strings_Builder_String.cx : Fx := ⟨Tryd.prog, 33, Tryd.f33⟩
noncomputable def strings_Builder_String.out (r_ : ByteArray) : Value := .string r_
noncomputable def strings_Builder_String.F0 (r_ : ByteArray) : Reach := .ret (strings_Builder_String.out r_)
noncomputable def strings_Builder_String (a0 : (Option Addr)) : M ByteArray :=
  draw >>= fun _ =>
  nilck a0 >>= fun p1 =>
  ld cL (Addr.add p1 1) >>= fun x2 =>
  nilck a0 >>= fun p3 =>
  ld cL (Addr.add p3 1) >>= fun x4 =>
  sdata x2 >>= fun r5 =>
  same cL (Addr.add p3 1) x4 >>= fun _ =>
  ustr 5 r5 (x4.len : Int) >>= fun r6 =>
  pure r6
theorem strings_Builder_String_ok (a0 : (Option Addr)) : Ref Tryd.prog 33 [.pointer a0] (strings_Builder_String a0) strings_Builder_String.out := by
  refine Ref.of (cd := strings_Builder_String.B) Tryd.func33 ?_
  show SJ strings_Builder_String.cx [.code strings_Builder_String.B] [(0, .pointer a0)] [] (strings_Builder_String a0) strings_Builder_String.F0
  unfold strings_Builder_String
  refine SJ.sr 1 ?_
  refine OJ.go 1 [(2, .string ByteArray.empty)] ?_
  refine OJ.nil ?_
  refine SJ.seq ?_
  refine SJ.draw (id := 1) (kd := [0, 0, 0, 1, 2, 0, 0, 0, 1, 0, 2, 0]) (bef := [0, 1, 3, 7, 15, 0, 32, 96, 224, 480, 1023, 2047]) (ord := [0, 1, 2, 3, 5, 6, 7, 8, 4, 9, 10, 11]) mixed ?_
  refine OJ.go 1 [(3, .pointer a0)] ?_
  refine OJ.nilck (d := 4) (y := .tmp 3) (fun p1 => ?_)
  refine OJ.go 1 [(5, .pointer (some (Addr.add p1 1)))] ?_
  refine OJ.ld (d := 6) (y := .tmp 5) (pend2 := fun x2 => [⟨3, 55, (Addr.add p1 1), cL.val x2⟩]) Ty55 (fun _ => rfl) (fun x2 => ?_)
  refine OJ.go 1 [(8, .pointer a0)] ?_
  refine OJ.nilck (d := 9) (y := .tmp 8) (fun p3 => ?_)
  refine OJ.go 1 [(10, .pointer (some (Addr.add p3 1)))] ?_
  refine OJ.ld (d := 11) (y := .tmp 10) (pend2 := fun x4 => [⟨8, 55, (Addr.add p3 1), cL.val x4⟩, ⟨3, 55, (Addr.add p1 1), cL.val x2⟩]) Ty55 (fun _ => rfl) (fun x4 => ?_)
  refine OJ.sdata (d := 7) (t := 55) (x := .tmp 6) (s := x2) (owed := [⟨8, 55, (Addr.add p3 1), cL.val x4⟩]) (fun r5 => ?_)
  refine OW.same Ty55 ?_
  refine OW.nil ?_
  refine OJ.go 1 [(12, .int .i64 (x4.len : Int))] ?_
  refine OJ.ustr (d := 13) (t := 100) (t2 := 3) (E := 5) (x := .tmp 7) (y := .tmp 12) (p := r5) (n := (x4.len : Int)) (owed := []) (fun r6 => ?_)
  refine OW.nil ?_
  refine OJ.go 1 [(2, .string r6)] ?_
  refine OJ.nil ?_
  exact SJ.ret rfl (Res.run (ys := [.string r6]) (.tmp (by kernel_rfl) .nil) rfl)

/-! ### strings.Join: function 41 -/
noncomputable def strings_Join.B : Code := (Tryd.f41.body).getD .skip
noncomputable def strings_Join.cx : Fx := ⟨Tryd.prog, 41, Tryd.f41⟩
noncomputable def strings_Join.out (r_ : ByteArray) : Value := .string r_
noncomputable def strings_Join.F0 (r_ : ByteArray) : Reach := .ret (strings_Join.out r_)
noncomputable def strings_Join.F1 (a1 : ByteArray) (b19 : Nat) (r24 : Sl) : (LS Int ByteArray) → Reach := loopF [.inLoop (c1 (c1 (c2 (c1 (c2 (c2 (c2 (c2 (c2 (c2 (c2 (c2 strings_Join.B)))))))))))), .inBlock 3, .code (c2 (c2 (c2 (c2 (c2 (c2 (c2 (c2 (c2 strings_Join.B)))))))))] (fun s_ : Int => [(1, .string a1), (8, .pointer (some (pt b19 0))), (63, Sl.v r24), (64, .int .i64 (r24.len : Int)), (65, .int .i64 s_)]) (fun s_ : Int => []) strings_Join.F0
noncomputable def strings_Join.L1 (a1 : ByteArray) (b19 : Nat) (r24 : Sl) (s25 : Int) : M (LS Int ByteArray) :=
  if s25 < (r24.len : Int) then
    idx r24.a r24.len s25 1 >>= fun p32 =>
    ld cS p32 >>= fun x33 =>
    strings_Builder_WriteString (some (pt b19 0)) a1 >>= fun r34 =>
    strings_Builder_WriteString (some (pt b19 0)) x33 >>= fun r35 =>
    pure (LS.next (IntKind.wrap .i64 (s25 + 1)))
  else
    strings_Builder_String (some (pt b19 0)) >>= fun r36 =>
    pure (LS.done r36)
theorem strings_Join.L1_ok (a1 : ByteArray) (b19 : Nat) (r24 : Sl) (s25 : Int) :
    SJ strings_Join.cx [.code (c1 (c1 (c2 (c1 (c2 (c2 (c2 (c2 (c2 (c2 (c2 (c2 strings_Join.B)))))))))))), .inLoop (c1 (c1 (c2 (c1 (c2 (c2 (c2 (c2 (c2 (c2 (c2 (c2 strings_Join.B)))))))))))), .inBlock 3, .code (c2 (c2 (c2 (c2 (c2 (c2 (c2 (c2 (c2 strings_Join.B)))))))))] [(1, .string a1), (8, .pointer (some (pt b19 0))), (63, Sl.v r24), (64, .int .i64 (r24.len : Int)), (65, .int .i64 s25)] [] (strings_Join.L1 a1 b19 r24 s25) (strings_Join.F1 a1 b19 r24) := by
  unfold strings_Join.L1
  refine SJ.sr 1 ?_
  refine OJ.go 1 [(66, .bool (decide (s25 < (r24.len : Int))))] ?_
  refine OJ.nil ?_
  refine SJ.seq ?_
  refine SJ.cond (t := (.tmp 66)) (b := decide (s25 < (r24.len : Int))) decide_eq_true_iff (fun hc37 => ?_) (fun hc37 => ?_)
  · refine SJ.skip ?_
    refine SJ.seq ?_
    refine SJ.block (id := 4) ?_
    refine SJ.sr 3 ?_
    refine OJ.idxS (d := 67) (T := 97) (y := .tmp 63) (j := .tmp 65) (E := 9) (cap := r24.cap) (k := .i64) (fun p32 => ?_)
    refine OJ.ld (d := 68) (y := .tmp 67) (pend2 := fun x33 => []) Ty9 (fun _ => rfl) (fun x33 => ?_)
    refine OJ.go 1 [(10, .string x33)] ?_
    refine OJ.nil ?_
    refine SJ.sr 2 ?_
    refine OJ.go 1 [(69, .string a1)] ?_
    refine OJ.call (d := 70) (g := 52) (ats := #[75, 9]) (args := [.tmp 8, .tmp 69]) (owed := []) F52 (strings_Builder_WriteString_ok (some (pt b19 0)) a1) (fun r34 => ?_)
    refine OW.nil ?_
    refine OJ.nil ?_
    refine SJ.rg 2 ?_
    refine OJ.go 1 [(71, .string x33)] ?_
    refine OJ.call (d := 72) (g := 52) (ats := #[75, 9]) (args := [.tmp 8, .tmp 71]) (owed := []) F52 (strings_Builder_WriteString_ok (some (pt b19 0)) x33) (fun r35 => ?_)
    refine OW.nil ?_
    refine OJ.nil ?_
    refine SJ.inBlock ?_
    refine SJ.rg 2 ?_
    refine OJ.go 2 [(65, .int .i64 (IntKind.wrap .i64 (s25 + 1))), (73, .int .i64 (IntKind.wrap .i64 (s25 + 1)))] ?_
    refine OJ.nil ?_
    exact SJ.at_ [1, 8, 63, 64, 65] rfl
  · refine SJ.exit (id := 3) (by rfl) ?_
    refine SJ.sr 2 ?_
    refine OJ.call (d := 74) (g := 33) (ats := #[75]) (args := [.tmp 8]) (owed := []) F33 (strings_Builder_String_ok (some (pt b19 0))) (fun r36 => ?_)
    refine OW.nil ?_
    refine OJ.go 1 [(4, .string r36)] ?_
    refine OJ.nil ?_
    exact SJ.ret rfl (Res.run (ys := [.string r36]) (.tmp (by kernel_rfl) .nil) rfl)
noncomputable def strings_Join.K1 (a0 : Sl) (a1 : ByteArray) (s13 : Int) : M ByteArray :=
  newv 75 c_strings_Builder z_strings_Builder >>= fun b19 =>
  strings_Builder_Grow (some (pt b19 0)) s13 >>= fun r20 =>
  idx a0.a a0.len 0 1 >>= fun p21 =>
  ld cS p21 >>= fun x22 =>
  strings_Builder_WriteString (some (pt b19 0)) x22 >>= fun r23 =>
  cut 1 a0 (some 1) none none >>= fun r24 =>
  loopM (fun s_ : Int => strings_Join.L1 a1 b19 r24 s_) 0
theorem strings_Join.K1_ok (a0 : Sl) (a1 : ByteArray) (s13 : Int) :
    SJ strings_Join.cx [.code (c2 (c2 (c2 (c2 (c2 strings_Join.B)))))] [(0, Sl.v a0), (1, .string a1), (5, .int .i64 s13)] [] (strings_Join.K1 a0 a1 s13) strings_Join.F0 := by
  unfold strings_Join.K1
  refine SJ.sr 1 ?_
  refine OJ.newOf (d := 8) (op := (.alloc 75)) (cd := c_strings_Builder) (u := z_strings_Builder) (owed := []) (alloc_run Ty75) (fun b19 => ?_)
  refine OW.nil ?_
  refine OJ.nil ?_
  refine SJ.sr 2 ?_
  refine OJ.go 1 [(56, .int .i64 s13)] ?_
  refine OJ.call (d := 57) (g := 51) (ats := #[75, 3]) (args := [.tmp 8, .tmp 56]) (owed := []) F51 (strings_Builder_Grow_ok (some (pt b19 0)) s13) (fun r20 => ?_)
  refine OW.nil ?_
  refine OJ.nil ?_
  refine SJ.sr 4 ?_
  refine OJ.go 1 [(58, Sl.v a0)] ?_
  refine OJ.idxS (d := 59) (T := 97) (y := .tmp 58) (j := .const (.int .i64 0)) (E := 9) (cap := a0.cap) (k := .i64) (fun p21 => ?_)
  refine OJ.ld (d := 60) (y := .tmp 59) (pend2 := fun x22 => []) Ty9 (fun _ => rfl) (fun x22 => ?_)
  refine OJ.call (d := 61) (g := 52) (ats := #[75, 9]) (args := [.tmp 8, .tmp 60]) (owed := []) F52 (strings_Builder_WriteString_ok (some (pt b19 0)) x22) (fun r23 => ?_)
  refine OW.nil ?_
  refine OJ.nil ?_
  refine SJ.seq ?_
  refine SJ.sr 4 ?_
  refine OJ.go 1 [(62, Sl.v a0)] ?_
  refine OJ.cut (d := 63) (t := 97) (E := 9) (y := .tmp 62) (lo := (some (.const (.int .i64 1)))) (hi := none) (mx := none) (lo' := some (.i64, 1)) (hi' := none) (mx' := none) (fun h => by cases h) (fun r24 => ?_)
  refine OJ.go 2 [(65, .int .i64 0), (64, .int .i64 (r24.len : Int))] ?_
  refine OJ.nil ?_
  refine SJ.block (id := 3) ?_
  exact SJ.loop (fun s_ : Int => [(1, .string a1), (8, .pointer (some (pt b19 0))), (63, Sl.v r24), (64, .int .i64 (r24.len : Int)), (65, .int .i64 s_)]) (fun s_ : Int => []) [1, 8, 63, 64, 65] rfl (fun _ _ => rfl) (fun s_ => strings_Join.L1_ok a1 b19 r24 s_)
noncomputable def strings_Join.F2 (a0 : Sl) (a1 : ByteArray) : (LS (Int × Int) ByteArray) → Reach := loopF [.inLoop (c1 (c1 (c2 (c1 (c2 (c2 (c2 (c2 strings_Join.B)))))))), .inBlock 1, .code (c2 (c2 (c2 (c2 (c2 strings_Join.B)))))] (fun s_ : (Int × Int) => [(0, Sl.v a0), (1, .string a1), (5, .int .i64 s_.1), (39, Sl.v a0), (40, .int .i64 (a0.len : Int)), (41, .int .i64 s_.2)]) (fun s_ : (Int × Int) => []) strings_Join.F0
noncomputable def strings_Join.L2 (a0 : Sl) (a1 : ByteArray) (s13 : Int) (s14 : Int) : M (LS (Int × Int) ByteArray) :=
  if s14 < (a0.len : Int) then
    idx a0.a a0.len s14 1 >>= fun p38 =>
    ld cS p38 >>= fun x39 =>
    if (x39.size : Int) > (IntKind.wrap .i64 (9223372036854775807 - s13)) then
      fail
    else
      pure (LS.next (IntKind.wrap .i64 (s13 + (x39.size : Int)), IntKind.wrap .i64 (s14 + 1)))
  else
    (strings_Join.K1 a0 a1 s13) >>= fun b => pure (LS.done b)
theorem strings_Join.L2_ok (a0 : Sl) (a1 : ByteArray) (s13 : Int) (s14 : Int) :
    SJ strings_Join.cx [.code (c1 (c1 (c2 (c1 (c2 (c2 (c2 (c2 strings_Join.B)))))))), .inLoop (c1 (c1 (c2 (c1 (c2 (c2 (c2 (c2 strings_Join.B)))))))), .inBlock 1, .code (c2 (c2 (c2 (c2 (c2 strings_Join.B)))))] [(0, Sl.v a0), (1, .string a1), (5, .int .i64 s13), (39, Sl.v a0), (40, .int .i64 (a0.len : Int)), (41, .int .i64 s14)] [] (strings_Join.L2 a0 a1 s13 s14) (strings_Join.F2 a0 a1) := by
  unfold strings_Join.L2
  refine SJ.sr 1 ?_
  refine OJ.go 1 [(42, .bool (decide (s14 < (a0.len : Int))))] ?_
  refine OJ.nil ?_
  refine SJ.seq ?_
  refine SJ.cond (t := (.tmp 42)) (b := decide (s14 < (a0.len : Int))) decide_eq_true_iff (fun hc41 => ?_) (fun hc41 => ?_)
  · refine SJ.skip ?_
    refine SJ.seq ?_
    refine SJ.block (id := 2) ?_
    refine SJ.sr 3 ?_
    refine OJ.idxS (d := 43) (T := 97) (y := .tmp 39) (j := .tmp 41) (E := 9) (cap := a0.cap) (k := .i64) (fun p38 => ?_)
    refine OJ.ld (d := 44) (y := .tmp 43) (pend2 := fun x39 => []) Ty9 (fun _ => rfl) (fun x39 => ?_)
    refine OJ.go 1 [(7, .string x39)] ?_
    refine OJ.nil ?_
    refine SJ.seq ?_
    refine SJ.sr 5 ?_
    refine OJ.go 5 [(49, .bool (decide ((x39.size : Int) > (IntKind.wrap .i64 (9223372036854775807 - s13))))), (48, .int .i64 (IntKind.wrap .i64 (9223372036854775807 - s13))), (47, .int .i64 s13), (46, .int .i64 (x39.size : Int)), (45, .string x39)] ?_
    refine OJ.nil ?_
    refine SJ.cond (t := (.tmp 49)) (b := decide ((x39.size : Int) > (IntKind.wrap .i64 (9223372036854775807 - s13)))) decide_eq_true_iff (fun hc40 => ?_) (fun hc40 => ?_)
    · refine SJ.rg 2 ?_
      refine OJ.go 1 [(50, .iface 9 (.string str7))] ?_
      exact OJ.fail
    · refine SJ.skip ?_
      refine SJ.rg 5 ?_
      refine OJ.go 5 [(5, .int .i64 (IntKind.wrap .i64 (s13 + (x39.size : Int)))), (54, .int .i64 (IntKind.wrap .i64 (s13 + (x39.size : Int)))), (53, .int .i64 (x39.size : Int)), (52, .string x39), (51, .int .i64 s13)] ?_
      refine OJ.nil ?_
      refine SJ.inBlock ?_
      refine SJ.rg 2 ?_
      refine OJ.go 2 [(41, .int .i64 (IntKind.wrap .i64 (s14 + 1))), (55, .int .i64 (IntKind.wrap .i64 (s14 + 1)))] ?_
      refine OJ.nil ?_
      exact SJ.at_ [0, 1, 5, 39, 40, 41] rfl
  · refine SJ.exit (id := 1) (by rfl) ?_
    refine SJ.less [0, 1, 5] (m' := [(0, Sl.v a0), (1, .string a1), (5, .int .i64 s13)]) ?_
    refine SJ.done ?_
    exact strings_Join.K1_ok a0 a1 s13
noncomputable def strings_Join.K2 (a0 : Sl) (a1 : ByteArray) (j12 : Int) : M ByteArray :=
  loopM (fun s_ : (Int × Int) => strings_Join.L2 a0 a1 s_.1 s_.2) (j12, 0)
theorem strings_Join.K2_ok (a0 : Sl) (a1 : ByteArray) (j12 : Int) :
    SJ strings_Join.cx [.code (c2 (c2 (c2 (c2 strings_Join.B))))] [(0, Sl.v a0), (1, .string a1), (5, .int .i64 j12)] [] (strings_Join.K2 a0 a1 j12) strings_Join.F0 := by
  unfold strings_Join.K2
  refine SJ.seq ?_
  refine SJ.sr 3 ?_
  refine OJ.go 3 [(41, .int .i64 0), (40, .int .i64 (a0.len : Int)), (39, Sl.v a0)] ?_
  refine OJ.nil ?_
  refine SJ.block (id := 1) ?_
  exact SJ.loop (fun s_ : (Int × Int) => [(0, Sl.v a0), (1, .string a1), (5, .int .i64 s_.1), (39, Sl.v a0), (40, .int .i64 (a0.len : Int)), (41, .int .i64 s_.2)]) (fun s_ : (Int × Int) => []) [0, 1, 5, 39, 40, 41] rfl (fun _ _ => rfl) (fun s_ => strings_Join.L2_ok a0 a1 s_.1 s_.2)
noncomputable def strings_Join (a0 : Sl) (a1 : ByteArray) : M ByteArray :=
  if (a0.len : Int) = 0 then
    pure ByteArray.empty
  else
    if (a0.len : Int) = 1 then
      idx a0.a a0.len 0 1 >>= fun p8 =>
      ld cS p8 >>= fun x9 =>
      pure x9
    else
      if (a1.size : Int) > 0 then
        chk ((IntKind.wrap .i64 ((a0.len : Int) - 1)) ≠ 0) >>= fun _ =>
        if (a1.size : Int) ≥ (IntKind.wrap .i64 (Int.tdiv 9223372036854775807 (IntKind.wrap .i64 ((a0.len : Int) - 1)))) then
          fail
        else
          strings_Join.K2 a0 a1 (IntKind.wrap .i64 (0 + (IntKind.wrap .i64 ((a1.size : Int) * (IntKind.wrap .i64 ((a0.len : Int) - 1))))))
      else
        strings_Join.K2 a0 a1 0
theorem strings_Join_ok (a0 : Sl) (a1 : ByteArray) : Ref Tryd.prog 41 [Sl.v a0, .string a1] (strings_Join a0 a1) strings_Join.out := by
  refine Ref.of (cd := strings_Join.B) Tryd.func41 ?_
  show SJ strings_Join.cx [.code strings_Join.B] [(0, Sl.v a0), (1, .string a1)] [] (strings_Join a0 a1) strings_Join.F0
  unfold strings_Join
  refine SJ.sr 1 ?_
  refine OJ.go 1 [(4, .string ByteArray.empty)] ?_
  refine OJ.nil ?_
  refine SJ.seq ?_
  refine SJ.sr 2 ?_
  refine OJ.go 2 [(12, .int .i64 (a0.len : Int)), (11, Sl.v a0)] ?_
  refine OJ.nil ?_
  refine SJ.block (id := 0) ?_
  refine SJ.sr 2 ?_
  refine OJ.go 2 [(13, .bool ((a0.len : Int) == 0)), (14, .bool ((a0.len : Int) == 0))] ?_
  refine OJ.nil ?_
  refine SJ.cond (t := (.tmp 13)) (b := ((a0.len : Int) == 0)) beq_iff_eq (fun hc46 => ?_) (fun hc46 => ?_)
  · refine SJ.sr 1 ?_
    refine OJ.go 1 [(4, .string ByteArray.empty)] ?_
    refine OJ.nil ?_
    exact SJ.ret rfl (Res.run (ys := [.string ByteArray.empty]) (.tmp (by kernel_rfl) .nil) rfl)
  · refine SJ.sr 2 ?_
    refine OJ.go 2 [(15, .bool ((a0.len : Int) == 1)), (16, .bool ((a0.len : Int) == 1))] ?_
    refine OJ.nil ?_
    refine SJ.cond (t := (.tmp 15)) (b := ((a0.len : Int) == 1)) beq_iff_eq (fun hc45 => ?_) (fun hc45 => ?_)
    · refine SJ.sr 4 ?_
      refine OJ.go 1 [(17, Sl.v a0)] ?_
      refine OJ.idxS (d := 18) (T := 97) (y := .tmp 17) (j := .const (.int .i64 0)) (E := 9) (cap := a0.cap) (k := .i64) (fun p8 => ?_)
      refine OJ.ld (d := 19) (y := .tmp 18) (pend2 := fun x9 => []) Ty9 (fun _ => rfl) (fun x9 => ?_)
      refine OJ.go 1 [(4, .string x9)] ?_
      refine OJ.nil ?_
      exact SJ.ret rfl (Res.run (ys := [.string x9]) (.tmp (by kernel_rfl) .nil) rfl)
    · refine SJ.skip ?_
      refine SJ.inBlock ?_
      refine SJ.sr 1 ?_
      refine OJ.go 1 [(5, .int .i64 0)] ?_
      refine OJ.nil ?_
      refine SJ.seq ?_
      refine SJ.sr 3 ?_
      refine OJ.go 3 [(22, .bool (decide ((a1.size : Int) > 0))), (21, .int .i64 (a1.size : Int)), (20, .string a1)] ?_
      refine OJ.nil ?_
      refine SJ.cond (t := (.tmp 22)) (b := decide ((a1.size : Int) > 0)) decide_eq_true_iff (fun hc44 => ?_) (fun hc44 => ?_)
      · refine SJ.seq ?_
        refine SJ.sr 7 ?_
        refine OJ.go 5 [(27, .int .i64 (IntKind.wrap .i64 ((a0.len : Int) - 1))), (26, .int .i64 (a0.len : Int)), (25, Sl.v a0), (24, .int .i64 (a1.size : Int)), (23, .string a1)] ?_
        refine OJ.quo (d := 28) (T := 3) (yT := 3) (y := .const (.int .i64 9223372036854775807)) (z := .tmp 27) (p := 9223372036854775807) (q := (IntKind.wrap .i64 ((a0.len : Int) - 1))) (k := .i64) (fun hq43 => ?_)
        refine OJ.go 1 [(29, .bool (decide ((a1.size : Int) ≥ (IntKind.wrap .i64 (Int.tdiv 9223372036854775807 (IntKind.wrap .i64 ((a0.len : Int) - 1)))))))] ?_
        refine OJ.nil ?_
        refine SJ.cond (t := (.tmp 29)) (b := decide ((a1.size : Int) ≥ (IntKind.wrap .i64 (Int.tdiv 9223372036854775807 (IntKind.wrap .i64 ((a0.len : Int) - 1)))))) decide_eq_true_iff (fun hc42 => ?_) (fun hc42 => ?_)
        · refine SJ.rg 2 ?_
          refine OJ.go 1 [(30, .iface 9 (.string str7))] ?_
          exact OJ.fail
        · refine SJ.skip ?_
          refine SJ.rg 9 ?_
          refine OJ.go 9 [(5, .int .i64 (IntKind.wrap .i64 (0 + (IntKind.wrap .i64 ((a1.size : Int) * (IntKind.wrap .i64 ((a0.len : Int) - 1))))))), (38, .int .i64 (IntKind.wrap .i64 (0 + (IntKind.wrap .i64 ((a1.size : Int) * (IntKind.wrap .i64 ((a0.len : Int) - 1))))))), (37, .int .i64 (IntKind.wrap .i64 ((a1.size : Int) * (IntKind.wrap .i64 ((a0.len : Int) - 1))))), (36, .int .i64 (IntKind.wrap .i64 ((a0.len : Int) - 1))), (35, .int .i64 (a0.len : Int)), (34, Sl.v a0), (33, .int .i64 (a1.size : Int)), (32, .string a1), (31, .int .i64 0)] ?_
          refine OJ.nil ?_
          refine SJ.less [0, 1, 5] (m' := [(0, Sl.v a0), (1, .string a1), (5, .int .i64 (IntKind.wrap .i64 (0 + (IntKind.wrap .i64 ((a1.size : Int) * (IntKind.wrap .i64 ((a0.len : Int) - 1)))))))]) ?_
          exact strings_Join.K2_ok a0 a1 (IntKind.wrap .i64 (0 + (IntKind.wrap .i64 ((a1.size : Int) * (IntKind.wrap .i64 ((a0.len : Int) - 1))))))
      · refine SJ.skip ?_
        refine SJ.less [0, 1, 5] (m' := [(0, Sl.v a0), (1, .string a1), (5, .int .i64 0)]) ?_
        exact strings_Join.K2_ok a0 a1 0

/-! ### weir/addr.dotted: function 28 -/
noncomputable def addr_dotted.B : Code := (Tryd.f28.body).getD .skip
noncomputable def addr_dotted.cx : Fx := ⟨Tryd.prog, 28, Tryd.f28⟩
noncomputable def addr_dotted.out (r_ : ByteArray) : Value := .string r_
noncomputable def addr_dotted.F0 (r_ : ByteArray) : Reach := .ret (addr_dotted.out r_)
noncomputable def addr_dotted.F1 (a0 : Sl) : (LS (Sl × Int) ByteArray) → Reach := loopF [.inLoop (c1 (c1 (c2 (c1 (c2 (c2 addr_dotted.B)))))), .inBlock 0, .code (c2 (c2 (c2 addr_dotted.B)))] (fun s_ : (Sl × Int) => [(3, Sl.v s_.1), (6, Sl.v a0), (7, .int .i64 (a0.len : Int)), (8, .int .i64 s_.2)]) (fun s_ : (Sl × Int) => []) addr_dotted.F0
noncomputable def addr_dotted.L1 (a0 : Sl) (s1 : Sl) (s2 : Int) : M (LS (Sl × Int) ByteArray) :=
  if s2 < (a0.len : Int) then
    idx a0.a a0.len s2 1 >>= fun p10 =>
    ld (cI .u8) p10 >>= fun x11 =>
    strconv_Itoa_ (IntKind.wrap .i64 x11) >>= fun r12 =>
    slot 9 >>= fun b13 =>
    appl cS 9 16 ByteArray.empty s1 [r12] >>= fun r14 =>
    pure (LS.next (r14, IntKind.wrap .i64 (s2 + 1)))
  else
    strings_Join s1 str8 >>= fun r15 =>
    pure (LS.done r15)
theorem addr_dotted.L1_ok (a0 : Sl) (s1 : Sl) (s2 : Int) :
    SJ addr_dotted.cx [.code (c1 (c1 (c2 (c1 (c2 (c2 addr_dotted.B)))))), .inLoop (c1 (c1 (c2 (c1 (c2 (c2 addr_dotted.B)))))), .inBlock 0, .code (c2 (c2 (c2 addr_dotted.B)))] [(3, Sl.v s1), (6, Sl.v a0), (7, .int .i64 (a0.len : Int)), (8, .int .i64 s2)] [] (addr_dotted.L1 a0 s1 s2) (addr_dotted.F1 a0) := by
  unfold addr_dotted.L1
  refine SJ.sr 1 ?_
  refine OJ.go 1 [(9, .bool (decide (s2 < (a0.len : Int))))] ?_
  refine OJ.nil ?_
  refine SJ.seq ?_
  refine SJ.cond (t := (.tmp 9)) (b := decide (s2 < (a0.len : Int))) decide_eq_true_iff (fun hc16 => ?_) (fun hc16 => ?_)
  · refine SJ.skip ?_
    refine SJ.seq ?_
    refine SJ.block (id := 1) ?_
    refine SJ.sr 3 ?_
    refine OJ.idxS (d := 10) (T := 55) (y := .tmp 6) (j := .tmp 8) (E := 5) (cap := a0.cap) (k := .i64) (fun p10 => ?_)
    refine OJ.ld (d := 11) (y := .tmp 10) (pend2 := fun x11 => []) Ty5 (fun _ => rfl) (fun x11 => ?_)
    refine OJ.go 1 [(5, .int .u8 x11)] ?_
    refine OJ.nil ?_
    refine SJ.rg 7 ?_
    refine OJ.go 3 [(14, .int .i64 (IntKind.wrap .i64 x11)), (13, .int .u8 x11), (12, Sl.v s1)] ?_
    refine OJ.call (d := 15) (g := 31) (ats := #[3]) (args := [.tmp 14]) (owed := []) F31 (strconv_Itoa__ok (IntKind.wrap .i64 x11)) (fun r12 => ?_)
    refine OW.nil ?_
    refine OJ.rowSlot (d := 16) (t := 97) (parts := [(0, .tmp 15)]) (ps := [(0, cS.val r12)]) (cd := cS) (⟨[r12], rfl⟩ : Vec ByteArray 1) (owed := []) Ty9 (Filled.cons (cd := cS) (q := r12) (o := 0) rfl (Upd.arr (i := 0) (by decide) (by decide)) Filled.nil) (fun b13 => ?_)
    refine OW.nil ?_
    refine OJ.appl (d := 17) (t := 97) (u := 97) (so := .tmp 12) (xo := .tmp 16) (j := 0) (b := b13) (l := (cS.arr 1).enc (⟨[r12], rfl⟩ : Vec ByteArray 1)) (n := 1) (k := 1) [r12] (owed := []) Ty9 (by rfl) (Cod.arr_enc _ _ _) (by rfl) (fun r14 => ?_)
    refine OW.nil ?_
    refine OJ.go 1 [(3, Sl.v r14)] ?_
    refine OJ.nil ?_
    refine SJ.inBlock ?_
    refine SJ.rg 2 ?_
    refine OJ.go 2 [(8, .int .i64 (IntKind.wrap .i64 (s2 + 1))), (18, .int .i64 (IntKind.wrap .i64 (s2 + 1)))] ?_
    refine OJ.nil ?_
    refine SJ.forget (List.Sublist.cons _ List.Sublist.slnil) ?_
    exact SJ.at_ [3, 6, 7, 8] rfl
  · refine SJ.exit (id := 0) (by rfl) ?_
    refine SJ.sr 3 ?_
    refine OJ.go 1 [(19, Sl.v s1)] ?_
    refine OJ.call (d := 20) (g := 41) (ats := #[97, 9]) (args := [.tmp 19, .const (.string str8)]) (owed := []) F41 (strings_Join_ok s1 str8) (fun r15 => ?_)
    refine OW.nil ?_
    refine OJ.go 1 [(2, .string r15)] ?_
    refine OJ.nil ?_
    exact SJ.ret rfl (Res.run (ys := [.string r15]) (.tmp (by kernel_rfl) .nil) rfl)
noncomputable def addr_dotted (a0 : Sl) : M ByteArray :=
  loopM (fun s_ : (Sl × Int) => addr_dotted.L1 a0 s_.1 s_.2) (Sl.nil, 0)
theorem addr_dotted_ok (a0 : Sl) : Ref Tryd.prog 28 [Sl.v a0] (addr_dotted a0) addr_dotted.out := by
  refine Ref.of (cd := addr_dotted.B) Tryd.func28 ?_
  show SJ addr_dotted.cx [.code addr_dotted.B] [(0, Sl.v a0)] [] (addr_dotted a0) addr_dotted.F0
  unfold addr_dotted
  refine SJ.sr 1 ?_
  refine OJ.go 1 [(2, .string ByteArray.empty)] ?_
  refine OJ.nil ?_
  refine SJ.sr 1 ?_
  refine OJ.go 1 [(3, Sl.v Sl.nil)] ?_
  refine OJ.nil ?_
  refine SJ.seq ?_
  refine SJ.sr 3 ?_
  refine OJ.go 3 [(8, .int .i64 0), (7, .int .i64 (a0.len : Int)), (6, Sl.v a0)] ?_
  refine OJ.nil ?_
  refine SJ.block (id := 0) ?_
  exact SJ.loop (fun s_ : (Sl × Int) => [(3, Sl.v s_.1), (6, Sl.v a0), (7, .int .i64 (a0.len : Int)), (8, .int .i64 s_.2)]) (fun s_ : (Sl × Int) => []) [3, 6, 7, 8] rfl (fun _ _ => rfl) (fun s_ => addr_dotted.L1_ok a0 s_.1 s_.2)

/-! ### weir/addr.longest: function 29 -/
noncomputable def addr_longest.B : Code := (Tryd.f29.body).getD .skip
noncomputable def addr_longest.cx : Fx := ⟨Tryd.prog, 29, Tryd.f29⟩
noncomputable def addr_longest.out (r_ : (Int × Int)) : Value := .tuple #[.int .i64 r_.1, .int .i64 r_.2]
noncomputable def addr_longest.F0 (r_ : (Int × Int)) : Reach := .ret (addr_longest.out r_)
noncomputable def addr_longest.F1 (a0 : (Vec Int 8)) (b1 : Nat) : (LS (Int × Int × Int) (Int × Int)) → Reach := loopF [.inLoop (c1 (c1 (c2 (c1 (c2 (c2 addr_longest.B)))))), .inBlock 0, .code (c2 (c2 (c2 addr_longest.B)))] (fun s_ : (Int × Int × Int) => [(1, .pointer (some (pt b1 0))), (4, .int .i64 s_.1), (5, .int .i64 s_.2.1), (8, .int .i64 s_.2.2)]) (fun s_ : (Int × Int × Int) => [(b1, ((cI .i64).arr 8).enc a0)]) addr_longest.F0
noncomputable def addr_longest.F2 (a0 : (Vec Int 8)) (b1 : Nat) (s2 : Int) (s3 : Int) (s4 : Int) : (LS Int (LS (Int × Int × Int) (Int × Int))) → Reach := loopF [.inLoop (c1 (c1 (c1 (c2 (c2 (c1 (c1 (c2 (c2 (c1 (c1 (c2 (c1 (c2 (c2 addr_longest.B))))))))))))))), .inBlock 2, .code (c2 (c2 (c2 (c1 (c1 (c2 (c2 (c1 (c1 (c2 (c1 (c2 (c2 addr_longest.B))))))))))))), .inBlock 1, .code (c2 (c2 (c2 (c1 (c1 (c2 (c1 (c2 (c2 addr_longest.B))))))))), .inLoop (c1 (c1 (c2 (c1 (c2 (c2 addr_longest.B)))))), .inBlock 0, .code (c2 (c2 (c2 addr_longest.B)))] (fun s_ : Int => [(1, .pointer (some (pt b1 0))), (4, .int .i64 s2), (5, .int .i64 s3), (8, .int .i64 s4), (6, .int .i64 s4), (7, .int .i64 s_)]) (fun s_ : Int => [(b1, ((cI .i64).arr 8).enc a0)]) (addr_longest.F1 a0 b1)
noncomputable def addr_longest.L2 (a0 : (Vec Int 8)) (s2 : Int) (s3 : Int) (s4 : Int) (s17 : Int) : M (LS Int (LS (Int × Int × Int) (Int × Int))) :=
  (if (IntKind.wrap .i64 (s4 + s17)) < 8 then
      chk ((0 : Int) ≤ (IntKind.wrap .i64 (s4 + s17)) ∧ (IntKind.wrap .i64 (s4 + s17)) < (8 : Nat)) >>= fun _ =>
      pure ((Vec.g a0 (IntKind.wrap .i64 (s4 + s17)) 0) == 0)
    else
      pure false) >>= fun y24 =>
  if y24 = true then
    pure (LS.next (IntKind.wrap .i64 (s17 + 1)))
  else
    if s17 > s3 then
      pure (LS.done (LS.next (s4, s17, IntKind.wrap .i64 (s4 + 1))))
    else
      pure (LS.done (LS.next (s2, s3, IntKind.wrap .i64 (s4 + 1))))
theorem addr_longest.L2_ok (a0 : (Vec Int 8)) (b1 : Nat) (s2 : Int) (s3 : Int) (s4 : Int) (s17 : Int) :
    SJ addr_longest.cx [.code (c1 (c1 (c1 (c2 (c2 (c1 (c1 (c2 (c2 (c1 (c1 (c2 (c1 (c2 (c2 addr_longest.B))))))))))))))), .inLoop (c1 (c1 (c1 (c2 (c2 (c1 (c1 (c2 (c2 (c1 (c1 (c2 (c1 (c2 (c2 addr_longest.B))))))))))))))), .inBlock 2, .code (c2 (c2 (c2 (c1 (c1 (c2 (c2 (c1 (c1 (c2 (c1 (c2 (c2 addr_longest.B))))))))))))), .inBlock 1, .code (c2 (c2 (c2 (c1 (c1 (c2 (c1 (c2 (c2 addr_longest.B))))))))), .inLoop (c1 (c1 (c2 (c1 (c2 (c2 addr_longest.B)))))), .inBlock 0, .code (c2 (c2 (c2 addr_longest.B)))] [(1, .pointer (some (pt b1 0))), (4, .int .i64 s2), (5, .int .i64 s3), (8, .int .i64 s4), (6, .int .i64 s4), (7, .int .i64 s17)] [(b1, ((cI .i64).arr 8).enc a0)] (addr_longest.L2 a0 s2 s3 s4 s17) (addr_longest.F2 a0 b1 s2 s3 s4) := by
  unfold addr_longest.L2
  refine SJ.seq ?_
  refine SJ.sr 12 ?_
  refine OJ.go 5 [(15, .bool (decide ((IntKind.wrap .i64 (s4 + s17)) < 8))), (14, .bool (decide ((IntKind.wrap .i64 (s4 + s17)) < 8))), (13, .int .i64 (IntKind.wrap .i64 (s4 + s17))), (12, .int .i64 s17), (11, .int .i64 s4)] ?_
  refine OJ.join (b := decide ((IntKind.wrap .i64 (s4 + s17)) < 8)) [5, 6, 7, 8, 9, 10, 11] [] [1, 4, 5, 8, 6, 7, 22] (fun y24 => [(1, .pointer (some (pt b1 0))), (4, .int .i64 s2), (5, .int .i64 s3), (8, .int .i64 s4), (6, .int .i64 s4), (7, .int .i64 s17), (22, .bool y24)]) [] [] (t := 15) decide_eq_true_iff (fun hp_ => ?_) (fun hp_ => ?_) (fun _ _ _ _ _ _ h_ => h_) (fun y24 => ?_)
  · refine OJ.go 3 [(18, .int .i64 (IntKind.wrap .i64 (s4 + s17))), (17, .int .i64 s17), (16, .int .i64 s4)] ?_
    refine OJ.idxK (d := 19) (T := 67) (y := .tmp 1) (j := .tmp 18) (E := 3) (sz := 1) (b := b1) (o := 0) (k := .i64) (fun hb22 hb23 => ?_)
    refine OJ.kld (d := 20) (y := .tmp 19) (cd := (cI .i64)) (j := 0) (b := b1) (o := (0 + (IntKind.wrap .i64 (s4 + s17)).toNat * 1)) (Vec.g a0 (IntKind.wrap .i64 (s4 + s17)) 0) (pend2 := []) Ty3 rfl (At.zero (At.arr (z := 0) hb22 hb23)) rfl ?_
    refine OJ.go 2 [(22, .bool ((Vec.g a0 (IntKind.wrap .i64 (s4 + s17)) 0) == 0)), (21, .bool ((Vec.g a0 (IntKind.wrap .i64 (s4 + s17)) 0) == 0))] ?_
    exact OJ.nil ⟨(Cov.mem Cov.nil), rfl, _, rfl, by kernel_rfl⟩
  · refine OJ.go 7 [(22, .bool false), (21, undef), (20, undef), (19, undef), (18, undef), (17, undef), (16, undef)] ?_
    exact OJ.nil ⟨(Cov.mem Cov.nil), rfl, _, rfl, by kernel_rfl⟩
  · refine OJ.nil ?_
    refine SJ.cond (t := (.tmp 22)) (b := y24) Iff.rfl (fun hc27 => ?_) (fun hc27 => ?_)
    · refine SJ.skip ?_
      refine SJ.block (id := 3) ?_
      refine SJ.rg 3 ?_
      refine OJ.go 3 [(7, .int .i64 (IntKind.wrap .i64 (s17 + 1))), (24, .int .i64 (IntKind.wrap .i64 (s17 + 1))), (23, .int .i64 s17)] ?_
      refine OJ.nil ?_
      refine SJ.inBlock ?_
      exact SJ.at_ [1, 4, 5, 8, 6, 7] rfl
    · refine SJ.exit (id := 2) (by rfl) ?_
      refine SJ.sr 3 ?_
      refine OJ.go 3 [(27, .bool (decide (s17 > s3))), (26, .int .i64 s3), (25, .int .i64 s17)] ?_
      refine OJ.nil ?_
      refine SJ.cond (t := (.tmp 27)) (b := decide (s17 > s3)) decide_eq_true_iff (fun hc26 => ?_) (fun hc26 => ?_)
      · refine SJ.rg 4 ?_
        refine OJ.go 4 [(5, .int .i64 s17), (4, .int .i64 s4), (29, .int .i64 s17), (28, .int .i64 s4)] ?_
        refine OJ.nil ?_
        refine SJ.inBlock ?_
        refine SJ.rg 2 ?_
        refine OJ.go 2 [(8, .int .i64 (IntKind.wrap .i64 (s4 + 1))), (30, .int .i64 (IntKind.wrap .i64 (s4 + 1)))] ?_
        refine OJ.nil ?_
        exact SJ.at_ [1, 4, 5, 8] rfl
      · refine SJ.skip ?_
        refine SJ.inBlock ?_
        refine SJ.rg 2 ?_
        refine OJ.go 2 [(8, .int .i64 (IntKind.wrap .i64 (s4 + 1))), (30, .int .i64 (IntKind.wrap .i64 (s4 + 1)))] ?_
        refine OJ.nil ?_
        exact SJ.at_ [1, 4, 5, 8] rfl
noncomputable def addr_longest.L1 (a0 : (Vec Int 8)) (s2 : Int) (s3 : Int) (s4 : Int) : M (LS (Int × Int × Int) (Int × Int)) :=
  if s4 < 8 then
    loopM (fun s_ : Int => addr_longest.L2 a0 s2 s3 s4 s_) 0
  else
    pure (LS.done (s2, s3))
theorem addr_longest.L1_ok (a0 : (Vec Int 8)) (b1 : Nat) (s2 : Int) (s3 : Int) (s4 : Int) :
    SJ addr_longest.cx [.code (c1 (c1 (c2 (c1 (c2 (c2 addr_longest.B)))))), .inLoop (c1 (c1 (c2 (c1 (c2 (c2 addr_longest.B)))))), .inBlock 0, .code (c2 (c2 (c2 addr_longest.B)))] [(1, .pointer (some (pt b1 0))), (4, .int .i64 s2), (5, .int .i64 s3), (8, .int .i64 s4)] [(b1, ((cI .i64).arr 8).enc a0)] (addr_longest.L1 a0 s2 s3 s4) (addr_longest.F1 a0 b1) := by
  unfold addr_longest.L1
  refine SJ.sr 1 ?_
  refine OJ.go 1 [(9, .bool (decide (s4 < 8)))] ?_
  refine OJ.nil ?_
  refine SJ.seq ?_
  refine SJ.cond (t := (.tmp 9)) (b := decide (s4 < 8)) decide_eq_true_iff (fun hc28 => ?_) (fun hc28 => ?_)
  · refine SJ.skip ?_
    refine SJ.seq ?_
    refine SJ.block (id := 1) ?_
    refine SJ.sr 2 ?_
    refine OJ.go 2 [(6, .int .i64 s4), (10, .int .i64 s4)] ?_
    refine OJ.nil ?_
    refine SJ.sr 1 ?_
    refine OJ.go 1 [(7, .int .i64 0)] ?_
    refine OJ.nil ?_
    refine SJ.seq ?_
    refine SJ.block (id := 2) ?_
    exact SJ.loop (fun s_ : Int => [(1, .pointer (some (pt b1 0))), (4, .int .i64 s2), (5, .int .i64 s3), (8, .int .i64 s4), (6, .int .i64 s4), (7, .int .i64 s_)]) (fun s_ : Int => [(b1, ((cI .i64).arr 8).enc a0)]) [1, 4, 5, 8, 6, 7] rfl (fun _ _ => rfl) (fun s_ => addr_longest.L2_ok a0 b1 s2 s3 s4 s_)
  · refine SJ.exit (id := 0) (by rfl) ?_
    refine SJ.sr 4 ?_
    refine OJ.go 4 [(3, .int .i64 s3), (2, .int .i64 s2), (32, .int .i64 s3), (31, .int .i64 s2)] ?_
    refine OJ.nil ?_
    exact SJ.ret rfl (Res.run (ys := [.int .i64 s2, .int .i64 s3]) (.tmp (by kernel_rfl) (.tmp (by kernel_rfl) .nil)) rfl)
noncomputable def addr_longest (a0 : (Vec Int 8)) : M (Int × Int) :=
  slot 67 >>= fun b1 =>
  loopM (fun s_ : (Int × Int × Int) => addr_longest.L1 a0 s_.1 s_.2.1 s_.2.2) ((-1), 1, 0)
theorem addr_longest_ok (a0 : (Vec Int 8)) : Ref Tryd.prog 29 [((cI .i64).arr 8).val a0] (addr_longest a0) addr_longest.out := by
  refine Ref.of (cd := addr_longest.B) Tryd.func29 ?_
  show SJ addr_longest.cx [.code addr_longest.B] [(0, ((cI .i64).arr 8).val a0)] [] (addr_longest a0) addr_longest.F0
  unfold addr_longest
  refine SJ.sr 3 ?_
  refine OJ.slotOf (d := 1) (op := (.box 67 (.tmp 0))) (cd := ((cI .i64).arr 8)) (u := a0) (owed := []) (box_run (by kernel_rfl)) (fun b1 => ?_)
  refine OW.nil ?_
  refine OJ.go 2 [(3, .int .i64 0), (2, .int .i64 0)] ?_
  refine OJ.nil ?_
  refine SJ.sr 2 ?_
  refine OJ.go 2 [(5, .int .i64 1), (4, .int .i64 (-1))] ?_
  refine OJ.nil ?_
  refine SJ.seq ?_
  refine SJ.sr 1 ?_
  refine OJ.go 1 [(8, .int .i64 0)] ?_
  refine OJ.nil ?_
  refine SJ.block (id := 0) ?_
  exact SJ.loop (fun s_ : (Int × Int × Int) => [(1, .pointer (some (pt b1 0))), (4, .int .i64 s_.1), (5, .int .i64 s_.2.1), (8, .int .i64 s_.2.2)]) (fun s_ : (Int × Int × Int) => [(b1, ((cI .i64).arr 8).enc a0)]) [1, 4, 5, 8] rfl (fun _ _ => rfl) (fun s_ => addr_longest.L1_ok a0 b1 s_.1 s_.2.1 s_.2.2)

/-! ### strconv.FormatInt: function 42 -/
noncomputable def strconv_FormatInt_.B : Code := (Tryd.f42.body).getD .skip
noncomputable def strconv_FormatInt_.cx : Fx := ⟨Tryd.prog, 42, Tryd.f42⟩
noncomputable def strconv_FormatInt_.out (r_ : ByteArray) : Value := .string r_
noncomputable def strconv_FormatInt_.F0 (r_ : ByteArray) : Reach := .ret (strconv_FormatInt_.out r_)
noncomputable def strconv_FormatInt_ (a0 : Int) (a1 : Int) : M ByteArray :=
  strconv_FormatInt a0 a1 >>= fun r1 =>
  pure r1
theorem strconv_FormatInt__ok (a0 : Int) (a1 : Int) : Ref Tryd.prog 42 [.int .i64 a0, .int .i64 a1] (strconv_FormatInt_ a0 a1) strconv_FormatInt_.out := by
  refine Ref.of (cd := strconv_FormatInt_.B) Tryd.func42 ?_
  show SJ strconv_FormatInt_.cx [.code strconv_FormatInt_.B] [(0, .int .i64 a0), (1, .int .i64 a1)] [] (strconv_FormatInt_ a0 a1) strconv_FormatInt_.F0
  unfold strconv_FormatInt_
  refine SJ.sr 1 ?_
  refine OJ.go 1 [(4, .string ByteArray.empty)] ?_
  refine OJ.nil ?_
  refine SJ.sr 4 ?_
  refine OJ.go 2 [(6, .int .i64 a1), (5, .int .i64 a0)] ?_
  refine OJ.call (d := 7) (g := 53) (ats := #[2, 3]) (args := [.tmp 5, .tmp 6]) (owed := []) F53 (strconv_FormatInt_ok a0 a1) (fun r1 => ?_)
  refine OW.nil ?_
  refine OJ.go 1 [(4, .string r1)] ?_
  refine OJ.nil ?_
  exact SJ.ret rfl (Res.run (ys := [.string r1]) (.tmp (by kernel_rfl) .nil) rfl)

/-! ### weir/addr.colons: function 30 -/
noncomputable def addr_colons.B : Code := (Tryd.f30.body).getD .skip
noncomputable def addr_colons.cx : Fx := ⟨Tryd.prog, 30, Tryd.f30⟩
noncomputable def addr_colons.out (r_ : ByteArray) : Value := .string r_
noncomputable def addr_colons.F0 (r_ : ByteArray) : Reach := .ret (addr_colons.out r_)
noncomputable def addr_colons.F1 (a0 : Sl) : (LS (Sl × Int) ByteArray) → Reach := loopF [.inLoop (c1 (c1 (c2 (c1 (c2 (c2 addr_colons.B)))))), .inBlock 0, .code (c2 (c2 (c2 addr_colons.B)))] (fun s_ : (Sl × Int) => [(3, Sl.v s_.1), (6, Sl.v a0), (7, .int .i64 (a0.len : Int)), (8, .int .i64 s_.2)]) (fun s_ : (Sl × Int) => []) addr_colons.F0
noncomputable def addr_colons.L1 (a0 : Sl) (s1 : Sl) (s2 : Int) : M (LS (Sl × Int) ByteArray) :=
  if s2 < (a0.len : Int) then
    idx a0.a a0.len s2 1 >>= fun p10 =>
    ld (cI .i64) p10 >>= fun x11 =>
    strconv_FormatInt_ x11 16 >>= fun r12 =>
    slot 9 >>= fun b13 =>
    appl cS 9 16 ByteArray.empty s1 [r12] >>= fun r14 =>
    pure (LS.next (r14, IntKind.wrap .i64 (s2 + 1)))
  else
    strings_Join s1 str1 >>= fun r15 =>
    pure (LS.done r15)
theorem addr_colons.L1_ok (a0 : Sl) (s1 : Sl) (s2 : Int) :
    SJ addr_colons.cx [.code (c1 (c1 (c2 (c1 (c2 (c2 addr_colons.B)))))), .inLoop (c1 (c1 (c2 (c1 (c2 (c2 addr_colons.B)))))), .inBlock 0, .code (c2 (c2 (c2 addr_colons.B)))] [(3, Sl.v s1), (6, Sl.v a0), (7, .int .i64 (a0.len : Int)), (8, .int .i64 s2)] [] (addr_colons.L1 a0 s1 s2) (addr_colons.F1 a0) := by
  unfold addr_colons.L1
  refine SJ.sr 1 ?_
  refine OJ.go 1 [(9, .bool (decide (s2 < (a0.len : Int))))] ?_
  refine OJ.nil ?_
  refine SJ.seq ?_
  refine SJ.cond (t := (.tmp 9)) (b := decide (s2 < (a0.len : Int))) decide_eq_true_iff (fun hc16 => ?_) (fun hc16 => ?_)
  · refine SJ.skip ?_
    refine SJ.seq ?_
    refine SJ.block (id := 1) ?_
    refine SJ.sr 3 ?_
    refine OJ.idxS (d := 10) (T := 23) (y := .tmp 6) (j := .tmp 8) (E := 3) (cap := a0.cap) (k := .i64) (fun p10 => ?_)
    refine OJ.ld (d := 11) (y := .tmp 10) (pend2 := fun x11 => []) Ty3 (fun _ => rfl) (fun x11 => ?_)
    refine OJ.go 1 [(5, .int .i64 x11)] ?_
    refine OJ.nil ?_
    refine SJ.rg 6 ?_
    refine OJ.go 2 [(13, .int .i64 x11), (12, Sl.v s1)] ?_
    refine OJ.call (d := 14) (g := 42) (ats := #[2, 3]) (args := [.tmp 13, .const (.int .i64 16)]) (owed := []) F42 (strconv_FormatInt__ok x11 16) (fun r12 => ?_)
    refine OW.nil ?_
    refine OJ.rowSlot (d := 15) (t := 97) (parts := [(0, .tmp 14)]) (ps := [(0, cS.val r12)]) (cd := cS) (⟨[r12], rfl⟩ : Vec ByteArray 1) (owed := []) Ty9 (Filled.cons (cd := cS) (q := r12) (o := 0) rfl (Upd.arr (i := 0) (by decide) (by decide)) Filled.nil) (fun b13 => ?_)
    refine OW.nil ?_
    refine OJ.appl (d := 16) (t := 97) (u := 97) (so := .tmp 12) (xo := .tmp 15) (j := 0) (b := b13) (l := (cS.arr 1).enc (⟨[r12], rfl⟩ : Vec ByteArray 1)) (n := 1) (k := 1) [r12] (owed := []) Ty9 (by rfl) (Cod.arr_enc _ _ _) (by rfl) (fun r14 => ?_)
    refine OW.nil ?_
    refine OJ.go 1 [(3, Sl.v r14)] ?_
    refine OJ.nil ?_
    refine SJ.inBlock ?_
    refine SJ.rg 2 ?_
    refine OJ.go 2 [(8, .int .i64 (IntKind.wrap .i64 (s2 + 1))), (17, .int .i64 (IntKind.wrap .i64 (s2 + 1)))] ?_
    refine OJ.nil ?_
    refine SJ.forget (List.Sublist.cons _ List.Sublist.slnil) ?_
    exact SJ.at_ [3, 6, 7, 8] rfl
  · refine SJ.exit (id := 0) (by rfl) ?_
    refine SJ.sr 3 ?_
    refine OJ.go 1 [(18, Sl.v s1)] ?_
    refine OJ.call (d := 19) (g := 41) (ats := #[97, 9]) (args := [.tmp 18, .const (.string str1)]) (owed := []) F41 (strings_Join_ok s1 str1) (fun r15 => ?_)
    refine OW.nil ?_
    refine OJ.go 1 [(2, .string r15)] ?_
    refine OJ.nil ?_
    exact SJ.ret rfl (Res.run (ys := [.string r15]) (.tmp (by kernel_rfl) .nil) rfl)
noncomputable def addr_colons (a0 : Sl) : M ByteArray :=
  loopM (fun s_ : (Sl × Int) => addr_colons.L1 a0 s_.1 s_.2) (Sl.nil, 0)
theorem addr_colons_ok (a0 : Sl) : Ref Tryd.prog 30 [Sl.v a0] (addr_colons a0) addr_colons.out := by
  refine Ref.of (cd := addr_colons.B) Tryd.func30 ?_
  show SJ addr_colons.cx [.code addr_colons.B] [(0, Sl.v a0)] [] (addr_colons a0) addr_colons.F0
  unfold addr_colons
  refine SJ.sr 1 ?_
  refine OJ.go 1 [(2, .string ByteArray.empty)] ?_
  refine OJ.nil ?_
  refine SJ.sr 1 ?_
  refine OJ.go 1 [(3, Sl.v Sl.nil)] ?_
  refine OJ.nil ?_
  refine SJ.seq ?_
  refine SJ.sr 3 ?_
  refine OJ.go 3 [(8, .int .i64 0), (7, .int .i64 (a0.len : Int)), (6, Sl.v a0)] ?_
  refine OJ.nil ?_
  refine SJ.block (id := 0) ?_
  exact SJ.loop (fun s_ : (Sl × Int) => [(3, Sl.v s_.1), (6, Sl.v a0), (7, .int .i64 (a0.len : Int)), (8, .int .i64 s_.2)]) (fun s_ : (Sl × Int) => []) [3, 6, 7, 8] rfl (fun _ _ => rfl) (fun s_ => addr_colons.L1_ok a0 s_.1 s_.2)

/-! ### weir/addr.PrintIP: function 16 -/
noncomputable def addr_PrintIP.B : Code := (Tryd.f16.body).getD .skip
noncomputable def addr_PrintIP.cx : Fx := ⟨Tryd.prog, 16, Tryd.f16⟩
noncomputable def addr_PrintIP.out (r_ : (ByteArray × Int)) : Value := .tuple #[.string r_.1, .int .i64 r_.2]
noncomputable def addr_PrintIP.F0 (r_ : (ByteArray × Int)) : Reach := .ret (addr_PrintIP.out r_)
noncomputable def addr_PrintIP.K1 (b46 : Nat) : M (ByteArray × Int) :=
  ld ((cI .i64).arr 8) (pt b46 0) >>= fun x54 =>
  addr_longest x54 >>= fun r55 =>
  if r55.1 < 0 then
    cut 1 ⟨some (pt b46 0), 8, 8⟩ none none none >>= fun r58 =>
    addr_colons r58 >>= fun r59 =>
    pure (r59, 0)
  else
    draw >>= fun _ =>
    cut 1 ⟨some (pt b46 0), 8, 8⟩ none (some r55.1) none >>= fun r60 =>
    addr_colons r60 >>= fun r61 =>
    chk (((r61.size + str0.size : Nat) : Int) ≤ 9223372036854775807) >>= fun _ =>
    cut 1 ⟨some (pt b46 0), 8, 8⟩ (some (IntKind.wrap .i64 (r55.1 + r55.2))) none none >>= fun r62 =>
    addr_colons r62 >>= fun r63 =>
    chk ((((r61 ++ str0).size + r63.size : Nat) : Int) ≤ 9223372036854775807) >>= fun _ =>
    pure (((r61 ++ str0) ++ r63), 0)
theorem addr_PrintIP.K1_ok (b46 : Nat) :
    SJ addr_PrintIP.cx [.code (c2 (c2 (c2 (c2 addr_PrintIP.B))))] [(4, .pointer (some (pt b46 0)))] [] (addr_PrintIP.K1 b46) addr_PrintIP.F0 := by
  unfold addr_PrintIP.K1
  refine SJ.sr 7 ?_
  refine OJ.ld (d := 52) (y := .tmp 4) (pend2 := fun x54 => []) Ty67 (fun _ => rfl) (fun x54 => ?_)
  refine OJ.call (d := 53) (g := 29) (ats := #[67]) (args := [.tmp 52]) (owed := []) F29 (addr_longest_ok x54) (fun r55 => ?_)
  refine OW.nil ?_
  refine OJ.go 5 [(7, .int .i64 r55.2), (6, .int .i64 r55.1), (55, .int .i64 r55.2), (54, .int .i64 r55.1), (51, .tuple #[.int .i64 r55.1, .int .i64 r55.2])] ?_
  refine OJ.nil ?_
  refine SJ.seq ?_
  refine SJ.sr 2 ?_
  refine OJ.go 2 [(57, .bool (decide (r55.1 < 0))), (56, .int .i64 r55.1)] ?_
  refine OJ.nil ?_
  refine SJ.cond (t := (.tmp 57)) (b := decide (r55.1 < 0)) decide_eq_true_iff (fun hc64 => ?_) (fun hc64 => ?_)
  · refine SJ.sr 4 ?_
    refine OJ.cutA (d := 58) (t := 67) (E := 3) (y := .tmp 4) (lo := none) (hi := none) (mx := none) (lo' := none) (hi' := none) (mx' := none) (fun h => by cases h) (fun r58 => ?_)
    refine OJ.call (d := 59) (g := 30) (ats := #[23]) (args := [.tmp 58]) (owed := []) F30 (addr_colons_ok r58) (fun r59 => ?_)
    refine OW.nil ?_
    refine OJ.go 2 [(3, .int .i64 0), (2, .string r59)] ?_
    refine OJ.nil ?_
    exact SJ.ret rfl (Res.run (ys := [.string r59, .int .i64 0]) (.tmp (by kernel_rfl) (.tmp (by kernel_rfl) .nil)) rfl)
  · refine SJ.skip ?_
    refine SJ.seq ?_
    refine SJ.draw (id := 16) (kd := [0, 0, 2, 0, 0, 0, 0, 0, 2, 0, 0, 0]) (bef := [0, 1, 3, 7, 0, 0, 48, 112, 247, 511, 1023, 2047]) (ord := [0, 1, 2, 3, 4, 5, 6, 7, 8, 9, 10, 11]) mixed ?_
    refine OJ.go 1 [(60, .int .i64 r55.1)] ?_
    refine OJ.cutA (d := 61) (t := 67) (E := 3) (y := .tmp 4) (lo := none) (hi := (some (.tmp 60))) (mx := none) (lo' := none) (hi' := some (.i64, r55.1)) (mx' := none) (fun h => by cases h) (fun r60 => ?_)
    refine OJ.call (d := 62) (g := 30) (ats := #[23]) (args := [.tmp 61]) (owed := []) F30 (addr_colons_ok r60) (fun r61 => ?_)
    refine OW.nil ?_
    refine OJ.cat (d := 63) (T := 9) (yT := 9) (y := .tmp 62) (z := .const (.string str0)) (p := r61) (q := str0) ?_
    refine OJ.go 3 [(66, .int .i64 (IntKind.wrap .i64 (r55.1 + r55.2))), (65, .int .i64 r55.2), (64, .int .i64 r55.1)] ?_
    refine OJ.cutA (d := 67) (t := 67) (E := 3) (y := .tmp 4) (lo := (some (.tmp 66))) (hi := none) (mx := none) (lo' := some (.i64, IntKind.wrap .i64 (r55.1 + r55.2))) (hi' := none) (mx' := none) (fun h => by cases h) (fun r62 => ?_)
    refine OJ.call (d := 68) (g := 30) (ats := #[23]) (args := [.tmp 67]) (owed := []) F30 (addr_colons_ok r62) (fun r63 => ?_)
    refine OW.nil ?_
    refine OJ.cat (d := 69) (T := 9) (yT := 9) (y := .tmp 63) (z := .tmp 68) (p := (r61 ++ str0)) (q := r63) ?_
    refine OJ.go 2 [(3, .int .i64 0), (2, .string ((r61 ++ str0) ++ r63))] ?_
    refine OJ.nil ?_
    exact SJ.ret rfl (Res.run (ys := [.string ((r61 ++ str0) ++ r63), .int .i64 0]) (.tmp (by kernel_rfl) (.tmp (by kernel_rfl) .nil)) rfl)
noncomputable def addr_PrintIP.F1 (b1 : Nat) (b46 : Nat) : (LS Int (ByteArray × Int)) → Reach := loopF [.inLoop (c1 (c1 (c2 (c1 (c2 (c2 (c2 addr_PrintIP.B))))))), .inBlock 1, .code (c2 (c2 (c2 (c2 addr_PrintIP.B))))] (fun s_ : Int => [(1, .pointer (some (pt b1 0))), (4, .pointer (some (pt b46 0))), (30, .int .i64 s_)]) (fun s_ : Int => []) addr_PrintIP.F0
noncomputable def addr_PrintIP.L1 (b1 : Nat) (b46 : Nat) (s47 : Int) : M (LS Int (ByteArray × Int)) :=
  if s47 < 8 then
    draw >>= fun _ =>
    idx (some (Addr.add (pt b1 0) 1)) 16 (IntKind.wrap .i64 (2 * s47)) 1 >>= fun p65 =>
    ld (cI .u8) p65 >>= fun x66 =>
    idx (some (Addr.add (pt b1 0) 1)) 16 (IntKind.wrap .i64 ((IntKind.wrap .i64 (2 * s47)) + 1)) 1 >>= fun p67 =>
    ld (cI .u8) p67 >>= fun x68 =>
    idx (some (pt b46 0)) 8 s47 1 >>= fun p69 =>
    st (cI .i64) p69 (bor .i64 (IntKind.wrap .i64 ((IntKind.wrap .i64 x66) * 2 ^ 8)) (IntKind.wrap .i64 x68)) >>= fun _ =>
    pure (LS.next (IntKind.wrap .i64 (s47 + 1)))
  else
    (addr_PrintIP.K1 b46) >>= fun b => pure (LS.done b)
theorem addr_PrintIP.L1_ok (b1 : Nat) (b46 : Nat) (s47 : Int) :
    SJ addr_PrintIP.cx [.code (c1 (c1 (c2 (c1 (c2 (c2 (c2 addr_PrintIP.B))))))), .inLoop (c1 (c1 (c2 (c1 (c2 (c2 (c2 addr_PrintIP.B))))))), .inBlock 1, .code (c2 (c2 (c2 (c2 addr_PrintIP.B))))] [(1, .pointer (some (pt b1 0))), (4, .pointer (some (pt b46 0))), (30, .int .i64 s47)] [] (addr_PrintIP.L1 b1 b46 s47) (addr_PrintIP.F1 b1 b46) := by
  unfold addr_PrintIP.L1
  refine SJ.sr 1 ?_
  refine OJ.go 1 [(31, .bool (decide (s47 < 8)))] ?_
  refine OJ.nil ?_
  refine SJ.seq ?_
  refine SJ.cond (t := (.tmp 31)) (b := decide (s47 < 8)) decide_eq_true_iff (fun hc70 => ?_) (fun hc70 => ?_)
  · refine SJ.skip ?_
    refine SJ.seq ?_
    refine SJ.block (id := 2) ?_
    refine SJ.sr 2 ?_
    refine OJ.go 2 [(5, .int .i64 s47), (32, .int .i64 s47)] ?_
    refine OJ.nil ?_
    refine SJ.draw (id := 11) (kd := [0, 0, 0, 0, 0, 1, 0, 0, 0, 0, 0, 0, 0, 1, 0, 0, 0, 2]) (bef := [0, 0, 2, 0, 14, 30, 62, 126, 0, 256, 768, 0, 3840, 7936, 16128, 32766, 65535, 131071]) (ord := [0, 1, 2, 3, 4, 5, 6, 7, 8, 9, 10, 11, 12, 13, 14, 15, 16, 17]) mixed ?_
    refine OJ.go 4 [(36, .pointer (some (Addr.add (pt b1 0) 1))), (35, .int .i64 (IntKind.wrap .i64 (2 * s47))), (34, .int .i64 s47), (33, .int .i64 s47)] ?_
    refine OJ.idxA (d := 37) (T := 22) (y := .tmp 36) (j := .tmp 35) (E := 5) (k := .i64) (fun p65 => ?_)
    refine OJ.ld (d := 38) (y := .tmp 37) (pend2 := fun x66 => [⟨5, 5, p65, (cI .u8).val x66⟩]) Ty5 (fun _ => rfl) (fun x66 => ?_)
    refine OJ.go 6 [(44, .pointer (some (Addr.add (pt b1 0) 1))), (43, .int .i64 (IntKind.wrap .i64 ((IntKind.wrap .i64 (2 * s47)) + 1))), (42, .int .i64 (IntKind.wrap .i64 (2 * s47))), (41, .int .i64 s47), (40, .int .i64 (IntKind.wrap .i64 ((IntKind.wrap .i64 x66) * 2 ^ 8))), (39, .int .i64 (IntKind.wrap .i64 x66))] ?_
    refine OJ.idxA (d := 45) (T := 22) (y := .tmp 44) (j := .tmp 43) (E := 5) (k := .i64) (fun p67 => ?_)
    refine OJ.ld (d := 46) (y := .tmp 45) (pend2 := fun x68 => [⟨13, 5, p67, (cI .u8).val x68⟩, ⟨5, 5, p65, (cI .u8).val x66⟩]) Ty5 (fun _ => rfl) (fun x68 => ?_)
    refine OJ.go 2 [(48, .int .i64 (bor .i64 (IntKind.wrap .i64 ((IntKind.wrap .i64 x66) * 2 ^ 8)) (IntKind.wrap .i64 x68))), (47, .int .i64 (IntKind.wrap .i64 x68))] ?_
    refine OJ.idxA (d := 49) (T := 67) (y := .tmp 4) (j := .tmp 33) (E := 3) (k := .i64) (fun p69 => ?_)
    refine OJ.st (y := .tmp 49) (z := .tmp 48) (owed := []) Ty3 ?_
    refine OW.nil ?_
    refine OJ.nil ?_
    refine SJ.inBlock ?_
    refine SJ.rg 2 ?_
    refine OJ.go 2 [(30, .int .i64 (IntKind.wrap .i64 (s47 + 1))), (50, .int .i64 (IntKind.wrap .i64 (s47 + 1)))] ?_
    refine OJ.nil ?_
    exact SJ.at_ [1, 4, 30] rfl
  · refine SJ.exit (id := 1) (by rfl) ?_
    refine SJ.less [4] (m' := [(4, .pointer (some (pt b46 0)))]) ?_
    refine SJ.done ?_
    exact addr_PrintIP.K1_ok b46
noncomputable def addr_PrintIP (a0 : api_IP) : M (ByteArray × Int) :=
  newv 27 c_api_IP a0 >>= fun b1 =>
  ld c_api_IP (pt b1 0) >>= fun x2 =>
  addr_Valid x2 >>= fun r3 =>
  if ¬ (r3 = true) then
    pure (ByteArray.empty, 40)
  else
    ld (cI .i64) (pt b1 0) >>= fun x26 =>
    if x26 = 4 then
      cut 1 ⟨some (Addr.add (pt b1 0) 1), 16, 16⟩ none (some 4) none >>= fun r37 =>
      addr_dotted r37 >>= fun r38 =>
      pure (r38, 0)
    else
      cut 1 ⟨some (Addr.add (pt b1 0) 1), 16, 16⟩ none (some 12) none >>= fun r39 =>
      (chk (12 ≤ r39.len) >>= fun _ => nilck r39.a) >>= fun p40 =>
      ld ((cI .u8).arr 12) p40 >>= fun x41 =>
      if x41 = (⟨[0, 0, 0, 0, 0, 0, 0, 0, 0, 0, 255, 255], rfl⟩ : (Vec Int 12)) then
        cut 1 ⟨some (Addr.add (pt b1 0) 1), 16, 16⟩ (some 12) none none >>= fun r44 =>
        addr_dotted r44 >>= fun r45 =>
        chk (((str9.size + r45.size : Nat) : Int) ≤ 9223372036854775807) >>= fun _ =>
        pure ((str9 ++ r45), 0)
      else
        newv 67 ((cI .i64).arr 8) (Vec.rep 8 0) >>= fun b46 =>
        loopM (fun s_ : Int => addr_PrintIP.L1 b1 b46 s_) 0
theorem addr_PrintIP_ok (a0 : api_IP) : Ref Tryd.prog 16 [c_api_IP.val a0] (addr_PrintIP a0) addr_PrintIP.out := by
  refine Ref.of (cd := addr_PrintIP.B) Tryd.func16 ?_
  show SJ addr_PrintIP.cx [.code addr_PrintIP.B] [(0, c_api_IP.val a0)] [] (addr_PrintIP a0) addr_PrintIP.F0
  unfold addr_PrintIP
  refine SJ.sr 3 ?_
  refine OJ.newOf (d := 1) (op := (.box 27 (.tmp 0))) (cd := c_api_IP) (u := a0) (owed := []) (box_run (by kernel_rfl)) (fun b1 => ?_)
  refine OW.nil ?_
  refine OJ.go 2 [(3, .int .i64 0), (2, .string ByteArray.empty)] ?_
  refine OJ.nil ?_
  refine SJ.seq ?_
  refine SJ.block (id := 0) ?_
  refine SJ.sr 4 ?_
  refine OJ.ld (d := 9) (y := .tmp 1) (pend2 := fun x2 => []) Ty27 (fun _ => rfl) (fun x2 => ?_)
  refine OJ.call (d := 10) (g := 19) (ats := #[27]) (args := [.tmp 9]) (owed := []) F19 (addr_Valid_ok x2) (fun r3 => ?_)
  refine OW.nil ?_
  refine OJ.go 2 [(8, .bool (!r3)), (11, .bool (!r3))] ?_
  refine OJ.nil ?_
  refine SJ.cond (t := (.tmp 8)) (b := (!r3)) (bnot_iff Iff.rfl) (fun hc73 => ?_) (fun hc73 => ?_)
  · refine SJ.sr 2 ?_
    refine OJ.go 2 [(3, .int .i64 40), (2, .string ByteArray.empty)] ?_
    refine OJ.nil ?_
    exact SJ.ret rfl (Res.run (ys := [.string ByteArray.empty, .int .i64 40]) (.tmp (by kernel_rfl) (.tmp (by kernel_rfl) .nil)) rfl)
  · refine SJ.sr 4 ?_
    refine OJ.go 1 [(13, .pointer (some (pt b1 0)))] ?_
    refine OJ.ld (d := 14) (y := .tmp 13) (pend2 := fun x26 => []) Ty3 (fun _ => rfl) (fun x26 => ?_)
    refine OJ.go 2 [(12, .bool (x26 == 4)), (15, .bool (x26 == 4))] ?_
    refine OJ.nil ?_
    refine SJ.cond (t := (.tmp 12)) (b := (x26 == 4)) beq_iff_eq (fun hc72 => ?_) (fun hc72 => ?_)
    · refine SJ.sr 5 ?_
      refine OJ.go 1 [(16, .pointer (some (Addr.add (pt b1 0) 1)))] ?_
      refine OJ.cutA (d := 17) (t := 22) (E := 5) (y := .tmp 16) (lo := none) (hi := (some (.const (.int .i64 4)))) (mx := none) (lo' := none) (hi' := some (.i64, 4)) (mx' := none) (fun h => by cases h) (fun r37 => ?_)
      refine OJ.call (d := 18) (g := 28) (ats := #[55]) (args := [.tmp 17]) (owed := []) F28 (addr_dotted_ok r37) (fun r38 => ?_)
      refine OW.nil ?_
      refine OJ.go 2 [(3, .int .i64 0), (2, .string r38)] ?_
      refine OJ.nil ?_
      exact SJ.ret rfl (Res.run (ys := [.string r38, .int .i64 0]) (.tmp (by kernel_rfl) (.tmp (by kernel_rfl) .nil)) rfl)
    · refine SJ.sr 7 ?_
      refine OJ.go 1 [(20, .pointer (some (Addr.add (pt b1 0) 1)))] ?_
      refine OJ.cutA (d := 21) (t := 22) (E := 5) (y := .tmp 20) (lo := none) (hi := (some (.const (.int .i64 12)))) (mx := none) (lo' := none) (hi' := some (.i64, 12)) (mx' := none) (fun h => by cases h) (fun r39 => ?_)
      refine OJ.toArr (d := 22) (t := 66) (E := 5) (y := .tmp 21) (s := r39) (fun p40 => ?_)
      refine OJ.ld (d := 23) (y := .tmp 22) (pend2 := fun x41 => []) Ty66 (fun _ => rfl) (fun x41 => ?_)
      refine OJ.build (d := 24) (T := 66) (parts := [(10, .const (.int .u8 255)), (11, .const (.int .u8 255))]) (ps := [(10, (cI .u8).val 255), (11, (cI .u8).val 255)]) (cd := ((cI .u8).arr 12)) (z0 := (Vec.rep 12 0)) (⟨[0, 0, 0, 0, 0, 0, 0, 0, 0, 0, 255, 255], rfl⟩ : (Vec Int 12)) Ty66 rfl (Filled.cons (cd := (cI .u8)) (q := 255) (o := 10) (by kernel_rfl) (Upd.arr (i := 10) (by decide) (by decide)) (Filled.cons (cd := (cI .u8)) (q := 255) (o := 11) (by kernel_rfl) (Upd.arr (i := 11) (by decide) (by decide)) Filled.nil)) ?_
      refine OJ.eql (d := 25) (T := 66) (yT := 66) (y := .tmp 23) (z := .tmp 24) (cd := ((cI .u8).arr 12)) (p := x41) (q := (⟨[0, 0, 0, 0, 0, 0, 0, 0, 0, 0, 255, 255], rfl⟩ : (Vec Int 12))) rfl Eq66 ?_
      refine OJ.go 1 [(19, .bool (eqv x41 (⟨[0, 0, 0, 0, 0, 0, 0, 0, 0, 0, 255, 255], rfl⟩ : (Vec Int 12))))] ?_
      refine OJ.nil ?_
      refine SJ.cond (t := (.tmp 19)) (b := (eqv x41 (⟨[0, 0, 0, 0, 0, 0, 0, 0, 0, 0, 255, 255], rfl⟩ : (Vec Int 12)))) eqv_iff (fun hc71 => ?_) (fun hc71 => ?_)
      · refine SJ.sr 6 ?_
        refine OJ.go 1 [(26, .pointer (some (Addr.add (pt b1 0) 1)))] ?_
        refine OJ.cutA (d := 27) (t := 22) (E := 5) (y := .tmp 26) (lo := (some (.const (.int .i64 12)))) (hi := none) (mx := none) (lo' := some (.i64, 12)) (hi' := none) (mx' := none) (fun h => by cases h) (fun r44 => ?_)
        refine OJ.call (d := 28) (g := 28) (ats := #[55]) (args := [.tmp 27]) (owed := []) F28 (addr_dotted_ok r44) (fun r45 => ?_)
        refine OW.nil ?_
        refine OJ.cat (d := 29) (T := 9) (yT := 9) (y := .const (.string str9)) (z := .tmp 28) (p := str9) (q := r45) ?_
        refine OJ.go 2 [(3, .int .i64 0), (2, .string (str9 ++ r45))] ?_
        refine OJ.nil ?_
        exact SJ.ret rfl (Res.run (ys := [.string (str9 ++ r45), .int .i64 0]) (.tmp (by kernel_rfl) (.tmp (by kernel_rfl) .nil)) rfl)
      · refine SJ.skip ?_
        refine SJ.inBlock ?_
        refine SJ.sr 1 ?_
        refine OJ.newOf (d := 4) (op := (.alloc 67)) (cd := ((cI .i64).arr 8)) (u := (Vec.rep 8 0)) (owed := []) (alloc_run Ty67) (fun b46 => ?_)
        refine OW.nil ?_
        refine OJ.nil ?_
        refine SJ.seq ?_
        refine SJ.sr 1 ?_
        refine OJ.go 1 [(30, .int .i64 0)] ?_
        refine OJ.nil ?_
        refine SJ.block (id := 1) ?_
        exact SJ.loop (fun s_ : Int => [(1, .pointer (some (pt b1 0))), (4, .pointer (some (pt b46 0))), (30, .int .i64 s_)]) (fun s_ : Int => []) [1, 4, 30] rfl (fun _ _ => rfl) (fun s_ => addr_PrintIP.L1_ok b1 b46 s_)

/-! ### internal/stringslite.Cut: function 45 -/
noncomputable def stringslite_Cut.B : Code := (Tryd.f45.body).getD .skip
noncomputable def stringslite_Cut.cx : Fx := ⟨Tryd.prog, 45, Tryd.f45⟩
noncomputable def stringslite_Cut.out (r_ : (ByteArray × ByteArray × Bool)) : Value := .tuple #[.string r_.1, .string r_.2.1, .bool r_.2.2]
noncomputable def stringslite_Cut.F0 (r_ : (ByteArray × ByteArray × Bool)) : Reach := .ret (stringslite_Cut.out r_)
noncomputable def stringslite_Cut (a0 : ByteArray) (a1 : ByteArray) : M (ByteArray × ByteArray × Bool) :=
  stringslite_Index a0 a1 >>= fun r1 =>
  if r1 ≥ 0 then
    draw >>= fun _ =>
    chk (0 ≤ (0 : Int) ∧ (0 : Int) ≤ r1 ∧ r1 ≤ (a0.size : Int)) >>= fun _ =>
    chk (0 ≤ ((IntKind.wrap .i64 (r1 + (a1.size : Int))) : Int) ∧ ((IntKind.wrap .i64 (r1 + (a1.size : Int))) : Int) ≤ (a0.size : Int) ∧ (a0.size : Int) ≤ (a0.size : Int)) >>= fun _ =>
    pure ((ByteArray.extract a0 (Int.toNat 0) (Int.toNat r1)), (ByteArray.extract a0 (Int.toNat (IntKind.wrap .i64 (r1 + (a1.size : Int)))) (Int.toNat (a0.size : Int))), true)
  else
    pure (a0, ByteArray.empty, false)
theorem stringslite_Cut_ok (a0 : ByteArray) (a1 : ByteArray) : Ref Tryd.prog 45 [.string a0, .string a1] (stringslite_Cut a0 a1) stringslite_Cut.out := by
  refine Ref.of (cd := stringslite_Cut.B) Tryd.func45 ?_
  show SJ stringslite_Cut.cx [.code stringslite_Cut.B] [(0, .string a0), (1, .string a1)] [] (stringslite_Cut a0 a1) stringslite_Cut.F0
  unfold stringslite_Cut
  refine SJ.sr 3 ?_
  refine OJ.go 3 [(6, .bool false), (5, .string ByteArray.empty), (4, .string ByteArray.empty)] ?_
  refine OJ.nil ?_
  refine SJ.seq ?_
  refine SJ.sr 4 ?_
  refine OJ.go 2 [(9, .string a1), (8, .string a0)] ?_
  refine OJ.call (d := 10) (g := 55) (ats := #[9, 9]) (args := [.tmp 8, .tmp 9]) (owed := []) F55 (stringslite_Index_ok a0 a1) (fun r1 => ?_)
  refine OW.nil ?_
  refine OJ.go 1 [(7, .int .i64 r1)] ?_
  refine OJ.nil ?_
  refine SJ.sr 2 ?_
  refine OJ.go 2 [(12, .bool (decide (r1 ≥ 0))), (11, .int .i64 r1)] ?_
  refine OJ.nil ?_
  refine SJ.cond (t := (.tmp 12)) (b := decide (r1 ≥ 0)) decide_eq_true_iff (fun hc2 => ?_) (fun hc2 => ?_)
  · refine SJ.seq ?_
    refine SJ.draw (id := 3) (kd := [0, 0, 0, 0, 0, 0, 0, 0, 0, 0, 0, 0]) (bef := [0, 0, 3, 0, 0, 0, 32, 112, 248, 7, 1023, 2047]) (ord := [0, 1, 2, 3, 4, 5, 6, 7, 8, 9, 10, 11]) mixed ?_
    refine OJ.go 2 [(14, .int .i64 r1), (13, .string a0)] ?_
    refine OJ.cutT (d := 15) (t := 9) (y := .tmp 13) (lo := none) (hi := (some (.tmp 14))) (lo' := none) (hi' := some (.i64, r1)) ?_
    refine OJ.go 5 [(20, .int .i64 (IntKind.wrap .i64 (r1 + (a1.size : Int)))), (19, .int .i64 (a1.size : Int)), (18, .string a1), (17, .int .i64 r1), (16, .string a0)] ?_
    refine OJ.cutT (d := 21) (t := 9) (y := .tmp 16) (lo := (some (.tmp 20))) (hi := none) (lo' := some (.i64, IntKind.wrap .i64 (r1 + (a1.size : Int)))) (hi' := none) ?_
    refine OJ.go 3 [(6, .bool true), (5, .string (ByteArray.extract a0 (Int.toNat (IntKind.wrap .i64 (r1 + (a1.size : Int)))) (Int.toNat (a0.size : Int)))), (4, .string (ByteArray.extract a0 (Int.toNat 0) (Int.toNat r1)))] ?_
    refine OJ.nil ?_
    exact SJ.ret rfl (Res.run (ys := [.string (ByteArray.extract a0 (Int.toNat 0) (Int.toNat r1)), .string (ByteArray.extract a0 (Int.toNat (IntKind.wrap .i64 (r1 + (a1.size : Int)))) (Int.toNat (a0.size : Int))), .bool true]) (.tmp (by kernel_rfl) (.tmp (by kernel_rfl) (.tmp (by kernel_rfl) .nil))) rfl)
  · refine SJ.skip ?_
    refine SJ.sr 4 ?_
    refine OJ.go 4 [(6, .bool false), (5, .string ByteArray.empty), (4, .string a0), (22, .string a0)] ?_
    refine OJ.nil ?_
    exact SJ.ret rfl (Res.run (ys := [.string a0, .string ByteArray.empty, .bool false]) (.tmp (by kernel_rfl) (.tmp (by kernel_rfl) (.tmp (by kernel_rfl) .nil))) rfl)

/-! ### strings.Cut: function 34 -/
noncomputable def strings_Cut.B : Code := (Tryd.f34.body).getD .skip
noncomputable def strings_Cut.cx : Fx := ⟨Tryd.prog, 34, Tryd.f34⟩
noncomputable def strings_Cut.out (r_ : (ByteArray × ByteArray × Bool)) : Value := .tuple #[.string r_.1, .string r_.2.1, .bool r_.2.2]
noncomputable def strings_Cut.F0 (r_ : (ByteArray × ByteArray × Bool)) : Reach := .ret (strings_Cut.out r_)
noncomputable def strings_Cut (a0 : ByteArray) (a1 : ByteArray) : M (ByteArray × ByteArray × Bool) :=
  stringslite_Cut a0 a1 >>= fun r1 =>
  pure (r1.1, r1.2.1, r1.2.2)
theorem strings_Cut_ok (a0 : ByteArray) (a1 : ByteArray) : Ref Tryd.prog 34 [.string a0, .string a1] (strings_Cut a0 a1) strings_Cut.out := by
  refine Ref.of (cd := strings_Cut.B) Tryd.func34 ?_
  show SJ strings_Cut.cx [.code strings_Cut.B] [(0, .string a0), (1, .string a1)] [] (strings_Cut a0 a1) strings_Cut.F0
  unfold strings_Cut
  refine SJ.sr 3 ?_
  refine OJ.go 3 [(6, .bool false), (5, .string ByteArray.empty), (4, .string ByteArray.empty)] ?_
  refine OJ.nil ?_
  refine SJ.sr 9 ?_
  refine OJ.go 2 [(8, .string a1), (7, .string a0)] ?_
  refine OJ.call (d := 9) (g := 45) (ats := #[9, 9]) (args := [.tmp 7, .tmp 8]) (owed := []) F45 (stringslite_Cut_ok a0 a1) (fun r1 => ?_)
  refine OW.nil ?_
  refine OJ.go 6 [(6, .bool r1.2.2), (5, .string r1.2.1), (4, .string r1.1), (12, .bool r1.2.2), (11, .string r1.2.1), (10, .string r1.1)] ?_
  refine OJ.nil ?_
  exact SJ.ret rfl (Res.run (ys := [.string r1.1, .string r1.2.1, .bool r1.2.2]) (.tmp (by kernel_rfl) (.tmp (by kernel_rfl) (.tmp (by kernel_rfl) .nil))) rfl)

/-! ### weir/addr.masked: function 27 -/
noncomputable def addr_masked.B : Code := (Tryd.f27.body).getD .skip
noncomputable def addr_masked.cx : Fx := ⟨Tryd.prog, 27, Tryd.f27⟩
noncomputable def addr_masked.out (r_ : (Vec Int 16)) : Value := ((cI .u8).arr 16).val r_
noncomputable def addr_masked.F0 (r_ : (Vec Int 16)) : Reach := .ret (addr_masked.out r_)
noncomputable def addr_masked.F1 (a0 : (Vec Int 16)) (a1 : Int) (b1 : Nat) (b2 : Nat) (b3 : Nat) : (LS (Int × (Vec Int 16)) (Vec Int 16)) → Reach := loopF [.inLoop (c1 (c1 (c2 (c1 (c2 (c2 addr_masked.B)))))), .inBlock 0, .code (c2 (c2 (c2 addr_masked.B)))] (fun s_ : (Int × (Vec Int 16)) => [(1, .int .i64 a1), (2, .pointer (some (pt b1 0))), (4, .pointer (some (pt b2 0))), (5, .pointer (some (pt b3 0))), (8, .int .i64 s_.1)]) (fun s_ : (Int × (Vec Int 16)) => [(b3, ((cI .u8).arr 16).enc s_.2), (b2, ((cI .u8).arr 16).enc (Vec.rep 16 0)), (b1, ((cI .u8).arr 16).enc a0)]) addr_masked.F0
noncomputable def addr_masked.L1 (a0 : (Vec Int 16)) (a1 : Int) (s4 : Int) (s5 : (Vec Int 16)) : M (LS (Int × (Vec Int 16)) (Vec Int 16)) :=
  if s4 < 16 then
    chk ((0 : Int) ≤ s4 ∧ s4 < (16 : Nat)) >>= fun _ =>
    chk (0 ≤ (IntKind.wrap .u64 (if (if 0 < (IntKind.wrap .i64 (a1 - (IntKind.wrap .i64 (8 * s4)))) then (IntKind.wrap .i64 (a1 - (IntKind.wrap .i64 (8 * s4)))) else 0) < 8 then (if 0 < (IntKind.wrap .i64 (a1 - (IntKind.wrap .i64 (8 * s4)))) then (IntKind.wrap .i64 (a1 - (IntKind.wrap .i64 (8 * s4)))) else 0) else 8))) >>= fun _ =>
    chk ((0 : Int) ≤ s4 ∧ s4 < (16 : Nat)) >>= fun _ =>
    pure (LS.next (IntKind.wrap .i64 (s4 + 1), (Vec.s s5 s4 (band .u8 (Vec.g a0 s4 0) (IntKind.wrap .u8 (Int.fdiv 65280 (2 ^ min (Int.toNat (IntKind.wrap .u64 (if (if 0 < (IntKind.wrap .i64 (a1 - (IntKind.wrap .i64 (8 * s4)))) then (IntKind.wrap .i64 (a1 - (IntKind.wrap .i64 (8 * s4)))) else 0) < 8 then (if 0 < (IntKind.wrap .i64 (a1 - (IntKind.wrap .i64 (8 * s4)))) then (IntKind.wrap .i64 (a1 - (IntKind.wrap .i64 (8 * s4)))) else 0) else 8))) 64)))))))
  else
    pure (LS.done s5)
theorem addr_masked.L1_ok (a0 : (Vec Int 16)) (a1 : Int) (b1 : Nat) (b2 : Nat) (b3 : Nat) (s4 : Int) (s5 : (Vec Int 16)) :
    SJ addr_masked.cx [.code (c1 (c1 (c2 (c1 (c2 (c2 addr_masked.B)))))), .inLoop (c1 (c1 (c2 (c1 (c2 (c2 addr_masked.B)))))), .inBlock 0, .code (c2 (c2 (c2 addr_masked.B)))] [(1, .int .i64 a1), (2, .pointer (some (pt b1 0))), (4, .pointer (some (pt b2 0))), (5, .pointer (some (pt b3 0))), (8, .int .i64 s4)] [(b3, ((cI .u8).arr 16).enc s5), (b2, ((cI .u8).arr 16).enc (Vec.rep 16 0)), (b1, ((cI .u8).arr 16).enc a0)] (addr_masked.L1 a0 a1 s4 s5) (addr_masked.F1 a0 a1 b1 b2 b3) := by
  unfold addr_masked.L1
  refine SJ.sr 1 ?_
  refine OJ.go 1 [(9, .bool (decide (s4 < 16)))] ?_
  refine OJ.nil ?_
  refine SJ.seq ?_
  refine SJ.cond (t := (.tmp 9)) (b := decide (s4 < 16)) decide_eq_true_iff (fun hc17 => ?_) (fun hc17 => ?_)
  · refine SJ.skip ?_
    refine SJ.seq ?_
    refine SJ.block (id := 1) ?_
    refine SJ.sr 2 ?_
    refine OJ.go 2 [(6, .int .i64 s4), (10, .int .i64 s4)] ?_
    refine OJ.nil ?_
    refine SJ.sr 7 ?_
    refine OJ.go 4 [(14, .int .i64 (IntKind.wrap .i64 (a1 - (IntKind.wrap .i64 (8 * s4))))), (13, .int .i64 (IntKind.wrap .i64 (8 * s4))), (12, .int .i64 s4), (11, .int .i64 a1)] ?_
    refine OJ.max (d := 15) (t := 3) (u := 3) (so := .const (.int .i64 0)) (xo := .tmp 14) (k := .i64) (p := 0) (q := (IntKind.wrap .i64 (a1 - (IntKind.wrap .i64 (8 * s4))))) ?_
    refine OJ.min (d := 16) (t := 3) (u := 3) (so := .const (.int .i64 8)) (xo := .tmp 15) (k := .i64) (p := 8) (q := (if 0 < (IntKind.wrap .i64 (a1 - (IntKind.wrap .i64 (8 * s4)))) then (IntKind.wrap .i64 (a1 - (IntKind.wrap .i64 (8 * s4)))) else 0)) ?_
    refine OJ.go 1 [(7, .int .i64 (if (if 0 < (IntKind.wrap .i64 (a1 - (IntKind.wrap .i64 (8 * s4)))) then (IntKind.wrap .i64 (a1 - (IntKind.wrap .i64 (8 * s4)))) else 0) < 8 then (if 0 < (IntKind.wrap .i64 (a1 - (IntKind.wrap .i64 (8 * s4)))) then (IntKind.wrap .i64 (a1 - (IntKind.wrap .i64 (8 * s4)))) else 0) else 8))] ?_
    refine OJ.nil ?_
    refine SJ.rg 11 ?_
    refine OJ.go 2 [(18, .int .i64 s4), (17, .int .i64 s4)] ?_
    refine OJ.idxK (d := 19) (T := 22) (y := .tmp 2) (j := .tmp 18) (E := 5) (sz := 1) (b := b1) (o := 0) (k := .i64) (fun hb12 hb13 => ?_)
    refine OJ.kld (d := 20) (y := .tmp 19) (cd := (cI .u8)) (j := 2) (b := b1) (o := (0 + s4.toNat * 1)) (Vec.g a0 s4 0) (pend2 := []) Ty5 rfl (At.zero (At.arr (z := 0) hb12 hb13)) rfl ?_
    refine OJ.go 2 [(22, .int .u64 (IntKind.wrap .u64 (if (if 0 < (IntKind.wrap .i64 (a1 - (IntKind.wrap .i64 (8 * s4)))) then (IntKind.wrap .i64 (a1 - (IntKind.wrap .i64 (8 * s4)))) else 0) < 8 then (if 0 < (IntKind.wrap .i64 (a1 - (IntKind.wrap .i64 (8 * s4)))) then (IntKind.wrap .i64 (a1 - (IntKind.wrap .i64 (8 * s4)))) else 0) else 8))), (21, .int .i64 (if (if 0 < (IntKind.wrap .i64 (a1 - (IntKind.wrap .i64 (8 * s4)))) then (IntKind.wrap .i64 (a1 - (IntKind.wrap .i64 (8 * s4)))) else 0) < 8 then (if 0 < (IntKind.wrap .i64 (a1 - (IntKind.wrap .i64 (8 * s4)))) then (IntKind.wrap .i64 (a1 - (IntKind.wrap .i64 (8 * s4)))) else 0) else 8))] ?_
    refine OJ.shr (d := 23) (T := 3) (yT := 68) (y := .const (.int .i64 65280)) (z := .tmp 22) (k := .i64) (yk := .u64) (p := 65280) (q := (IntKind.wrap .u64 (if (if 0 < (IntKind.wrap .i64 (a1 - (IntKind.wrap .i64 (8 * s4)))) then (IntKind.wrap .i64 (a1 - (IntKind.wrap .i64 (8 * s4)))) else 0) < 8 then (if 0 < (IntKind.wrap .i64 (a1 - (IntKind.wrap .i64 (8 * s4)))) then (IntKind.wrap .i64 (a1 - (IntKind.wrap .i64 (8 * s4)))) else 0) else 8))) (fun hq16 => ?_)
    refine OJ.go 2 [(25, .int .u8 (band .u8 (Vec.g a0 s4 0) (IntKind.wrap .u8 (Int.fdiv 65280 (2 ^ min (Int.toNat (IntKind.wrap .u64 (if (if 0 < (IntKind.wrap .i64 (a1 - (IntKind.wrap .i64 (8 * s4)))) then (IntKind.wrap .i64 (a1 - (IntKind.wrap .i64 (8 * s4)))) else 0) < 8 then (if 0 < (IntKind.wrap .i64 (a1 - (IntKind.wrap .i64 (8 * s4)))) then (IntKind.wrap .i64 (a1 - (IntKind.wrap .i64 (8 * s4)))) else 0) else 8))) 64))))), (24, .int .u8 (IntKind.wrap .u8 (Int.fdiv 65280 (2 ^ min (Int.toNat (IntKind.wrap .u64 (if (if 0 < (IntKind.wrap .i64 (a1 - (IntKind.wrap .i64 (8 * s4)))) then (IntKind.wrap .i64 (a1 - (IntKind.wrap .i64 (8 * s4)))) else 0) < 8 then (if 0 < (IntKind.wrap .i64 (a1 - (IntKind.wrap .i64 (8 * s4)))) then (IntKind.wrap .i64 (a1 - (IntKind.wrap .i64 (8 * s4)))) else 0) else 8))) 64))))] ?_
    refine OJ.idxK (d := 26) (T := 22) (y := .tmp 5) (j := .tmp 17) (E := 5) (sz := 1) (b := b3) (o := 0) (k := .i64) (fun hb14 hb15 => ?_)
    refine OJ.kst (y := .tmp 26) (z := .tmp 25) (cd := (cI .u8)) (u := (band .u8 (Vec.g a0 s4 0) (IntKind.wrap .u8 (Int.fdiv 65280 (2 ^ min (Int.toNat (IntKind.wrap .u64 (if (if 0 < (IntKind.wrap .i64 (a1 - (IntKind.wrap .i64 (8 * s4)))) then (IntKind.wrap .i64 (a1 - (IntKind.wrap .i64 (8 * s4)))) else 0) < 8 then (if 0 < (IntKind.wrap .i64 (a1 - (IntKind.wrap .i64 (8 * s4)))) then (IntKind.wrap .i64 (a1 - (IntKind.wrap .i64 (8 * s4)))) else 0) else 8))) 64))))) (j := 0) (b := b3) (o := (0 + s4.toNat * 1)) (((cI .u8).arr 16).enc (Vec.s s5 s4 (band .u8 (Vec.g a0 s4 0) (IntKind.wrap .u8 (Int.fdiv 65280 (2 ^ min (Int.toNat (IntKind.wrap .u64 (if (if 0 < (IntKind.wrap .i64 (a1 - (IntKind.wrap .i64 (8 * s4)))) then (IntKind.wrap .i64 (a1 - (IntKind.wrap .i64 (8 * s4)))) else 0) < 8 then (if 0 < (IntKind.wrap .i64 (a1 - (IntKind.wrap .i64 (8 * s4)))) then (IntKind.wrap .i64 (a1 - (IntKind.wrap .i64 (8 * s4)))) else 0) else 8))) 64)))))) (owed := []) Ty5 rfl (Upd.zero (Upd.arr hb14 hb15)) rfl ?_
    refine OW.nil ?_
    refine OJ.nil ?_
    refine SJ.inBlock ?_
    refine SJ.rg 2 ?_
    refine OJ.go 2 [(8, .int .i64 (IntKind.wrap .i64 (s4 + 1))), (27, .int .i64 (IntKind.wrap .i64 (s4 + 1)))] ?_
    refine OJ.nil ?_
    exact SJ.at_ [1, 2, 4, 5, 8] rfl
  · refine SJ.exit (id := 0) (by rfl) ?_
    refine SJ.sr 2 ?_
    refine OJ.kld (d := 28) (y := .tmp 5) (cd := ((cI .u8).arr 16)) (j := 0) (b := b3) (o := 0) s5 (pend2 := []) Ty22 rfl (At.whole _) rfl ?_
    refine OJ.kst (y := .tmp 4) (z := .tmp 28) (cd := ((cI .u8).arr 16)) (u := s5) (j := 1) (b := b2) (o := 0) (((cI .u8).arr 16).enc s5) (owed := []) Ty22 rfl (Upd.whole ((Cod.len _ _).trans (Cod.len _ _).symm)) rfl ?_
    refine OW.nil ?_
    refine OJ.nil ?_
    exact SJ.ret rfl (Res.run (ys := [((cI .u8).arr 16).val s5]) (.cell (j := 1) (b := b2) (cd := ((cI .u8).arr 16)) (q := s5) (by kernel_rfl) rfl Ty22 (At.whole _) .nil) rfl)
noncomputable def addr_masked (a0 : (Vec Int 16)) (a1 : Int) : M (Vec Int 16) :=
  slot 22 >>= fun b1 =>
  slot 22 >>= fun b2 =>
  slot 22 >>= fun b3 =>
  loopM (fun s_ : (Int × (Vec Int 16)) => addr_masked.L1 a0 a1 s_.1 s_.2) (0, (Vec.rep 16 0))
theorem addr_masked_ok (a0 : (Vec Int 16)) (a1 : Int) : Ref Tryd.prog 27 [((cI .u8).arr 16).val a0, .int .i64 a1] (addr_masked a0 a1) addr_masked.out := by
  refine Ref.of (cd := addr_masked.B) Tryd.func27 ?_
  show SJ addr_masked.cx [.code addr_masked.B] [(0, ((cI .u8).arr 16).val a0), (1, .int .i64 a1)] [] (addr_masked a0 a1) addr_masked.F0
  unfold addr_masked
  refine SJ.sr 2 ?_
  refine OJ.slotOf (d := 2) (op := (.box 22 (.tmp 0))) (cd := ((cI .u8).arr 16)) (u := a0) (owed := []) (box_run (by kernel_rfl)) (fun b1 => ?_)
  refine OW.nil ?_
  refine OJ.slotOf (d := 4) (op := (.alloc 22)) (cd := ((cI .u8).arr 16)) (u := (Vec.rep 16 0)) (owed := []) (alloc_run Ty22) (fun b2 => ?_)
  refine OW.nil ?_
  refine OJ.nil ?_
  refine SJ.sr 1 ?_
  refine OJ.slotOf (d := 5) (op := (.alloc 22)) (cd := ((cI .u8).arr 16)) (u := (Vec.rep 16 0)) (owed := []) (alloc_run Ty22) (fun b3 => ?_)
  refine OW.nil ?_
  refine OJ.nil ?_
  refine SJ.seq ?_
  refine SJ.sr 1 ?_
  refine OJ.go 1 [(8, .int .i64 0)] ?_
  refine OJ.nil ?_
  refine SJ.block (id := 0) ?_
  exact SJ.loop (fun s_ : (Int × (Vec Int 16)) => [(1, .int .i64 a1), (2, .pointer (some (pt b1 0))), (4, .pointer (some (pt b2 0))), (5, .pointer (some (pt b3 0))), (8, .int .i64 s_.1)]) (fun s_ : (Int × (Vec Int 16)) => [(b3, ((cI .u8).arr 16).enc s_.2), (b2, ((cI .u8).arr 16).enc (Vec.rep 16 0)), (b1, ((cI .u8).arr 16).enc a0)]) [1, 2, 4, 5, 8] rfl (fun _ _ => rfl) (fun s_ => addr_masked.L1_ok a0 a1 b1 b2 b3 s_.1 s_.2)

/-! ### weir/addr.ValidPrefix: function 14 -/
noncomputable def addr_ValidPrefix.B : Code := (Tryd.f14.body).getD .skip
noncomputable def addr_ValidPrefix.cx : Fx := ⟨Tryd.prog, 14, Tryd.f14⟩
noncomputable def addr_ValidPrefix.out (r_ : Int) : Value := .int .i64 r_
noncomputable def addr_ValidPrefix.F0 (r_ : Int) : Reach := .ret (addr_ValidPrefix.out r_)
noncomputable def addr_ValidPrefix (a0 : api_Prefix) : M Int :=
  slot 37 >>= fun b1 =>
  addr_size a0.IP >>= fun r2 =>
  if r2 = 0 then
    pure 40
  else
    (if a0.Len < 0 then
        pure true
      else
        pure (decide (a0.Len > r2))) >>= fun y9 =>
    if y9 = true then
      pure 45
    else
      draw >>= fun _ =>
      addr_masked a0.IP.A a0.Len >>= fun r12 =>
      if ¬ (r12 = a0.IP.A) then
        pure 46
      else
        pure 0
theorem addr_ValidPrefix_ok (a0 : api_Prefix) : Ref Tryd.prog 14 [c_api_Prefix.val a0] (addr_ValidPrefix a0) addr_ValidPrefix.out := by
  refine Ref.of (cd := addr_ValidPrefix.B) Tryd.func14 ?_
  show SJ addr_ValidPrefix.cx [.code addr_ValidPrefix.B] [(0, c_api_Prefix.val a0)] [] (addr_ValidPrefix a0) addr_ValidPrefix.F0
  unfold addr_ValidPrefix
  refine SJ.sr 2 ?_
  refine OJ.slotOf (d := 1) (op := (.box 37 (.tmp 0))) (cd := c_api_Prefix) (u := a0) (owed := []) (box_run (by kernel_rfl)) (fun b1 => ?_)
  refine OW.nil ?_
  refine OJ.go 1 [(2, .int .i64 0)] ?_
  refine OJ.nil ?_
  refine SJ.seq ?_
  refine SJ.sr 4 ?_
  refine OJ.go 1 [(4, .pointer (some (pt b1 0)))] ?_
  refine OJ.kld (d := 5) (y := .tmp 4) (cd := c_api_IP) (j := 0) (b := b1) (o := 0) a0.IP (pend2 := []) Ty27 rfl (At_api_Prefix_IP a0) rfl ?_
  refine OJ.call (d := 6) (g := 26) (ats := #[27]) (args := [.tmp 5]) (owed := []) F26 (addr_size_ok a0.IP) (fun r2 => ?_)
  refine OW.nil ?_
  refine OJ.go 1 [(3, .int .i64 r2)] ?_
  refine OJ.nil ?_
  refine SJ.block (id := 0) ?_
  refine SJ.sr 3 ?_
  refine OJ.go 3 [(7, .bool (r2 == 0)), (9, .bool (r2 == 0)), (8, .int .i64 r2)] ?_
  refine OJ.nil ?_
  refine SJ.cond (t := (.tmp 7)) (b := (r2 == 0)) beq_iff_eq (fun hc15 => ?_) (fun hc15 => ?_)
  · refine SJ.sr 1 ?_
    refine OJ.go 1 [(2, .int .i64 40)] ?_
    refine OJ.nil ?_
    exact SJ.ret rfl (Res.run (ys := [.int .i64 40]) (.tmp (by kernel_rfl) .nil) rfl)
  · refine SJ.sr 10 ?_
    refine OJ.go 1 [(11, .pointer (some (pt b1 17)))] ?_
    refine OJ.kld (d := 12) (y := .tmp 11) (cd := (cI .i64)) (j := 0) (b := b1) (o := 17) a0.Len (pend2 := []) Ty3 rfl (At_api_Prefix_Len a0) rfl ?_
    refine OJ.go 2 [(14, .bool (decide (a0.Len < 0))), (13, .bool (decide (a0.Len < 0)))] ?_
    refine OJ.join (b := decide (a0.Len < 0)) [4, 5, 6, 7, 8] [9] [1, 19] (fun y9 => [(1, .pointer (some (pt b1 0))), (19, .bool y9)]) [] [] (t := 14) decide_eq_true_iff (fun hp_ => ?_) (fun hp_ => ?_) (fun _ _ _ _ _ _ h_ => h_) (fun y9 => ?_)
    · refine OJ.go 5 [(19, .bool true), (18, undef), (17, undef), (16, undef), (15, undef)] ?_
      exact OJ.nil ⟨(Cov.mem Cov.nil), rfl, _, rfl, by kernel_rfl⟩
    · refine OJ.go 1 [(15, .pointer (some (pt b1 17)))] ?_
      refine OJ.kld (d := 16) (y := .tmp 15) (cd := (cI .i64)) (j := 0) (b := b1) (o := 17) a0.Len (pend2 := []) Ty3 rfl (At_api_Prefix_Len a0) rfl ?_
      refine OJ.go 3 [(19, .bool (decide (a0.Len > r2))), (18, .bool (decide (a0.Len > r2))), (17, .int .i64 r2)] ?_
      exact OJ.nil ⟨(Cov.mem Cov.nil), rfl, _, rfl, by kernel_rfl⟩
    · refine OJ.go 1 [(10, .bool y9)] ?_
      refine OJ.nil ?_
      refine SJ.cond (t := (.tmp 10)) (b := y9) Iff.rfl (fun hc14 => ?_) (fun hc14 => ?_)
      · refine SJ.sr 1 ?_
        refine OJ.go 1 [(2, .int .i64 45)] ?_
        refine OJ.nil ?_
        exact SJ.ret rfl (Res.run (ys := [.int .i64 45]) (.tmp (by kernel_rfl) .nil) rfl)
      · refine SJ.seq ?_
        refine SJ.draw (id := 6) (kd := [0, 0, 1, 0, 1, 2, 0, 0, 1, 0, 0]) (bef := [0, 1, 3, 0, 8, 31, 0, 64, 192, 511, 1023]) (ord := [0, 1, 2, 3, 4, 6, 7, 8, 5, 9, 10]) mixed ?_
        refine OJ.go 2 [(22, .pointer (some (pt b1 1))), (21, .pointer (some (pt b1 0)))] ?_
        refine OJ.kld (d := 23) (y := .tmp 22) (cd := ((cI .u8).arr 16)) (j := 0) (b := b1) (o := 1) a0.IP.A (pend2 := [⟨2, 22, (pt b1 1), ((cI .u8).arr 16).val a0.IP.A⟩]) Ty22 rfl (At.trans (At_api_Prefix_IP a0) (At_api_IP_A a0.IP)) rfl ?_
        refine OJ.go 1 [(24, .pointer (some (pt b1 17)))] ?_
        refine OJ.kld (d := 25) (y := .tmp 24) (cd := (cI .i64)) (j := 0) (b := b1) (o := 17) a0.Len (pend2 := [⟨4, 3, (pt b1 17), (cI .i64).val a0.Len⟩, ⟨2, 22, (pt b1 1), ((cI .u8).arr 16).val a0.IP.A⟩]) Ty3 rfl (At_api_Prefix_Len a0) rfl ?_
        refine OJ.go 2 [(28, .pointer (some (pt b1 1))), (27, .pointer (some (pt b1 0)))] ?_
        refine OJ.kld (d := 29) (y := .tmp 28) (cd := ((cI .u8).arr 16)) (j := 0) (b := b1) (o := 1) a0.IP.A (pend2 := [⟨8, 22, (pt b1 1), ((cI .u8).arr 16).val a0.IP.A⟩, ⟨4, 3, (pt b1 17), (cI .i64).val a0.Len⟩, ⟨2, 22, (pt b1 1), ((cI .u8).arr 16).val a0.IP.A⟩]) Ty22 rfl (At.trans (At_api_Prefix_IP a0) (At_api_IP_A a0.IP)) rfl ?_
        refine OJ.call (d := 26) (g := 27) (ats := #[22, 3]) (args := [.tmp 23, .tmp 25]) (owed := [⟨8, 22, (pt b1 1), ((cI .u8).arr 16).val a0.IP.A⟩]) F27 (addr_masked_ok a0.IP.A a0.Len) (fun r12 => ?_)
        refine OW.known (j := 0) (q := a0.IP.A) Ty22 rfl (At.trans (At_api_Prefix_IP a0) (At_api_IP_A a0.IP)) ?_
        refine OW.nil ?_
        refine OJ.neq (d := 30) (T := 22) (yT := 22) (y := .tmp 26) (z := .tmp 29) (cd := ((cI .u8).arr 16)) (p := r12) (q := a0.IP.A) rfl Eq22 ?_
        refine OJ.go 1 [(20, .bool (!eqv r12 a0.IP.A))] ?_
        refine OJ.nil ?_
        refine SJ.cond (t := (.tmp 20)) (b := (!eqv r12 a0.IP.A)) (bnot_iff eqv_iff) (fun hc13 => ?_) (fun hc13 => ?_)
        · refine SJ.sr 1 ?_
          refine OJ.go 1 [(2, .int .i64 46)] ?_
          refine OJ.nil ?_
          exact SJ.ret rfl (Res.run (ys := [.int .i64 46]) (.tmp (by kernel_rfl) .nil) rfl)
        · refine SJ.skip ?_
          refine SJ.inBlock ?_
          refine SJ.sr 1 ?_
          refine OJ.go 1 [(2, .int .i64 0)] ?_
          refine OJ.nil ?_
          exact SJ.ret rfl (Res.run (ys := [.int .i64 0]) (.tmp (by kernel_rfl) .nil) rfl)

/-! ### weir/addr.ParsePrefix: function 20 -/
noncomputable def addr_ParsePrefix.B : Code := (Tryd.f20.body).getD .skip
noncomputable def addr_ParsePrefix.cx : Fx := ⟨Tryd.prog, 20, Tryd.f20⟩
noncomputable def addr_ParsePrefix.out (r_ : (api_Prefix × Int × Int)) : Value := .tuple #[c_api_Prefix.val r_.1, .int .i64 r_.2.1, .int .i64 r_.2.2]
noncomputable def addr_ParsePrefix.F0 (r_ : (api_Prefix × Int × Int)) : Reach := .ret (addr_ParsePrefix.out r_)
noncomputable def addr_ParsePrefix.K1 (r3 : (api_IP × (Option Addr))) (j8 : Int) (j17 : (Option Addr)) : M (api_Prefix × Int × Int) :=
  if ¬ (j17 = none) then
    draw >>= fun _ =>
    nilck j17 >>= fun p22 =>
    ld (cI .i64) p22 >>= fun x23 =>
    nilck j17 >>= fun p24 =>
    ld (cI .i64) (Addr.add p24 1) >>= fun x25 =>
    same (cI .i64) (Addr.add p24 1) x25 >>= fun _ =>
    same (cI .i64) p22 x23 >>= fun _ =>
    pure (z_api_Prefix, x23, x25)
  else
    pure ((⟨r3.1, j8⟩ : api_Prefix), 0, 0)
theorem addr_ParsePrefix.K1_ok (b1 : Nat) (r3 : (api_IP × (Option Addr))) (j8 : Int) (b13 : Nat) (j17 : (Option Addr)) :
    SJ addr_ParsePrefix.cx [.code (c2 (c2 (c2 (c2 (c2 (c2 (c2 (c2 (c2 (c2 addr_ParsePrefix.B))))))))))] [(2, .pointer (some (pt b1 0))), (9, .pointer j17), (12, .pointer (some (pt b13 0)))] [(b13, c_api_Prefix.enc (⟨r3.1, j8⟩ : api_Prefix)), (b1, c_api_Prefix.enc z_api_Prefix)] (addr_ParsePrefix.K1 r3 j8 j17) addr_ParsePrefix.F0 := by
  unfold addr_ParsePrefix.K1
  refine SJ.seq ?_
  refine SJ.sr 2 ?_
  refine OJ.go 2 [(70, .bool (!(Option.isNone j17))), (69, .pointer j17)] ?_
  refine OJ.nil ?_
  refine SJ.cond (t := (.tmp 70)) (b := (!(Option.isNone j17))) (bnot_iff Option.isNone_iff_eq_none) (fun hc26 => ?_) (fun hc26 => ?_)
  · refine SJ.seq ?_
    refine SJ.draw (id := 16) (kd := [0, 0, 0, 0, 1, 0, 0, 0, 1, 2, 0, 0]) (bef := [0, 0, 2, 6, 14, 0, 32, 96, 224, 1, 543, 2047]) (ord := [0, 1, 2, 3, 4, 5, 6, 7, 8, 9, 10, 11]) mixed ?_
    refine OJ.build (d := 71) (T := 37) (parts := []) (ps := []) (cd := c_api_Prefix) (z0 := z_api_Prefix) z_api_Prefix Ty37 rfl Filled.nil ?_
    refine OJ.go 1 [(72, .pointer j17)] ?_
    refine OJ.nilck (d := 73) (y := .tmp 72) (fun p22 => ?_)
    refine OJ.go 1 [(74, .pointer (some p22))] ?_
    refine OJ.ld (d := 75) (y := .tmp 74) (pend2 := fun x23 => [⟨4, 28, p22, (cI .i64).val x23⟩]) Ty28 (fun _ => rfl) (fun x23 => ?_)
    refine OJ.go 1 [(76, .pointer j17)] ?_
    refine OJ.nilck (d := 77) (y := .tmp 76) (fun p24 => ?_)
    refine OJ.go 1 [(78, .pointer (some (Addr.add p24 1)))] ?_
    refine OJ.ld (d := 79) (y := .tmp 78) (pend2 := fun x25 => [⟨8, 3, (Addr.add p24 1), (cI .i64).val x25⟩, ⟨4, 28, p22, (cI .i64).val x23⟩]) Ty3 (fun _ => rfl) (fun x25 => ?_)
    refine OJ.kst (y := .tmp 2) (z := .tmp 71) (cd := c_api_Prefix) (u := z_api_Prefix) (j := 1) (b := b1) (o := 0) (c_api_Prefix.enc z_api_Prefix) (owed := [⟨8, 3, (Addr.add p24 1), (cI .i64).val x25⟩, ⟨4, 28, p22, (cI .i64).val x23⟩]) Ty37 rfl (Upd.whole ((Cod.len _ _).trans (Cod.len _ _).symm)) rfl ?_
    refine OW.same Ty3 ?_
    refine OW.same Ty28 ?_
    refine OW.nil ?_
    refine OJ.go 2 [(4, .int .i64 x25), (3, .int .i64 x23)] ?_
    refine OJ.nil ?_
    exact SJ.ret rfl (Res.run (ys := [c_api_Prefix.val z_api_Prefix, .int .i64 x23, .int .i64 x25]) (.cell (j := 1) (b := b1) (cd := c_api_Prefix) (q := z_api_Prefix) (by kernel_rfl) rfl Ty37 (At.whole _) (.tmp (by kernel_rfl) (.tmp (by kernel_rfl) .nil))) rfl)
  · refine SJ.skip ?_
    refine SJ.sr 4 ?_
    refine OJ.kld (d := 80) (y := .tmp 12) (cd := c_api_Prefix) (j := 0) (b := b13) (o := 0) (⟨r3.1, j8⟩ : api_Prefix) (pend2 := []) Ty37 rfl (At.whole _) rfl ?_
    refine OJ.kst (y := .tmp 2) (z := .tmp 80) (cd := c_api_Prefix) (u := (⟨r3.1, j8⟩ : api_Prefix)) (j := 1) (b := b1) (o := 0) (c_api_Prefix.enc (⟨r3.1, j8⟩ : api_Prefix)) (owed := []) Ty37 rfl (Upd.whole ((Cod.len _ _).trans (Cod.len _ _).symm)) rfl ?_
    refine OW.nil ?_
    refine OJ.go 2 [(4, .int .i64 0), (3, .int .i64 0)] ?_
    refine OJ.nil ?_
    exact SJ.ret rfl (Res.run (ys := [c_api_Prefix.val (⟨r3.1, j8⟩ : api_Prefix), .int .i64 0, .int .i64 0]) (.cell (j := 1) (b := b1) (cd := c_api_Prefix) (q := (⟨r3.1, j8⟩ : api_Prefix)) (by kernel_rfl) rfl Ty37 (At.whole _) (.tmp (by kernel_rfl) (.tmp (by kernel_rfl) .nil))) rfl)
noncomputable def addr_ParsePrefix.K2 (r3 : (api_IP × (Option Addr))) (j8 : Int) (j12 : (Option Addr)) : M (api_Prefix × Int × Int) :=
  slot 37 >>= fun b13 =>
  (if j12 = none then
      addr_ValidPrefix (⟨r3.1, j8⟩ : api_Prefix) >>= fun r14 =>
      pure (r14 != 0)
    else
      pure false) >>= fun y15 =>
  if y15 = true then
    newv 61 c_addr_fault (⟨46, 0⟩ : addr_fault) >>= fun b27 =>
    addr_ParsePrefix.K1 r3 j8 (some (pt b27 0))
  else
    addr_ParsePrefix.K1 r3 j8 j12
theorem addr_ParsePrefix.K2_ok (b1 : Nat) (r3 : (api_IP × (Option Addr))) (b4 : Nat) (j8 : Int) (j12 : (Option Addr)) :
    SJ addr_ParsePrefix.cx [.code (c2 (c2 (c2 (c2 (c2 (c2 (c2 (c2 addr_ParsePrefix.B))))))))] [(2, .pointer (some (pt b1 0))), (8, .pointer (some (pt b4 0))), (9, .pointer j12), (10, .int .i64 j8)] [(b4, c_api_IP.enc r3.1), (b1, c_api_Prefix.enc z_api_Prefix)] (addr_ParsePrefix.K2 r3 j8 j12) addr_ParsePrefix.F0 := by
  unfold addr_ParsePrefix.K2
  refine SJ.sr 5 ?_
  refine OJ.kld (d := 57) (y := .tmp 8) (cd := c_api_IP) (j := 0) (b := b4) (o := 0) r3.1 (pend2 := []) Ty27 rfl (At.whole _) rfl ?_
  refine OJ.go 1 [(58, .int .i64 j8)] ?_
  refine OJ.build (d := 59) (T := 37) (parts := [(0, .tmp 57), (1, .tmp 58)]) (ps := [(0, c_api_IP.val r3.1), (1, (cI .i64).val j8)]) (cd := c_api_Prefix) (z0 := z_api_Prefix) (⟨r3.1, j8⟩ : api_Prefix) Ty37 rfl (Filled.cons (cd := c_api_IP) (q := r3.1) (o := 0) (by kernel_rfl) (Up_api_Prefix_IP z_api_Prefix r3.1) (Filled.cons (cd := (cI .i64)) (q := j8) (o := 17) (by kernel_rfl) (Up_api_Prefix_Len (⟨r3.1, z_api_Prefix.Len⟩ : api_Prefix) j8) Filled.nil)) ?_
  refine OJ.slotOf (d := 12) (op := (.alloc 37)) (cd := c_api_Prefix) (u := z_api_Prefix) (owed := []) (alloc_run Ty37) (fun b13 => ?_)
  refine OW.nil ?_
  refine OJ.kst (y := .tmp 12) (z := .tmp 59) (cd := c_api_Prefix) (u := (⟨r3.1, j8⟩ : api_Prefix)) (j := 0) (b := b13) (o := 0) (c_api_Prefix.enc (⟨r3.1, j8⟩ : api_Prefix)) (owed := []) Ty37 rfl (Upd.whole ((Cod.len _ _).trans (Cod.len _ _).symm)) rfl ?_
  refine OW.nil ?_
  refine OJ.nil ?_
  refine SJ.seq ?_
  refine SJ.sr 7 ?_
  refine OJ.go 3 [(62, .bool (Option.isNone j12)), (61, .bool (Option.isNone j12)), (60, .pointer j12)] ?_
  refine OJ.join (b := (Option.isNone j12)) [3, 4, 5, 6] [] [2, 9, 12, 66] (fun y15 => [(2, .pointer (some (pt b1 0))), (9, .pointer j12), (12, .pointer (some (pt b13 0))), (66, .bool y15)]) [] [] (t := 62) Option.isNone_iff_eq_none (fun hp_ => ?_) (fun hp_ => ?_) (fun _ _ _ _ _ _ h_ => h_) (fun y15 => ?_)
  · refine OJ.kld (d := 63) (y := .tmp 12) (cd := c_api_Prefix) (j := 0) (b := b13) (o := 0) (⟨r3.1, j8⟩ : api_Prefix) (pend2 := []) Ty37 rfl (At.whole _) rfl ?_
    refine OJ.call (d := 64) (g := 14) (ats := #[37]) (args := [.tmp 63]) (owed := []) F14 (addr_ValidPrefix_ok (⟨r3.1, j8⟩ : api_Prefix)) (fun r14 => ?_)
    refine OW.nil ?_
    refine OJ.go 2 [(66, .bool (r14 != 0)), (65, .bool (r14 != 0))] ?_
    exact OJ.nil ⟨(Cov.mem Cov.nil), rfl, _, rfl, by kernel_rfl⟩
  · refine OJ.go 4 [(66, .bool false), (65, undef), (64, undef), (63, undef)] ?_
    exact OJ.nil ⟨(Cov.mem Cov.nil), rfl, _, rfl, by kernel_rfl⟩
  · refine OJ.nil ?_
    refine SJ.cond (t := (.tmp 66)) (b := y15) Iff.rfl (fun hc28 => ?_) (fun hc28 => ?_)
    · refine SJ.rg 3 ?_
      refine OJ.build (d := 67) (T := 61) (parts := [(0, .const (.int .i64 46)), (1, .const (.int .i64 0))]) (ps := [(0, (cI .i64).val 46), (1, (cI .i64).val 0)]) (cd := c_addr_fault) (z0 := z_addr_fault) (⟨46, 0⟩ : addr_fault) Ty61 rfl (Filled.cons (cd := (cI .i64)) (q := 46) (o := 0) (by kernel_rfl) (Up_addr_fault_why z_addr_fault 46) (Filled.cons (cd := (cI .i64)) (q := 0) (o := 1) (by kernel_rfl) (Up_addr_fault_at_ (⟨46, z_addr_fault.at_⟩ : addr_fault) 0) Filled.nil)) ?_
      refine OJ.newOf (d := 68) (op := (.box 61 (.tmp 67))) (cd := c_addr_fault) (u := (⟨46, 0⟩ : addr_fault)) (owed := []) (box_run (by kernel_rfl)) (fun b27 => ?_)
      refine OW.nil ?_
      refine OJ.go 1 [(9, .pointer (some (pt b27 0)))] ?_
      refine OJ.nil ?_
      refine SJ.forget (List.Sublist.cons_cons _ (List.Sublist.cons _ (List.Sublist.cons_cons _ List.Sublist.slnil))) ?_
      refine SJ.less [2, 9, 12] (m' := [(2, .pointer (some (pt b1 0))), (9, .pointer (some (pt b27 0))), (12, .pointer (some (pt b13 0)))]) ?_
      exact addr_ParsePrefix.K1_ok b1 r3 j8 b13 (some (pt b27 0))
    · refine SJ.skip ?_
      refine SJ.forget (List.Sublist.cons_cons _ (List.Sublist.cons _ (List.Sublist.cons_cons _ List.Sublist.slnil))) ?_
      refine SJ.less [2, 9, 12] (m' := [(2, .pointer (some (pt b1 0))), (9, .pointer j12), (12, .pointer (some (pt b13 0)))]) ?_
      exact addr_ParsePrefix.K1_ok b1 r3 j8 b13 j12
noncomputable def addr_ParsePrefix.K3 (a0 : ByteArray) (r3 : (api_IP × (Option Addr))) (j7 : (Option Addr)) (j8 : Int) (j9 : Int) : M (api_Prefix × Int × Int) :=
  (if j7 = none then
      pure (decide (j9 < (a0.size : Int)))
    else
      pure false) >>= fun y10 =>
  if y10 = true then
    newv 61 c_addr_fault (⟨41, j9⟩ : addr_fault) >>= fun b29 =>
    addr_ParsePrefix.K2 r3 j8 (some (pt b29 0))
  else
    addr_ParsePrefix.K2 r3 j8 j7
theorem addr_ParsePrefix.K3_ok (a0 : ByteArray) (b1 : Nat) (r3 : (api_IP × (Option Addr))) (b4 : Nat) (j7 : (Option Addr)) (j8 : Int) (j9 : Int) :
    SJ addr_ParsePrefix.cx [.code (c2 (c2 (c2 (c2 (c2 (c2 (c2 addr_ParsePrefix.B)))))))] [(0, .string a0), (2, .pointer (some (pt b1 0))), (8, .pointer (some (pt b4 0))), (9, .pointer j7), (10, .int .i64 j8), (11, .int .i64 j9)] [(b4, c_api_IP.enc r3.1), (b1, c_api_Prefix.enc z_api_Prefix)] (addr_ParsePrefix.K3 a0 r3 j7 j8 j9) addr_ParsePrefix.F0 := by
  unfold addr_ParsePrefix.K3
  refine SJ.seq ?_
  refine SJ.sr 8 ?_
  refine OJ.go 3 [(48, .bool (Option.isNone j7)), (47, .bool (Option.isNone j7)), (46, .pointer j7)] ?_
  refine OJ.join (b := (Option.isNone j7)) [3, 4, 5, 6, 7] [] [2, 8, 9, 10, 11, 53] (fun y10 => [(2, .pointer (some (pt b1 0))), (8, .pointer (some (pt b4 0))), (9, .pointer j7), (10, .int .i64 j8), (11, .int .i64 j9), (53, .bool y10)]) [] [] (t := 48) Option.isNone_iff_eq_none (fun hp_ => ?_) (fun hp_ => ?_) (fun _ _ _ _ _ _ h_ => h_) (fun y10 => ?_)
  · refine OJ.go 5 [(53, .bool (decide (j9 < (a0.size : Int)))), (52, .bool (decide (j9 < (a0.size : Int)))), (51, .int .i64 (a0.size : Int)), (50, .string a0), (49, .int .i64 j9)] ?_
    exact OJ.nil ⟨(Cov.mem Cov.nil), rfl, _, rfl, by kernel_rfl⟩
  · refine OJ.go 5 [(53, .bool false), (52, undef), (51, undef), (50, undef), (49, undef)] ?_
    exact OJ.nil ⟨(Cov.mem Cov.nil), rfl, _, rfl, by kernel_rfl⟩
  · refine OJ.nil ?_
    refine SJ.cond (t := (.tmp 53)) (b := y10) Iff.rfl (fun hc30 => ?_) (fun hc30 => ?_)
    · refine SJ.rg 4 ?_
      refine OJ.go 1 [(54, .int .i64 j9)] ?_
      refine OJ.build (d := 55) (T := 61) (parts := [(0, .const (.int .i64 41)), (1, .tmp 54)]) (ps := [(0, (cI .i64).val 41), (1, (cI .i64).val j9)]) (cd := c_addr_fault) (z0 := z_addr_fault) (⟨41, j9⟩ : addr_fault) Ty61 rfl (Filled.cons (cd := (cI .i64)) (q := 41) (o := 0) (by kernel_rfl) (Up_addr_fault_why z_addr_fault 41) (Filled.cons (cd := (cI .i64)) (q := j9) (o := 1) (by kernel_rfl) (Up_addr_fault_at_ (⟨41, z_addr_fault.at_⟩ : addr_fault) j9) Filled.nil)) ?_
      refine OJ.newOf (d := 56) (op := (.box 61 (.tmp 55))) (cd := c_addr_fault) (u := (⟨41, j9⟩ : addr_fault)) (owed := []) (box_run (by kernel_rfl)) (fun b29 => ?_)
      refine OW.nil ?_
      refine OJ.go 1 [(9, .pointer (some (pt b29 0)))] ?_
      refine OJ.nil ?_
      refine SJ.less [2, 8, 9, 10] (m' := [(2, .pointer (some (pt b1 0))), (8, .pointer (some (pt b4 0))), (9, .pointer (some (pt b29 0))), (10, .int .i64 j8)]) ?_
      exact addr_ParsePrefix.K2_ok b1 r3 b4 j8 (some (pt b29 0))
    · refine SJ.skip ?_
      refine SJ.less [2, 8, 9, 10] (m' := [(2, .pointer (some (pt b1 0))), (8, .pointer (some (pt b4 0))), (9, .pointer j7), (10, .int .i64 j8)]) ?_
      exact addr_ParsePrefix.K2_ok b1 r3 b4 j8 j7
noncomputable def addr_ParsePrefix (a0 : ByteArray) : M (api_Prefix × Int × Int) :=
  slot 37 >>= fun b1 =>
  if (a0.size : Int) > 49 then
    pure (z_api_Prefix, 2, 49)
  else
    strings_Cut a0 str10 >>= fun r2 =>
    if ¬ (r2.2.2 = true) then
      pure (z_api_Prefix, 42, (a0.size : Int))
    else
      addr_parse r2.1 >>= fun r3 =>
      slot 27 >>= fun b4 =>
      if r3.2 = none then
        addr_size r3.1 >>= fun r31 =>
        addr_number a0 (IntKind.wrap .i64 ((r2.1.size : Int) + 1)) r31 45 >>= fun r32 =>
        addr_ParsePrefix.K3 a0 r3 r32.2.2 r32.1 r32.2.1
      else
        addr_ParsePrefix.K3 a0 r3 r3.2 0 0
theorem addr_ParsePrefix_ok (a0 : ByteArray) : Ref Tryd.prog 20 [.string a0] (addr_ParsePrefix a0) addr_ParsePrefix.out := by
  refine Ref.of (cd := addr_ParsePrefix.B) Tryd.func20 ?_
  show SJ addr_ParsePrefix.cx [.code addr_ParsePrefix.B] [(0, .string a0)] [] (addr_ParsePrefix a0) addr_ParsePrefix.F0
  unfold addr_ParsePrefix
  refine SJ.sr 3 ?_
  refine OJ.slotOf (d := 2) (op := (.alloc 37)) (cd := c_api_Prefix) (u := z_api_Prefix) (owed := []) (alloc_run Ty37) (fun b1 => ?_)
  refine OW.nil ?_
  refine OJ.go 2 [(4, .int .i64 0), (3, .int .i64 0)] ?_
  refine OJ.nil ?_
  refine SJ.seq ?_
  refine SJ.sr 3 ?_
  refine OJ.go 3 [(15, .bool (decide ((a0.size : Int) > 49))), (14, .int .i64 (a0.size : Int)), (13, .string a0)] ?_
  refine OJ.nil ?_
  refine SJ.cond (t := (.tmp 15)) (b := decide ((a0.size : Int) > 49)) decide_eq_true_iff (fun hc35 => ?_) (fun hc35 => ?_)
  · refine SJ.sr 4 ?_
    refine OJ.build (d := 16) (T := 37) (parts := []) (ps := []) (cd := c_api_Prefix) (z0 := z_api_Prefix) z_api_Prefix Ty37 rfl Filled.nil ?_
    refine OJ.kst (y := .tmp 2) (z := .tmp 16) (cd := c_api_Prefix) (u := z_api_Prefix) (j := 0) (b := b1) (o := 0) (c_api_Prefix.enc z_api_Prefix) (owed := []) Ty37 rfl (Upd.whole ((Cod.len _ _).trans (Cod.len _ _).symm)) rfl ?_
    refine OW.nil ?_
    refine OJ.go 2 [(4, .int .i64 49), (3, .int .i64 2)] ?_
    refine OJ.nil ?_
    exact SJ.ret rfl (Res.run (ys := [c_api_Prefix.val z_api_Prefix, .int .i64 2, .int .i64 49]) (.cell (j := 0) (b := b1) (cd := c_api_Prefix) (q := z_api_Prefix) (by kernel_rfl) rfl Ty37 (At.whole _) (.tmp (by kernel_rfl) (.tmp (by kernel_rfl) .nil))) rfl)
  · refine SJ.skip ?_
    refine SJ.sr 9 ?_
    refine OJ.go 1 [(18, .string a0)] ?_
    refine OJ.call (d := 19) (g := 34) (ats := #[9, 9]) (args := [.tmp 18, .const (.string str10)]) (owed := []) F34 (strings_Cut_ok a0 str10) (fun r2 => ?_)
    refine OW.nil ?_
    refine OJ.go 7 [(7, .bool r2.2.2), (6, .string r2.2.1), (5, .string r2.1), (22, .bool r2.2.2), (21, .string r2.2.1), (20, .string r2.1), (17, .tuple #[.string r2.1, .string r2.2.1, .bool r2.2.2])] ?_
    refine OJ.nil ?_
    refine SJ.seq ?_
    refine SJ.sr 2 ?_
    refine OJ.go 2 [(24, .bool (!r2.2.2)), (23, .bool r2.2.2)] ?_
    refine OJ.nil ?_
    refine SJ.cond (t := (.tmp 24)) (b := (!r2.2.2)) (bnot_iff Iff.rfl) (fun hc34 => ?_) (fun hc34 => ?_)
    · refine SJ.sr 6 ?_
      refine OJ.build (d := 25) (T := 37) (parts := []) (ps := []) (cd := c_api_Prefix) (z0 := z_api_Prefix) z_api_Prefix Ty37 rfl Filled.nil ?_
      refine OJ.go 2 [(27, .int .i64 (a0.size : Int)), (26, .string a0)] ?_
      refine OJ.kst (y := .tmp 2) (z := .tmp 25) (cd := c_api_Prefix) (u := z_api_Prefix) (j := 0) (b := b1) (o := 0) (c_api_Prefix.enc z_api_Prefix) (owed := []) Ty37 rfl (Upd.whole ((Cod.len _ _).trans (Cod.len _ _).symm)) rfl ?_
      refine OW.nil ?_
      refine OJ.go 2 [(4, .int .i64 (a0.size : Int)), (3, .int .i64 42)] ?_
      refine OJ.nil ?_
      exact SJ.ret rfl (Res.run (ys := [c_api_Prefix.val z_api_Prefix, .int .i64 42, .int .i64 (a0.size : Int)]) (.cell (j := 0) (b := b1) (cd := c_api_Prefix) (q := z_api_Prefix) (by kernel_rfl) rfl Ty37 (At.whole _) (.tmp (by kernel_rfl) (.tmp (by kernel_rfl) .nil))) rfl)
    · refine SJ.skip ?_
      refine SJ.sr 8 ?_
      refine OJ.go 1 [(29, .string r2.1)] ?_
      refine OJ.call (d := 30) (g := 23) (ats := #[9]) (args := [.tmp 29]) (owed := []) F23 (addr_parse_ok r2.1) (fun r3 => ?_)
      refine OW.nil ?_
      refine OJ.go 3 [(32, .pointer r3.2), (31, c_api_IP.val r3.1), (28, .tuple #[c_api_IP.val r3.1, .pointer r3.2])] ?_
      refine OJ.slotOf (d := 8) (op := (.alloc 27)) (cd := c_api_IP) (u := z_api_IP) (owed := []) (alloc_run Ty27) (fun b4 => ?_)
      refine OW.nil ?_
      refine OJ.kst (y := .tmp 8) (z := .tmp 31) (cd := c_api_IP) (u := r3.1) (j := 0) (b := b4) (o := 0) (c_api_IP.enc r3.1) (owed := []) Ty27 rfl (Upd.whole ((Cod.len _ _).trans (Cod.len _ _).symm)) rfl ?_
      refine OW.nil ?_
      refine OJ.go 1 [(9, .pointer r3.2)] ?_
      refine OJ.nil ?_
      refine SJ.sr 2 ?_
      refine OJ.go 2 [(11, .int .i64 0), (10, .int .i64 0)] ?_
      refine OJ.nil ?_
      refine SJ.seq ?_
      refine SJ.sr 2 ?_
      refine OJ.go 2 [(34, .bool (Option.isNone r3.2)), (33, .pointer r3.2)] ?_
      refine OJ.nil ?_
      refine SJ.cond (t := (.tmp 34)) (b := (Option.isNone r3.2)) Option.isNone_iff_eq_none (fun hc33 => ?_) (fun hc33 => ?_)
      · refine SJ.rg 14 ?_
        refine OJ.go 4 [(39, .int .i64 (IntKind.wrap .i64 ((r2.1.size : Int) + 1))), (38, .int .i64 (r2.1.size : Int)), (37, .string r2.1), (36, .string a0)] ?_
        refine OJ.kld (d := 40) (y := .tmp 8) (cd := c_api_IP) (j := 0) (b := b4) (o := 0) r3.1 (pend2 := []) Ty27 rfl (At.whole _) rfl ?_
        refine OJ.call (d := 41) (g := 26) (ats := #[27]) (args := [.tmp 40]) (owed := []) F26 (addr_size_ok r3.1) (fun r31 => ?_)
        refine OW.nil ?_
        refine OJ.call (d := 42) (g := 35) (ats := #[9, 3, 3, 28]) (args := [.tmp 36, .tmp 39, .tmp 41, .const (.int .i64 45)]) (owed := []) F35 (addr_number_ok a0 (IntKind.wrap .i64 ((r2.1.size : Int) + 1)) r31 45) (fun r32 => ?_)
        refine OW.nil ?_
        refine OJ.go 7 [(9, .pointer r32.2.2), (11, .int .i64 r32.2.1), (10, .int .i64 r32.1), (45, .pointer r32.2.2), (44, .int .i64 r32.2.1), (43, .int .i64 r32.1), (35, .tuple #[.int .i64 r32.1, .int .i64 r32.2.1, .pointer r32.2.2])] ?_
        refine OJ.nil ?_
        refine SJ.less [0, 2, 8, 9, 10, 11] (m' := [(0, .string a0), (2, .pointer (some (pt b1 0))), (8, .pointer (some (pt b4 0))), (9, .pointer r32.2.2), (10, .int .i64 r32.1), (11, .int .i64 r32.2.1)]) ?_
        exact addr_ParsePrefix.K3_ok a0 b1 r3 b4 r32.2.2 r32.1 r32.2.1
      · refine SJ.skip ?_
        refine SJ.less [0, 2, 8, 9, 10, 11] (m' := [(0, .string a0), (2, .pointer (some (pt b1 0))), (8, .pointer (some (pt b4 0))), (9, .pointer r3.2), (10, .int .i64 0), (11, .int .i64 0)]) ?_
        exact addr_ParsePrefix.K3_ok a0 b1 r3 b4 r3.2 0 0

/-! ### weir/addr.PrintPrefix: function 17 -/
noncomputable def addr_PrintPrefix.B : Code := (Tryd.f17.body).getD .skip
noncomputable def addr_PrintPrefix.cx : Fx := ⟨Tryd.prog, 17, Tryd.f17⟩
noncomputable def addr_PrintPrefix.out (r_ : (ByteArray × Int)) : Value := .tuple #[.string r_.1, .int .i64 r_.2]
noncomputable def addr_PrintPrefix.F0 (r_ : (ByteArray × Int)) : Reach := .ret (addr_PrintPrefix.out r_)
noncomputable def addr_PrintPrefix (a0 : api_Prefix) : M (ByteArray × Int) :=
  slot 37 >>= fun b1 =>
  addr_ValidPrefix a0 >>= fun r2 =>
  if r2 ≠ 0 then
    pure (ByteArray.empty, r2)
  else
    addr_PrintIP a0.IP >>= fun r3 =>
    chk (((r3.1.size + str10.size : Nat) : Int) ≤ 9223372036854775807) >>= fun _ =>
    strconv_Itoa_ a0.Len >>= fun r4 =>
    chk ((((r3.1 ++ str10).size + r4.size : Nat) : Int) ≤ 9223372036854775807) >>= fun _ =>
    pure (((r3.1 ++ str10) ++ r4), 0)
theorem addr_PrintPrefix_ok (a0 : api_Prefix) : Ref Tryd.prog 17 [c_api_Prefix.val a0] (addr_PrintPrefix a0) addr_PrintPrefix.out := by
  refine Ref.of (cd := addr_PrintPrefix.B) Tryd.func17 ?_
  show SJ addr_PrintPrefix.cx [.code addr_PrintPrefix.B] [(0, c_api_Prefix.val a0)] [] (addr_PrintPrefix a0) addr_PrintPrefix.F0
  unfold addr_PrintPrefix
  refine SJ.sr 3 ?_
  refine OJ.slotOf (d := 1) (op := (.box 37 (.tmp 0))) (cd := c_api_Prefix) (u := a0) (owed := []) (box_run (by kernel_rfl)) (fun b1 => ?_)
  refine OW.nil ?_
  refine OJ.go 2 [(3, .int .i64 0), (2, .string ByteArray.empty)] ?_
  refine OJ.nil ?_
  refine SJ.seq ?_
  refine SJ.sr 3 ?_
  refine OJ.kld (d := 7) (y := .tmp 1) (cd := c_api_Prefix) (j := 0) (b := b1) (o := 0) a0 (pend2 := []) Ty37 rfl (At.whole _) rfl ?_
  refine OJ.call (d := 8) (g := 14) (ats := #[37]) (args := [.tmp 7]) (owed := []) F14 (addr_ValidPrefix_ok a0) (fun r2 => ?_)
  refine OW.nil ?_
  refine OJ.go 1 [(4, .int .i64 r2)] ?_
  refine OJ.nil ?_
  refine SJ.sr 2 ?_
  refine OJ.go 2 [(10, .bool (r2 != 0)), (9, .int .i64 r2)] ?_
  refine OJ.nil ?_
  refine SJ.cond (t := (.tmp 10)) (b := (r2 != 0)) bne_iff_ne (fun hc5 => ?_) (fun hc5 => ?_)
  · refine SJ.sr 3 ?_
    refine OJ.go 3 [(3, .int .i64 r2), (2, .string ByteArray.empty), (11, .int .i64 r2)] ?_
    refine OJ.nil ?_
    exact SJ.ret rfl (Res.run (ys := [.string ByteArray.empty, .int .i64 r2]) (.tmp (by kernel_rfl) (.tmp (by kernel_rfl) .nil)) rfl)
  · refine SJ.skip ?_
    refine SJ.sr 8 ?_
    refine OJ.go 1 [(13, .pointer (some (pt b1 0)))] ?_
    refine OJ.kld (d := 14) (y := .tmp 13) (cd := c_api_IP) (j := 0) (b := b1) (o := 0) a0.IP (pend2 := []) Ty27 rfl (At_api_Prefix_IP a0) rfl ?_
    refine OJ.call (d := 15) (g := 16) (ats := #[27]) (args := [.tmp 14]) (owed := []) F16 (addr_PrintIP_ok a0.IP) (fun r3 => ?_)
    refine OW.nil ?_
    refine OJ.go 5 [(6, .int .i64 r3.2), (5, .string r3.1), (17, .int .i64 r3.2), (16, .string r3.1), (12, .tuple #[.string r3.1, .int .i64 r3.2])] ?_
    refine OJ.nil ?_
    refine SJ.sr 8 ?_
    refine OJ.go 1 [(18, .string r3.1)] ?_
    refine OJ.cat (d := 19) (T := 9) (yT := 9) (y := .tmp 18) (z := .const (.string str10)) (p := r3.1) (q := str10) ?_
    refine OJ.go 1 [(20, .pointer (some (pt b1 17)))] ?_
    refine OJ.kld (d := 21) (y := .tmp 20) (cd := (cI .i64)) (j := 0) (b := b1) (o := 17) a0.Len (pend2 := []) Ty3 rfl (At_api_Prefix_Len a0) rfl ?_
    refine OJ.call (d := 22) (g := 31) (ats := #[3]) (args := [.tmp 21]) (owed := []) F31 (strconv_Itoa__ok a0.Len) (fun r4 => ?_)
    refine OW.nil ?_
    refine OJ.cat (d := 23) (T := 9) (yT := 9) (y := .tmp 19) (z := .tmp 22) (p := (r3.1 ++ str10)) (q := r4) ?_
    refine OJ.go 2 [(3, .int .i64 0), (2, .string ((r3.1 ++ str10) ++ r4))] ?_
    refine OJ.nil ?_
    exact SJ.ret rfl (Res.run (ys := [.string ((r3.1 ++ str10) ++ r4), .int .i64 0]) (.tmp (by kernel_rfl) (.tmp (by kernel_rfl) .nil)) rfl)

/-! ### weir/addr.ParseMac: function 21 -/
noncomputable def addr_ParseMac.B : Code := (Tryd.f21.body).getD .skip
noncomputable def addr_ParseMac.cx : Fx := ⟨Tryd.prog, 21, Tryd.f21⟩
noncomputable def addr_ParseMac.out (r_ : ((Vec Int 6) × Int × Int)) : Value := .tuple #[((cI .u8).arr 6).val r_.1, .int .i64 r_.2.1, .int .i64 r_.2.2]
noncomputable def addr_ParseMac.F0 (r_ : ((Vec Int 6) × Int × Int)) : Reach := .ret (addr_ParseMac.out r_)
noncomputable def addr_ParseMac.F1 (a0 : ByteArray) (b1 : Nat) (b2 : Nat) : (LS (Int × (Vec Int 6) × (Vec Int 6)) ((Vec Int 6) × Int × Int)) → Reach := loopF [.inLoop (c1 (c1 (c2 (c1 (c2 (c2 (c2 addr_ParseMac.B))))))), .inBlock 0, .code (c2 (c2 (c2 (c2 addr_ParseMac.B))))] (fun s_ : (Int × (Vec Int 6) × (Vec Int 6)) => [(0, .string a0), (2, .pointer (some (pt b1 0))), (5, .pointer (some (pt b2 0))), (12, .int .i64 s_.1)]) (fun s_ : (Int × (Vec Int 6) × (Vec Int 6)) => [(b2, ((cI .u8).arr 6).enc s_.2.1), (b1, ((cI .u8).arr 6).enc s_.2.2)]) addr_ParseMac.F0
noncomputable def addr_ParseMac.L1 (a0 : ByteArray) (s3 : Int) (s4 : (Vec Int 6)) (s5 : (Vec Int 6)) : M (LS (Int × (Vec Int 6) × (Vec Int 6)) ((Vec Int 6) × Int × Int)) :=
  if s3 < 17 then
    if s3 = (a0.size : Int) then
      pure (LS.done ((⟨[0, 0, 0, 0, 0, 0], rfl⟩ : (Vec Int 6)), 42, s3))
    else
      if (Int.tmod s3 3) = 2 then
        chk ((0 : Int) ≤ s3 ∧ s3 < (a0.size : Int)) >>= fun _ =>
        if (sb a0 s3) ≠ 58 then
          pure (LS.done ((⟨[0, 0, 0, 0, 0, 0], rfl⟩ : (Vec Int 6)), 41, s3))
        else
          pure (LS.next (IntKind.wrap .i64 (s3 + 1), s4, s5))
      else
        chk ((0 : Int) ≤ s3 ∧ s3 < (a0.size : Int)) >>= fun _ =>
        addr_hexa (sb a0 s3) >>= fun r31 =>
        if r31 < 0 then
          pure (LS.done ((⟨[0, 0, 0, 0, 0, 0], rfl⟩ : (Vec Int 6)), 41, s3))
        else
          chk ((0 : Int) ≤ (IntKind.wrap .i64 (Int.tdiv s3 3)) ∧ (IntKind.wrap .i64 (Int.tdiv s3 3)) < (6 : Nat)) >>= fun _ =>
          chk ((0 : Int) ≤ (IntKind.wrap .i64 (Int.tdiv s3 3)) ∧ (IntKind.wrap .i64 (Int.tdiv s3 3)) < (6 : Nat)) >>= fun _ =>
          pure (LS.next (IntKind.wrap .i64 (s3 + 1), (Vec.s s4 (IntKind.wrap .i64 (Int.tdiv s3 3)) (bor .u8 (IntKind.wrap .u8 ((Vec.g s4 (IntKind.wrap .i64 (Int.tdiv s3 3)) 0) * 2 ^ 4)) (IntKind.wrap .u8 r31))), s5))
  else
    pure (LS.done (s4, 0, 0))
theorem addr_ParseMac.L1_ok (a0 : ByteArray) (b1 : Nat) (b2 : Nat) (s3 : Int) (s4 : (Vec Int 6)) (s5 : (Vec Int 6)) :
    SJ addr_ParseMac.cx [.code (c1 (c1 (c2 (c1 (c2 (c2 (c2 addr_ParseMac.B))))))), .inLoop (c1 (c1 (c2 (c1 (c2 (c2 (c2 addr_ParseMac.B))))))), .inBlock 0, .code (c2 (c2 (c2 (c2 addr_ParseMac.B))))] [(0, .string a0), (2, .pointer (some (pt b1 0))), (5, .pointer (some (pt b2 0))), (12, .int .i64 s3)] [(b2, ((cI .u8).arr 6).enc s4), (b1, ((cI .u8).arr 6).enc s5)] (addr_ParseMac.L1 a0 s3 s4 s5) (addr_ParseMac.F1 a0 b1 b2) := by
  unfold addr_ParseMac.L1
  refine SJ.sr 1 ?_
  refine OJ.go 1 [(13, .bool (decide (s3 < 17)))] ?_
  refine OJ.nil ?_
  refine SJ.seq ?_
  refine SJ.cond (t := (.tmp 13)) (b := decide (s3 < 17)) decide_eq_true_iff (fun hc39 => ?_) (fun hc39 => ?_)
  · refine SJ.skip ?_
    refine SJ.seq ?_
    refine SJ.block (id := 1) ?_
    refine SJ.sr 2 ?_
    refine OJ.go 2 [(6, .int .i64 s3), (14, .int .i64 s3)] ?_
    refine OJ.nil ?_
    refine SJ.seq ?_
    refine SJ.sr 4 ?_
    refine OJ.go 4 [(18, .bool (s3 == (a0.size : Int))), (17, .int .i64 (a0.size : Int)), (16, .string a0), (15, .int .i64 s3)] ?_
    refine OJ.nil ?_
    refine SJ.cond (t := (.tmp 18)) (b := (s3 == (a0.size : Int))) beq_iff_eq (fun hc38 => ?_) (fun hc38 => ?_)
    · refine SJ.sr 5 ?_
      refine OJ.build (d := 19) (T := 42) (parts := []) (ps := []) (cd := ((cI .u8).arr 6)) (z0 := (Vec.rep 6 0)) (⟨[0, 0, 0, 0, 0, 0], rfl⟩ : (Vec Int 6)) Ty42 rfl Filled.nil ?_
      refine OJ.go 1 [(20, .int .i64 s3)] ?_
      refine OJ.kst (y := .tmp 2) (z := .tmp 19) (cd := ((cI .u8).arr 6)) (u := (⟨[0, 0, 0, 0, 0, 0], rfl⟩ : (Vec Int 6))) (j := 1) (b := b1) (o := 0) (((cI .u8).arr 6).enc (⟨[0, 0, 0, 0, 0, 0], rfl⟩ : (Vec Int 6))) (owed := []) Ty42 rfl (Upd.whole ((Cod.len _ _).trans (Cod.len _ _).symm)) rfl ?_
      refine OW.nil ?_
      refine OJ.go 2 [(4, .int .i64 s3), (3, .int .i64 42)] ?_
      refine OJ.nil ?_
      exact SJ.ret rfl (Res.run (ys := [((cI .u8).arr 6).val (⟨[0, 0, 0, 0, 0, 0], rfl⟩ : (Vec Int 6)), .int .i64 42, .int .i64 s3]) (.cell (j := 1) (b := b1) (cd := ((cI .u8).arr 6)) (q := (⟨[0, 0, 0, 0, 0, 0], rfl⟩ : (Vec Int 6))) (by kernel_rfl) rfl Ty42 (At.whole _) (.tmp (by kernel_rfl) (.tmp (by kernel_rfl) .nil))) rfl)
    · refine SJ.skip ?_
      refine SJ.seq ?_
      refine SJ.sr 3 ?_
      refine OJ.go 3 [(23, .bool ((Int.tmod s3 3) == 2)), (22, .int .i64 (Int.tmod s3 3)), (21, .int .i64 s3)] ?_
      refine OJ.nil ?_
      refine SJ.cond (t := (.tmp 23)) (b := ((Int.tmod s3 3) == 2)) beq_iff_eq (fun hc37 => ?_) (fun hc37 => ?_)
      · refine SJ.seq ?_
        refine SJ.sr 4 ?_
        refine OJ.go 2 [(25, .int .i64 s3), (24, .string a0)] ?_
        refine OJ.idxT (d := 26) (T := 9) (y := .tmp 24) (j := .tmp 25) (k := .i64) (fun hb26 hb27 => ?_)
        refine OJ.go 1 [(27, .bool ((sb a0 s3) != 58))] ?_
        refine OJ.nil ?_
        refine SJ.cond (t := (.tmp 27)) (b := ((sb a0 s3) != 58)) bne_iff_ne (fun hc28 => ?_) (fun hc28 => ?_)
        · refine SJ.sr 5 ?_
          refine OJ.build (d := 28) (T := 42) (parts := []) (ps := []) (cd := ((cI .u8).arr 6)) (z0 := (Vec.rep 6 0)) (⟨[0, 0, 0, 0, 0, 0], rfl⟩ : (Vec Int 6)) Ty42 rfl Filled.nil ?_
          refine OJ.go 1 [(29, .int .i64 s3)] ?_
          refine OJ.kst (y := .tmp 2) (z := .tmp 28) (cd := ((cI .u8).arr 6)) (u := (⟨[0, 0, 0, 0, 0, 0], rfl⟩ : (Vec Int 6))) (j := 1) (b := b1) (o := 0) (((cI .u8).arr 6).enc (⟨[0, 0, 0, 0, 0, 0], rfl⟩ : (Vec Int 6))) (owed := []) Ty42 rfl (Upd.whole ((Cod.len _ _).trans (Cod.len _ _).symm)) rfl ?_
          refine OW.nil ?_
          refine OJ.go 2 [(4, .int .i64 s3), (3, .int .i64 41)] ?_
          refine OJ.nil ?_
          exact SJ.ret rfl (Res.run (ys := [((cI .u8).arr 6).val (⟨[0, 0, 0, 0, 0, 0], rfl⟩ : (Vec Int 6)), .int .i64 41, .int .i64 s3]) (.cell (j := 1) (b := b1) (cd := ((cI .u8).arr 6)) (q := (⟨[0, 0, 0, 0, 0, 0], rfl⟩ : (Vec Int 6))) (by kernel_rfl) rfl Ty42 (At.whole _) (.tmp (by kernel_rfl) (.tmp (by kernel_rfl) .nil))) rfl)
        · refine SJ.skip ?_
          refine SJ.exit (id := 1) (by rfl) ?_
          refine SJ.rg 2 ?_
          refine OJ.go 2 [(12, .int .i64 (IntKind.wrap .i64 (s3 + 1))), (49, .int .i64 (IntKind.wrap .i64 (s3 + 1)))] ?_
          refine OJ.nil ?_
          exact SJ.at_ [0, 2, 5, 12] rfl
      · refine SJ.skip ?_
        refine SJ.sr 5 ?_
        refine OJ.go 2 [(31, .int .i64 s3), (30, .string a0)] ?_
        refine OJ.idxT (d := 32) (T := 9) (y := .tmp 30) (j := .tmp 31) (k := .i64) (fun hb29 hb30 => ?_)
        refine OJ.call (d := 33) (g := 36) (ats := #[5]) (args := [.tmp 32]) (owed := []) F36 (addr_hexa_ok (sb a0 s3)) (fun r31 => ?_)
        refine OW.nil ?_
        refine OJ.go 1 [(7, .int .i64 r31)] ?_
        refine OJ.nil ?_
        refine SJ.seq ?_
        refine SJ.sr 2 ?_
        refine OJ.go 2 [(35, .bool (decide (r31 < 0))), (34, .int .i64 r31)] ?_
        refine OJ.nil ?_
        refine SJ.cond (t := (.tmp 35)) (b := decide (r31 < 0)) decide_eq_true_iff (fun hc36 => ?_) (fun hc36 => ?_)
        · refine SJ.sr 5 ?_
          refine OJ.build (d := 36) (T := 42) (parts := []) (ps := []) (cd := ((cI .u8).arr 6)) (z0 := (Vec.rep 6 0)) (⟨[0, 0, 0, 0, 0, 0], rfl⟩ : (Vec Int 6)) Ty42 rfl Filled.nil ?_
          refine OJ.go 1 [(37, .int .i64 s3)] ?_
          refine OJ.kst (y := .tmp 2) (z := .tmp 36) (cd := ((cI .u8).arr 6)) (u := (⟨[0, 0, 0, 0, 0, 0], rfl⟩ : (Vec Int 6))) (j := 1) (b := b1) (o := 0) (((cI .u8).arr 6).enc (⟨[0, 0, 0, 0, 0, 0], rfl⟩ : (Vec Int 6))) (owed := []) Ty42 rfl (Upd.whole ((Cod.len _ _).trans (Cod.len _ _).symm)) rfl ?_
          refine OW.nil ?_
          refine OJ.go 2 [(4, .int .i64 s3), (3, .int .i64 41)] ?_
          refine OJ.nil ?_
          exact SJ.ret rfl (Res.run (ys := [((cI .u8).arr 6).val (⟨[0, 0, 0, 0, 0, 0], rfl⟩ : (Vec Int 6)), .int .i64 41, .int .i64 s3]) (.cell (j := 1) (b := b1) (cd := ((cI .u8).arr 6)) (q := (⟨[0, 0, 0, 0, 0, 0], rfl⟩ : (Vec Int 6))) (by kernel_rfl) rfl Ty42 (At.whole _) (.tmp (by kernel_rfl) (.tmp (by kernel_rfl) .nil))) rfl)
        · refine SJ.skip ?_
          refine SJ.rg 12 ?_
          refine OJ.go 4 [(41, .int .i64 (IntKind.wrap .i64 (Int.tdiv s3 3))), (40, .int .i64 s3), (39, .int .i64 (IntKind.wrap .i64 (Int.tdiv s3 3))), (38, .int .i64 s3)] ?_
          refine OJ.idxK (d := 42) (T := 42) (y := .tmp 5) (j := .tmp 41) (E := 5) (sz := 1) (b := b2) (o := 0) (k := .i64) (fun hb32 hb33 => ?_)
          refine OJ.kld (d := 43) (y := .tmp 42) (cd := (cI .u8)) (j := 0) (b := b2) (o := (0 + (IntKind.wrap .i64 (Int.tdiv s3 3)).toNat * 1)) (Vec.g s4 (IntKind.wrap .i64 (Int.tdiv s3 3)) 0) (pend2 := []) Ty5 rfl (At.zero (At.arr (z := 0) hb32 hb33)) rfl ?_
          refine OJ.go 4 [(47, .int .u8 (bor .u8 (IntKind.wrap .u8 ((Vec.g s4 (IntKind.wrap .i64 (Int.tdiv s3 3)) 0) * 2 ^ 4)) (IntKind.wrap .u8 r31))), (46, .int .u8 (IntKind.wrap .u8 r31)), (45, .int .i64 r31), (44, .int .u8 (IntKind.wrap .u8 ((Vec.g s4 (IntKind.wrap .i64 (Int.tdiv s3 3)) 0) * 2 ^ 4)))] ?_
          refine OJ.idxK (d := 48) (T := 42) (y := .tmp 5) (j := .tmp 39) (E := 5) (sz := 1) (b := b2) (o := 0) (k := .i64) (fun hb34 hb35 => ?_)
          refine OJ.kst (y := .tmp 48) (z := .tmp 47) (cd := (cI .u8)) (u := (bor .u8 (IntKind.wrap .u8 ((Vec.g s4 (IntKind.wrap .i64 (Int.tdiv s3 3)) 0) * 2 ^ 4)) (IntKind.wrap .u8 r31))) (j := 0) (b := b2) (o := (0 + (IntKind.wrap .i64 (Int.tdiv s3 3)).toNat * 1)) (((cI .u8).arr 6).enc (Vec.s s4 (IntKind.wrap .i64 (Int.tdiv s3 3)) (bor .u8 (IntKind.wrap .u8 ((Vec.g s4 (IntKind.wrap .i64 (Int.tdiv s3 3)) 0) * 2 ^ 4)) (IntKind.wrap .u8 r31)))) (owed := []) Ty5 rfl (Upd.zero (Upd.arr hb34 hb35)) rfl ?_
          refine OW.nil ?_
          refine OJ.nil ?_
          refine SJ.inBlock ?_
          refine SJ.rg 2 ?_
          refine OJ.go 2 [(12, .int .i64 (IntKind.wrap .i64 (s3 + 1))), (49, .int .i64 (IntKind.wrap .i64 (s3 + 1)))] ?_
          refine OJ.nil ?_
          exact SJ.at_ [0, 2, 5, 12] rfl
  · refine SJ.exit (id := 0) (by rfl) ?_
    refine SJ.sr 4 ?_
    refine OJ.kld (d := 50) (y := .tmp 5) (cd := ((cI .u8).arr 6)) (j := 0) (b := b2) (o := 0) s4 (pend2 := []) Ty42 rfl (At.whole _) rfl ?_
    refine OJ.kst (y := .tmp 2) (z := .tmp 50) (cd := ((cI .u8).arr 6)) (u := s4) (j := 1) (b := b1) (o := 0) (((cI .u8).arr 6).enc s4) (owed := []) Ty42 rfl (Upd.whole ((Cod.len _ _).trans (Cod.len _ _).symm)) rfl ?_
    refine OW.nil ?_
    refine OJ.go 2 [(4, .int .i64 0), (3, .int .i64 0)] ?_
    refine OJ.nil ?_
    exact SJ.ret rfl (Res.run (ys := [((cI .u8).arr 6).val s4, .int .i64 0, .int .i64 0]) (.cell (j := 1) (b := b1) (cd := ((cI .u8).arr 6)) (q := s4) (by kernel_rfl) rfl Ty42 (At.whole _) (.tmp (by kernel_rfl) (.tmp (by kernel_rfl) .nil))) rfl)
noncomputable def addr_ParseMac (a0 : ByteArray) : M ((Vec Int 6) × Int × Int) :=
  slot 42 >>= fun b1 =>
  if (a0.size : Int) > 17 then
    pure ((⟨[0, 0, 0, 0, 0, 0], rfl⟩ : (Vec Int 6)), 2, 17)
  else
    slot 42 >>= fun b2 =>
    loopM (fun s_ : (Int × (Vec Int 6) × (Vec Int 6)) => addr_ParseMac.L1 a0 s_.1 s_.2.1 s_.2.2) (0, (Vec.rep 6 0), (Vec.rep 6 0))
theorem addr_ParseMac_ok (a0 : ByteArray) : Ref Tryd.prog 21 [.string a0] (addr_ParseMac a0) addr_ParseMac.out := by
  refine Ref.of (cd := addr_ParseMac.B) Tryd.func21 ?_
  show SJ addr_ParseMac.cx [.code addr_ParseMac.B] [(0, .string a0)] [] (addr_ParseMac a0) addr_ParseMac.F0
  unfold addr_ParseMac
  refine SJ.sr 3 ?_
  refine OJ.slotOf (d := 2) (op := (.alloc 42)) (cd := ((cI .u8).arr 6)) (u := (Vec.rep 6 0)) (owed := []) (alloc_run Ty42) (fun b1 => ?_)
  refine OW.nil ?_
  refine OJ.go 2 [(4, .int .i64 0), (3, .int .i64 0)] ?_
  refine OJ.nil ?_
  refine SJ.seq ?_
  refine SJ.sr 3 ?_
  refine OJ.go 3 [(10, .bool (decide ((a0.size : Int) > 17))), (9, .int .i64 (a0.size : Int)), (8, .string a0)] ?_
  refine OJ.nil ?_
  refine SJ.cond (t := (.tmp 10)) (b := decide ((a0.size : Int) > 17)) decide_eq_true_iff (fun hc40 => ?_) (fun hc40 => ?_)
  · refine SJ.sr 4 ?_
    refine OJ.build (d := 11) (T := 42) (parts := []) (ps := []) (cd := ((cI .u8).arr 6)) (z0 := (Vec.rep 6 0)) (⟨[0, 0, 0, 0, 0, 0], rfl⟩ : (Vec Int 6)) Ty42 rfl Filled.nil ?_
    refine OJ.kst (y := .tmp 2) (z := .tmp 11) (cd := ((cI .u8).arr 6)) (u := (⟨[0, 0, 0, 0, 0, 0], rfl⟩ : (Vec Int 6))) (j := 0) (b := b1) (o := 0) (((cI .u8).arr 6).enc (⟨[0, 0, 0, 0, 0, 0], rfl⟩ : (Vec Int 6))) (owed := []) Ty42 rfl (Upd.whole ((Cod.len _ _).trans (Cod.len _ _).symm)) rfl ?_
    refine OW.nil ?_
    refine OJ.go 2 [(4, .int .i64 17), (3, .int .i64 2)] ?_
    refine OJ.nil ?_
    exact SJ.ret rfl (Res.run (ys := [((cI .u8).arr 6).val (⟨[0, 0, 0, 0, 0, 0], rfl⟩ : (Vec Int 6)), .int .i64 2, .int .i64 17]) (.cell (j := 0) (b := b1) (cd := ((cI .u8).arr 6)) (q := (⟨[0, 0, 0, 0, 0, 0], rfl⟩ : (Vec Int 6))) (by kernel_rfl) rfl Ty42 (At.whole _) (.tmp (by kernel_rfl) (.tmp (by kernel_rfl) .nil))) rfl)
  · refine SJ.skip ?_
    refine SJ.sr 1 ?_
    refine OJ.slotOf (d := 5) (op := (.alloc 42)) (cd := ((cI .u8).arr 6)) (u := (Vec.rep 6 0)) (owed := []) (alloc_run Ty42) (fun b2 => ?_)
    refine OW.nil ?_
    refine OJ.nil ?_
    refine SJ.seq ?_
    refine SJ.sr 1 ?_
    refine OJ.go 1 [(12, .int .i64 0)] ?_
    refine OJ.nil ?_
    refine SJ.block (id := 0) ?_
    exact SJ.loop (fun s_ : (Int × (Vec Int 6) × (Vec Int 6)) => [(0, .string a0), (2, .pointer (some (pt b1 0))), (5, .pointer (some (pt b2 0))), (12, .int .i64 s_.1)]) (fun s_ : (Int × (Vec Int 6) × (Vec Int 6)) => [(b2, ((cI .u8).arr 6).enc s_.2.1), (b1, ((cI .u8).arr 6).enc s_.2.2)]) [0, 2, 5, 12] rfl (fun _ _ => rfl) (fun s_ => addr_ParseMac.L1_ok a0 b1 b2 s_.1 s_.2.1 s_.2.2)

/-! ### (*strings.Builder).WriteByte: function 32 -/
noncomputable def strings_Builder_WriteByte.B : Code := (Tryd.f32.body).getD .skip
noncomputable def strings_Builder_WriteByte.cx : Fx := ⟨Tryd.prog, 32, Tryd.f32⟩
noncomputable def strings_Builder_WriteByte.out (r_ : Any) : Value := r_.v
noncomputable def strings_Builder_WriteByte.F0 (r_ : Any) : Reach := .ret (strings_Builder_WriteByte.out r_)
noncomputable def strings_Builder_WriteByte (a0 : (Option Addr)) (a1 : Int) : M Any :=
  strings_Builder_copyCheck a0 >>= fun r1 =>
  nilck a0 >>= fun p2 =>
  ld cL (Addr.add p2 1) >>= fun x3 =>
  slot 5 >>= fun b4 =>
  appl (cI .u8) 5 1 0 x3 [a1] >>= fun r5 =>
  nilck a0 >>= fun p6 =>
  st cL (Addr.add p6 1) r5 >>= fun _ =>
  pure (⟨.nilIface, rfl⟩ : Any)
theorem strings_Builder_WriteByte_ok (a0 : (Option Addr)) (a1 : Int) : Ref Tryd.prog 32 [.pointer a0, .int .u8 a1] (strings_Builder_WriteByte a0 a1) strings_Builder_WriteByte.out := by
  refine Ref.of (cd := strings_Builder_WriteByte.B) Tryd.func32 ?_
  show SJ strings_Builder_WriteByte.cx [.code strings_Builder_WriteByte.B] [(0, .pointer a0), (1, .int .u8 a1)] [] (strings_Builder_WriteByte a0 a1) strings_Builder_WriteByte.F0
  unfold strings_Builder_WriteByte
  refine SJ.sr 1 ?_
  refine OJ.go 1 [(4, (⟨.nilIface, rfl⟩ : Any).v)] ?_
  refine OJ.nil ?_
  refine SJ.sr 2 ?_
  refine OJ.go 1 [(5, .pointer a0)] ?_
  refine OJ.call (d := 6) (g := 44) (ats := #[73]) (args := [.tmp 5]) (owed := []) F44 (strings_Builder_copyCheck_ok a0) (fun r1 => ?_)
  refine OW.nil ?_
  refine OJ.nil ?_
  refine SJ.sr 11 ?_
  refine OJ.go 2 [(8, .pointer a0), (7, .pointer a0)] ?_
  refine OJ.nilck (d := 9) (y := .tmp 8) (fun p2 => ?_)
  refine OJ.go 1 [(10, .pointer (some (Addr.add p2 1)))] ?_
  refine OJ.ld (d := 11) (y := .tmp 10) (pend2 := fun x3 => []) Ty55 (fun _ => rfl) (fun x3 => ?_)
  refine OJ.go 1 [(12, .int .u8 a1)] ?_
  refine OJ.rowSlot (d := 13) (t := 55) (parts := [(0, .tmp 12)]) (ps := [(0, (cI .u8).val a1)]) (cd := (cI .u8)) (⟨[a1], rfl⟩ : Vec Int 1) (owed := []) Ty5 (Filled.cons (cd := (cI .u8)) (q := a1) (o := 0) rfl (Upd.arr (i := 0) (by decide) (by decide)) Filled.nil) (fun b4 => ?_)
  refine OW.nil ?_
  refine OJ.appl (d := 14) (t := 55) (u := 55) (so := .tmp 11) (xo := .tmp 13) (j := 0) (b := b4) (l := ((cI .u8).arr 1).enc (⟨[a1], rfl⟩ : Vec Int 1)) (n := 1) (k := 1) [a1] (owed := []) Ty5 (by rfl) (Cod.arr_enc _ _ _) (by rfl) (fun r5 => ?_)
  refine OW.nil ?_
  refine OJ.nilck (d := 15) (y := .tmp 7) (fun p6 => ?_)
  refine OJ.go 1 [(16, .pointer (some (Addr.add p6 1)))] ?_
  refine OJ.st (y := .tmp 16) (z := .tmp 14) (owed := []) Ty55 ?_
  refine OW.nil ?_
  refine OJ.nil ?_
  refine SJ.sr 1 ?_
  refine OJ.go 1 [(4, (⟨.nilIface, rfl⟩ : Any).v)] ?_
  refine OJ.nil ?_
  exact SJ.ret rfl (Res.run (ys := [(⟨.nilIface, rfl⟩ : Any).v]) (.tmp (by kernel_rfl) .nil) rfl)

/-! ### weir/addr.PrintMac: function 18 -/
noncomputable def addr_PrintMac.B : Code := (Tryd.f18.body).getD .skip
noncomputable def addr_PrintMac.cx : Fx := ⟨Tryd.prog, 18, Tryd.f18⟩
noncomputable def addr_PrintMac.out (r_ : ByteArray) : Value := .string r_
noncomputable def addr_PrintMac.F0 (r_ : ByteArray) : Reach := .ret (addr_PrintMac.out r_)
noncomputable def addr_PrintMac.F1 (a0 : (Vec Int 6)) (b2 : Nat) : (LS Int ByteArray) → Reach := loopF [.inLoop (c1 (c1 (c2 (c1 (c2 (c2 addr_PrintMac.B)))))), .inBlock 0, .code (c2 (c2 (c2 addr_PrintMac.B)))] (fun s_ : Int => [(3, .pointer (some (pt b2 0))), (6, ((cI .u8).arr 6).val a0), (7, .int .i64 s_)]) (fun s_ : Int => []) addr_PrintMac.F0
noncomputable def addr_PrintMac.K1 (a0 : (Vec Int 6)) (b2 : Nat) (s3 : Int) : M (LS Int ByteArray) :=
  chk ((0 : Int) ≤ (Int.fdiv (Vec.g a0 s3 0) (2 ^ 4)) ∧ (Int.fdiv (Vec.g a0 s3 0) (2 ^ 4)) < (str11.size : Int)) >>= fun _ =>
  strings_Builder_WriteByte (some (pt b2 0)) (sb str11 (Int.fdiv (Vec.g a0 s3 0) (2 ^ 4))) >>= fun r22 =>
  chk ((0 : Int) ≤ (band .u8 (Vec.g a0 s3 0) 15) ∧ (band .u8 (Vec.g a0 s3 0) 15) < (str11.size : Int)) >>= fun _ =>
  strings_Builder_WriteByte (some (pt b2 0)) (sb str11 (band .u8 (Vec.g a0 s3 0) 15)) >>= fun r25 =>
  pure (LS.next (IntKind.wrap .i64 (s3 + 1)))
theorem addr_PrintMac.K1_ok (a0 : (Vec Int 6)) (b2 : Nat) (s3 : Int) :
    SJ addr_PrintMac.cx [.code (c2 (c2 (c1 (c1 (c2 (c2 (c1 (c1 (c2 (c1 (c2 (c2 addr_PrintMac.B)))))))))))), .inBlock 1, .code (c2 (c2 (c2 (c1 (c1 (c2 (c1 (c2 (c2 addr_PrintMac.B))))))))), .inLoop (c1 (c1 (c2 (c1 (c2 (c2 addr_PrintMac.B)))))), .inBlock 0, .code (c2 (c2 (c2 addr_PrintMac.B)))] [(3, .pointer (some (pt b2 0))), (6, ((cI .u8).arr 6).val a0), (7, .int .i64 s3), (5, .int .u8 (Vec.g a0 s3 0))] [] (addr_PrintMac.K1 a0 b2 s3) (addr_PrintMac.F1 a0 b2) := by
  unfold addr_PrintMac.K1
  refine SJ.sr 4 ?_
  refine OJ.go 2 [(15, .int .u8 (Int.fdiv (Vec.g a0 s3 0) (2 ^ 4))), (14, .int .u8 (Vec.g a0 s3 0))] ?_
  refine OJ.idxT (d := 16) (T := 9) (y := .const (.string str11)) (j := .tmp 15) (k := .u8) (fun hb20 hb21 => ?_)
  refine OJ.call (d := 17) (g := 32) (ats := #[75, 5]) (args := [.tmp 3, .tmp 16]) (owed := []) F32 (strings_Builder_WriteByte_ok (some (pt b2 0)) (sb str11 (Int.fdiv (Vec.g a0 s3 0) (2 ^ 4)))) (fun r22 => ?_)
  refine OW.nil ?_
  refine OJ.nil ?_
  refine SJ.rg 4 ?_
  refine OJ.go 2 [(19, .int .u8 (band .u8 (Vec.g a0 s3 0) 15)), (18, .int .u8 (Vec.g a0 s3 0))] ?_
  refine OJ.idxT (d := 20) (T := 9) (y := .const (.string str11)) (j := .tmp 19) (k := .u8) (fun hb23 hb24 => ?_)
  refine OJ.call (d := 21) (g := 32) (ats := #[75, 5]) (args := [.tmp 3, .tmp 20]) (owed := []) F32 (strings_Builder_WriteByte_ok (some (pt b2 0)) (sb str11 (band .u8 (Vec.g a0 s3 0) 15))) (fun r25 => ?_)
  refine OW.nil ?_
  refine OJ.nil ?_
  refine SJ.inBlock ?_
  refine SJ.rg 2 ?_
  refine OJ.go 2 [(7, .int .i64 (IntKind.wrap .i64 (s3 + 1))), (22, .int .i64 (IntKind.wrap .i64 (s3 + 1)))] ?_
  refine OJ.nil ?_
  exact SJ.at_ [3, 6, 7] rfl
noncomputable def addr_PrintMac.L1 (a0 : (Vec Int 6)) (b2 : Nat) (s3 : Int) : M (LS Int ByteArray) :=
  if s3 < 6 then
    chk ((0 : Int) ≤ s3 ∧ s3 < (6 : Nat)) >>= fun _ =>
    if s3 > 0 then
      strings_Builder_WriteByte (some (pt b2 0)) 58 >>= fun r26 =>
      addr_PrintMac.K1 a0 b2 s3
    else
      addr_PrintMac.K1 a0 b2 s3
  else
    strings_Builder_String (some (pt b2 0)) >>= fun r28 =>
    pure (LS.done r28)
theorem addr_PrintMac.L1_ok (a0 : (Vec Int 6)) (b2 : Nat) (s3 : Int) :
    SJ addr_PrintMac.cx [.code (c1 (c1 (c2 (c1 (c2 (c2 addr_PrintMac.B)))))), .inLoop (c1 (c1 (c2 (c1 (c2 (c2 addr_PrintMac.B)))))), .inBlock 0, .code (c2 (c2 (c2 addr_PrintMac.B)))] [(3, .pointer (some (pt b2 0))), (6, ((cI .u8).arr 6).val a0), (7, .int .i64 s3)] [] (addr_PrintMac.L1 a0 b2 s3) (addr_PrintMac.F1 a0 b2) := by
  unfold addr_PrintMac.L1
  refine SJ.sr 1 ?_
  refine OJ.go 1 [(8, .bool (decide (s3 < 6)))] ?_
  refine OJ.nil ?_
  refine SJ.seq ?_
  refine SJ.cond (t := (.tmp 8)) (b := decide (s3 < 6)) decide_eq_true_iff (fun hc29 => ?_) (fun hc29 => ?_)
  · refine SJ.skip ?_
    refine SJ.seq ?_
    refine SJ.block (id := 1) ?_
    refine SJ.sr 4 ?_
    refine OJ.go 1 [(9, .int .i64 s3)] ?_
    refine OJ.idxV (d := 10) (T := 42) (E := 5) (y := .tmp 6) (j := .tmp 7) (k := .i64) (v0 := a0) Ty5 (fun hb17 hb18 => ?_)
    refine OJ.go 2 [(5, .int .u8 (Vec.g a0 s3 0)), (4, .int .i64 s3)] ?_
    refine OJ.nil ?_
    refine SJ.seq ?_
    refine SJ.sr 2 ?_
    refine OJ.go 2 [(12, .bool (decide (s3 > 0))), (11, .int .i64 s3)] ?_
    refine OJ.nil ?_
    refine SJ.cond (t := (.tmp 12)) (b := decide (s3 > 0)) decide_eq_true_iff (fun hc27 => ?_) (fun hc27 => ?_)
    · refine SJ.rg 1 ?_
      refine OJ.call (d := 13) (g := 32) (ats := #[75, 5]) (args := [.tmp 3, .const (.int .u8 58)]) (owed := []) F32 (strings_Builder_WriteByte_ok (some (pt b2 0)) 58) (fun r26 => ?_)
      refine OW.nil ?_
      refine OJ.nil ?_
      refine SJ.less [3, 6, 7, 5] (m' := [(3, .pointer (some (pt b2 0))), (6, ((cI .u8).arr 6).val a0), (7, .int .i64 s3), (5, .int .u8 (Vec.g a0 s3 0))]) ?_
      exact addr_PrintMac.K1_ok a0 b2 s3
    · refine SJ.skip ?_
      refine SJ.less [3, 6, 7, 5] (m' := [(3, .pointer (some (pt b2 0))), (6, ((cI .u8).arr 6).val a0), (7, .int .i64 s3), (5, .int .u8 (Vec.g a0 s3 0))]) ?_
      exact addr_PrintMac.K1_ok a0 b2 s3
  · refine SJ.exit (id := 0) (by rfl) ?_
    refine SJ.sr 2 ?_
    refine OJ.call (d := 23) (g := 33) (ats := #[75]) (args := [.tmp 3]) (owed := []) F33 (strings_Builder_String_ok (some (pt b2 0))) (fun r28 => ?_)
    refine OW.nil ?_
    refine OJ.go 1 [(2, .string r28)] ?_
    refine OJ.nil ?_
    exact SJ.ret rfl (Res.run (ys := [.string r28]) (.tmp (by kernel_rfl) .nil) rfl)
noncomputable def addr_PrintMac (a0 : (Vec Int 6)) : M ByteArray :=
  slot 42 >>= fun b1 =>
  newv 75 c_strings_Builder z_strings_Builder >>= fun b2 =>
  loopM (fun s_ : Int => addr_PrintMac.L1 a0 b2 s_) 0
theorem addr_PrintMac_ok (a0 : (Vec Int 6)) : Ref Tryd.prog 18 [((cI .u8).arr 6).val a0] (addr_PrintMac a0) addr_PrintMac.out := by
  refine Ref.of (cd := addr_PrintMac.B) Tryd.func18 ?_
  show SJ addr_PrintMac.cx [.code addr_PrintMac.B] [(0, ((cI .u8).arr 6).val a0)] [] (addr_PrintMac a0) addr_PrintMac.F0
  unfold addr_PrintMac
  refine SJ.sr 2 ?_
  refine OJ.slotOf (d := 1) (op := (.box 42 (.tmp 0))) (cd := ((cI .u8).arr 6)) (u := a0) (owed := []) (box_run (by kernel_rfl)) (fun b1 => ?_)
  refine OW.nil ?_
  refine OJ.go 1 [(2, .string ByteArray.empty)] ?_
  refine OJ.nil ?_
  refine SJ.sr 1 ?_
  refine OJ.newOf (d := 3) (op := (.alloc 75)) (cd := c_strings_Builder) (u := z_strings_Builder) (owed := []) (alloc_run Ty75) (fun b2 => ?_)
  refine OW.nil ?_
  refine OJ.nil ?_
  refine SJ.seq ?_
  refine SJ.sr 2 ?_
  refine OJ.kld (d := 6) (y := .tmp 1) (cd := ((cI .u8).arr 6)) (j := 0) (b := b1) (o := 0) a0 (pend2 := []) Ty42 rfl (At.whole _) rfl ?_
  refine OJ.go 1 [(7, .int .i64 0)] ?_
  refine OJ.nil ?_
  refine SJ.block (id := 0) ?_
  refine SJ.forget (List.Sublist.cons _ List.Sublist.slnil) ?_
  exact SJ.loop (fun s_ : Int => [(3, .pointer (some (pt b2 0))), (6, ((cI .u8).arr 6).val a0), (7, .int .i64 s_)]) (fun s_ : Int => []) [3, 6, 7] rfl (fun _ _ => rfl) (fun s_ => addr_PrintMac.L1_ok a0 b2 s_)

/-! ### weir/weirlaw4.loop: function 24 -/
noncomputable def weirlaw4_loop.B : Code := (Tryd.f24.body).getD .skip
noncomputable def weirlaw4_loop.cx : Fx := ⟨Tryd.prog, 24, Tryd.f24⟩
noncomputable def weirlaw4_loop.out (r_ : api_IP) : Value := c_api_IP.val r_
noncomputable def weirlaw4_loop.F0 (r_ : api_IP) : Reach := .ret (weirlaw4_loop.out r_)
noncomputable def weirlaw4_loop  : M api_IP :=
  slot 27 >>= fun b1 =>
  pure (⟨4, (⟨[127, 0, 0, 1, 0, 0, 0, 0, 0, 0, 0, 0, 0, 0, 0, 0], rfl⟩ : (Vec Int 16))⟩ : api_IP)
theorem weirlaw4_loop_ok  : Ref Tryd.prog 24 [] (weirlaw4_loop) weirlaw4_loop.out := by
  refine Ref.of (cd := weirlaw4_loop.B) Tryd.func24 ?_
  show SJ weirlaw4_loop.cx [.code weirlaw4_loop.B] [] [] (weirlaw4_loop) weirlaw4_loop.F0
  unfold weirlaw4_loop
  refine SJ.sr 1 ?_
  refine OJ.slotOf (d := 0) (op := (.alloc 27)) (cd := c_api_IP) (u := z_api_IP) (owed := []) (alloc_run Ty27) (fun b1 => ?_)
  refine OW.nil ?_
  refine OJ.nil ?_
  refine SJ.sr 3 ?_
  refine OJ.build (d := 1) (T := 22) (parts := [(0, .const (.int .u8 127)), (1, .const (.int .u8 0)), (2, .const (.int .u8 0)), (3, .const (.int .u8 1))]) (ps := [(0, (cI .u8).val 127), (1, (cI .u8).val 0), (2, (cI .u8).val 0), (3, (cI .u8).val 1)]) (cd := ((cI .u8).arr 16)) (z0 := (Vec.rep 16 0)) (⟨[127, 0, 0, 1, 0, 0, 0, 0, 0, 0, 0, 0, 0, 0, 0, 0], rfl⟩ : (Vec Int 16)) Ty22 rfl (Filled.cons (cd := (cI .u8)) (q := 127) (o := 0) (by kernel_rfl) (Upd.arr (i := 0) (by decide) (by decide)) (Filled.cons (cd := (cI .u8)) (q := 0) (o := 1) (by kernel_rfl) (Upd.arr (i := 1) (by decide) (by decide)) (Filled.cons (cd := (cI .u8)) (q := 0) (o := 2) (by kernel_rfl) (Upd.arr (i := 2) (by decide) (by decide)) (Filled.cons (cd := (cI .u8)) (q := 1) (o := 3) (by kernel_rfl) (Upd.arr (i := 3) (by decide) (by decide)) Filled.nil)))) ?_
  refine OJ.build (d := 2) (T := 27) (parts := [(0, .const (.int .i64 4)), (1, .tmp 1)]) (ps := [(0, (cI .i64).val 4), (1, ((cI .u8).arr 16).val (⟨[127, 0, 0, 1, 0, 0, 0, 0, 0, 0, 0, 0, 0, 0, 0, 0], rfl⟩ : (Vec Int 16)))]) (cd := c_api_IP) (z0 := z_api_IP) (⟨4, (⟨[127, 0, 0, 1, 0, 0, 0, 0, 0, 0, 0, 0, 0, 0, 0, 0], rfl⟩ : (Vec Int 16))⟩ : api_IP) Ty27 rfl (Filled.cons (cd := (cI .i64)) (q := 4) (o := 0) (by kernel_rfl) (Up_api_IP_V z_api_IP 4) (Filled.cons (cd := ((cI .u8).arr 16)) (q := (⟨[127, 0, 0, 1, 0, 0, 0, 0, 0, 0, 0, 0, 0, 0, 0, 0], rfl⟩ : (Vec Int 16))) (o := 1) (by kernel_rfl) (Up_api_IP_A (⟨4, z_api_IP.A⟩ : api_IP) (⟨[127, 0, 0, 1, 0, 0, 0, 0, 0, 0, 0, 0, 0, 0, 0, 0], rfl⟩ : (Vec Int 16))) Filled.nil)) ?_
  refine OJ.kst (y := .tmp 0) (z := .tmp 2) (cd := c_api_IP) (u := (⟨4, (⟨[127, 0, 0, 1, 0, 0, 0, 0, 0, 0, 0, 0, 0, 0, 0, 0], rfl⟩ : (Vec Int 16))⟩ : api_IP)) (j := 0) (b := b1) (o := 0) (c_api_IP.enc (⟨4, (⟨[127, 0, 0, 1, 0, 0, 0, 0, 0, 0, 0, 0, 0, 0, 0, 0], rfl⟩ : (Vec Int 16))⟩ : api_IP)) (owed := []) Ty27 rfl (Upd.whole ((Cod.len _ _).trans (Cod.len _ _).symm)) rfl ?_
  refine OW.nil ?_
  refine OJ.nil ?_
  exact SJ.ret rfl (Res.run (ys := [c_api_IP.val (⟨4, (⟨[127, 0, 0, 1, 0, 0, 0, 0, 0, 0, 0, 0, 0, 0, 0, 0], rfl⟩ : (Vec Int 16))⟩ : api_IP)]) (.cell (j := 0) (b := b1) (cd := c_api_IP) (q := (⟨4, (⟨[127, 0, 0, 1, 0, 0, 0, 0, 0, 0, 0, 0, 0, 0, 0, 0], rfl⟩ : (Vec Int 16))⟩ : api_IP)) (by kernel_rfl) rfl Ty27 (At.whole _) .nil) rfl)

/-! ### weir/addr.Class: function 25 -/
noncomputable def addr_Class.B : Code := (Tryd.f25.body).getD .skip
noncomputable def addr_Class.cx : Fx := ⟨Tryd.prog, 25, Tryd.f25⟩
noncomputable def addr_Class.out (r_ : Int) : Value := .int .i64 r_
noncomputable def addr_Class.F0 (r_ : Int) : Reach := .ret (addr_Class.out r_)
noncomputable def addr_Class.F1 (a0 : api_IP) (b1 : Nat) (x3 : (Vec addr_net 12)) : (LS Int Int) → Reach := loopF [.inLoop (c1 (c1 (c2 (c1 (c2 (c2 addr_Class.B)))))), .inBlock 0, .code (c2 (c2 (c2 addr_Class.B)))] (fun s_ : Int => [(1, .pointer (some (pt b1 0))), (8, (c_addr_net.arr 12).val x3), (9, .int .i64 s_)]) (fun s_ : Int => [(b1, c_api_IP.enc a0)]) addr_Class.F0
noncomputable def addr_Class.L1 (a0 : api_IP) (x3 : (Vec addr_net 12)) (s4 : Int) : M (LS Int Int) :=
  if s4 < 12 then
    chk ((0 : Int) ≤ s4 ∧ s4 < (12 : Nat)) >>= fun _ =>
    slot 95 >>= fun b14 =>
    draw >>= fun _ =>
    (if ((Vec.g x3 s4 z_addr_net).v) = a0.V then
        addr_masked a0.A ((Vec.g x3 s4 z_addr_net).bits) >>= fun r15 =>
        pure (eqv r15 ((Vec.g x3 s4 z_addr_net).a))
      else
        pure false) >>= fun y16 =>
    if y16 = true then
      pure (LS.done ((Vec.g x3 s4 z_addr_net).class_))
    else
      pure (LS.next (IntKind.wrap .i64 (s4 + 1)))
  else
    pure (LS.done 7)
theorem addr_Class.L1_ok (a0 : api_IP) (b1 : Nat) (x3 : (Vec addr_net 12)) (s4 : Int) :
    SJ addr_Class.cx [.code (c1 (c1 (c2 (c1 (c2 (c2 addr_Class.B)))))), .inLoop (c1 (c1 (c2 (c1 (c2 (c2 addr_Class.B)))))), .inBlock 0, .code (c2 (c2 (c2 addr_Class.B)))] [(1, .pointer (some (pt b1 0))), (8, (c_addr_net.arr 12).val x3), (9, .int .i64 s4)] [(b1, c_api_IP.enc a0)] (addr_Class.L1 a0 x3 s4) (addr_Class.F1 a0 b1 x3) := by
  unfold addr_Class.L1
  refine SJ.sr 1 ?_
  refine OJ.go 1 [(10, .bool (decide (s4 < 12)))] ?_
  refine OJ.nil ?_
  refine SJ.seq ?_
  refine SJ.cond (t := (.tmp 10)) (b := decide (s4 < 12)) decide_eq_true_iff (fun hc18 => ?_) (fun hc18 => ?_)
  · refine SJ.skip ?_
    refine SJ.seq ?_
    refine SJ.block (id := 1) ?_
    refine SJ.sr 3 ?_
    refine OJ.idxV (d := 11) (T := 96) (E := 95) (y := .tmp 8) (j := .tmp 9) (k := .i64) (v0 := x3) Ty95 (fun hb12 hb13 => ?_)
    refine OJ.slotOf (d := 4) (op := (.alloc 95)) (cd := c_addr_net) (u := z_addr_net) (owed := []) (alloc_run Ty95) (fun b14 => ?_)
    refine OW.nil ?_
    refine OJ.kst (y := .tmp 4) (z := .tmp 11) (cd := c_addr_net) (u := (Vec.g x3 s4 z_addr_net)) (j := 0) (b := b14) (o := 0) (c_addr_net.enc (Vec.g x3 s4 z_addr_net)) (owed := []) Ty95 rfl (Upd.whole ((Cod.len _ _).trans (Cod.len _ _).symm)) rfl ?_
    refine OW.nil ?_
    refine OJ.nil ?_
    refine SJ.seq ?_
    refine SJ.draw (id := 6) (kd := [0, 1, 0, 1, 0, 0, 0, 1, 0, 1, 2, 0, 1, 0, 0]) (bef := [0, 1, 0, 4, 15, 31, 63, 127, 63, 319, 1023, 63, 2111, 8191, 16383]) (ord := [0, 1, 2, 3, 4, 5, 6, 7, 8, 9, 11, 12, 10, 13, 14]) mixed ?_
    refine OJ.go 1 [(12, .pointer (some (pt b14 0)))] ?_
    refine OJ.kld (d := 13) (y := .tmp 12) (cd := (cI .i64)) (j := 0) (b := b14) (o := 0) ((Vec.g x3 s4 z_addr_net).v) (pend2 := [⟨1, 3, (pt b14 0), (cI .i64).val ((Vec.g x3 s4 z_addr_net).v)⟩]) Ty3 rfl (At_addr_net_v (Vec.g x3 s4 z_addr_net)) rfl ?_
    refine OJ.go 1 [(14, .pointer (some (pt b1 0)))] ?_
    refine OJ.kld (d := 15) (y := .tmp 14) (cd := (cI .i64)) (j := 1) (b := b1) (o := 0) a0.V (pend2 := [⟨3, 3, (pt b1 0), (cI .i64).val a0.V⟩, ⟨1, 3, (pt b14 0), (cI .i64).val ((Vec.g x3 s4 z_addr_net).v)⟩]) Ty3 rfl (At_api_IP_V a0) rfl ?_
    refine OJ.go 2 [(17, .bool (((Vec.g x3 s4 z_addr_net).v) == a0.V)), (16, .bool (((Vec.g x3 s4 z_addr_net).v) == a0.V))] ?_
    refine OJ.join (b := (((Vec.g x3 s4 z_addr_net).v) == a0.V)) [6, 7, 8, 9, 11, 12, 10, 13, 14] [] [1, 8, 9, 4, 26] (fun y16 => [(1, .pointer (some (pt b1 0))), (8, (c_addr_net.arr 12).val x3), (9, .int .i64 s4), (4, .pointer (some (pt b14 0))), (26, .bool y16)]) [⟨12, 22, (pt b14 1), ((cI .u8).arr 16).val ((Vec.g x3 s4 z_addr_net).a)⟩, ⟨9, 3, (pt b14 17), (cI .i64).val ((Vec.g x3 s4 z_addr_net).bits)⟩, ⟨7, 22, (pt b1 1), ((cI .u8).arr 16).val a0.A⟩, ⟨3, 3, (pt b1 0), (cI .i64).val a0.V⟩, ⟨1, 3, (pt b14 0), (cI .i64).val ((Vec.g x3 s4 z_addr_net).v)⟩] [] (t := 17) beq_iff_eq (fun hp_ => ?_) (fun hp_ => ?_) (fun _ _ _ _ _ _ h_ => h_) (fun y16 => ?_)
    · refine OJ.go 1 [(18, .pointer (some (pt b1 1)))] ?_
      refine OJ.kld (d := 19) (y := .tmp 18) (cd := ((cI .u8).arr 16)) (j := 1) (b := b1) (o := 1) a0.A (pend2 := [⟨7, 22, (pt b1 1), ((cI .u8).arr 16).val a0.A⟩, ⟨3, 3, (pt b1 0), (cI .i64).val a0.V⟩, ⟨1, 3, (pt b14 0), (cI .i64).val ((Vec.g x3 s4 z_addr_net).v)⟩]) Ty22 rfl (At_api_IP_A a0) rfl ?_
      refine OJ.go 1 [(20, .pointer (some (pt b14 17)))] ?_
      refine OJ.kld (d := 21) (y := .tmp 20) (cd := (cI .i64)) (j := 0) (b := b14) (o := 17) ((Vec.g x3 s4 z_addr_net).bits) (pend2 := [⟨9, 3, (pt b14 17), (cI .i64).val ((Vec.g x3 s4 z_addr_net).bits)⟩, ⟨7, 22, (pt b1 1), ((cI .u8).arr 16).val a0.A⟩, ⟨3, 3, (pt b1 0), (cI .i64).val a0.V⟩, ⟨1, 3, (pt b14 0), (cI .i64).val ((Vec.g x3 s4 z_addr_net).v)⟩]) Ty3 rfl (At_addr_net_bits (Vec.g x3 s4 z_addr_net)) rfl ?_
      refine OJ.go 1 [(23, .pointer (some (pt b14 1)))] ?_
      refine OJ.kld (d := 24) (y := .tmp 23) (cd := ((cI .u8).arr 16)) (j := 0) (b := b14) (o := 1) ((Vec.g x3 s4 z_addr_net).a) (pend2 := [⟨12, 22, (pt b14 1), ((cI .u8).arr 16).val ((Vec.g x3 s4 z_addr_net).a)⟩, ⟨9, 3, (pt b14 17), (cI .i64).val ((Vec.g x3 s4 z_addr_net).bits)⟩, ⟨7, 22, (pt b1 1), ((cI .u8).arr 16).val a0.A⟩, ⟨3, 3, (pt b1 0), (cI .i64).val a0.V⟩, ⟨1, 3, (pt b14 0), (cI .i64).val ((Vec.g x3 s4 z_addr_net).v)⟩]) Ty22 rfl (At_addr_net_a (Vec.g x3 s4 z_addr_net)) rfl ?_
      refine OJ.call (d := 22) (g := 27) (ats := #[22, 3]) (args := [.tmp 19, .tmp 21]) (owed := [⟨12, 22, (pt b14 1), ((cI .u8).arr 16).val ((Vec.g x3 s4 z_addr_net).a)⟩]) F27 (addr_masked_ok a0.A ((Vec.g x3 s4 z_addr_net).bits)) (fun r15 => ?_)
      refine OW.known (j := 0) (q := ((Vec.g x3 s4 z_addr_net).a)) Ty22 rfl (At_addr_net_a (Vec.g x3 s4 z_addr_net)) ?_
      refine OW.nil ?_
      refine OJ.eql (d := 25) (T := 22) (yT := 22) (y := .tmp 22) (z := .tmp 24) (cd := ((cI .u8).arr 16)) (p := r15) (q := ((Vec.g x3 s4 z_addr_net).a)) rfl Eq22 ?_
      refine OJ.go 1 [(26, .bool (eqv r15 ((Vec.g x3 s4 z_addr_net).a)))] ?_
      exact OJ.nil ⟨(Cov.mem (Cov.keep (List.mem_of_getElem? (i := 0) rfl) (Cov.keep (List.mem_of_getElem? (i := 1) rfl) (Cov.keep (List.mem_of_getElem? (i := 2) rfl) (Cov.keep (List.mem_of_getElem? (i := 3) rfl) (Cov.keep (List.mem_of_getElem? (i := 4) rfl) Cov.nil)))))), rfl, _, rfl, by kernel_rfl⟩
    · refine OJ.go 9 [(26, .bool false), (25, undef), (22, undef), (24, undef), (23, undef), (21, undef), (20, undef), (19, undef), (18, undef)] ?_
      exact OJ.nil ⟨(Cov.mem (Cov.keep (List.mem_of_getElem? (i := 3) rfl) (Cov.keep (List.mem_of_getElem? (i := 4) rfl) Cov.nil))), rfl, _, rfl, by kernel_rfl⟩
    · refine OJ.nil ?_
      refine SJ.cond (t := (.tmp 26)) (b := y16) Iff.rfl (fun hc17 => ?_) (fun hc17 => ?_)
      · refine SJ.sr 3 ?_
        refine OJ.go 1 [(27, .pointer (some (pt b14 18)))] ?_
        refine OJ.kld (d := 28) (y := .tmp 27) (cd := (cI .i64)) (j := 0) (b := b14) (o := 18) ((Vec.g x3 s4 z_addr_net).class_) (pend2 := []) Ty3 rfl (At_addr_net_class_ (Vec.g x3 s4 z_addr_net)) rfl ?_
        refine OJ.go 1 [(2, .int .i64 ((Vec.g x3 s4 z_addr_net).class_))] ?_
        refine OJ.nil ?_
        exact SJ.ret rfl (Res.run (ys := [.int .i64 ((Vec.g x3 s4 z_addr_net).class_)]) (.tmp (by kernel_rfl) .nil) rfl)
      · refine SJ.skip ?_
        refine SJ.inBlock ?_
        refine SJ.rg 2 ?_
        refine OJ.go 2 [(9, .int .i64 (IntKind.wrap .i64 (s4 + 1))), (29, .int .i64 (IntKind.wrap .i64 (s4 + 1)))] ?_
        refine OJ.nil ?_
        refine SJ.forget (List.Sublist.cons _ (List.Sublist.cons_cons _ List.Sublist.slnil)) ?_
        exact SJ.at_ [1, 8, 9] rfl
  · refine SJ.exit (id := 0) (by rfl) ?_
    refine SJ.sr 1 ?_
    refine OJ.go 1 [(2, .int .i64 7)] ?_
    refine OJ.nil ?_
    exact SJ.ret rfl (Res.run (ys := [.int .i64 7]) (.tmp (by kernel_rfl) .nil) rfl)
noncomputable def addr_Class (a0 : api_IP) : M Int :=
  slot 27 >>= fun b1 =>
  addr_Valid a0 >>= fun r2 =>
  if ¬ (r2 = true) then
    pure 0
  else
    ld (c_addr_net.arr 12) ⟨0, 0, none⟩ >>= fun x3 =>
    loopM (fun s_ : Int => addr_Class.L1 a0 x3 s_) 0
theorem addr_Class_ok (a0 : api_IP) : Ref Tryd.prog 25 [c_api_IP.val a0] (addr_Class a0) addr_Class.out := by
  refine Ref.of (cd := addr_Class.B) Tryd.func25 ?_
  show SJ addr_Class.cx [.code addr_Class.B] [(0, c_api_IP.val a0)] [] (addr_Class a0) addr_Class.F0
  unfold addr_Class
  refine SJ.sr 2 ?_
  refine OJ.slotOf (d := 1) (op := (.box 27 (.tmp 0))) (cd := c_api_IP) (u := a0) (owed := []) (box_run (by kernel_rfl)) (fun b1 => ?_)
  refine OW.nil ?_
  refine OJ.go 1 [(2, .int .i64 0)] ?_
  refine OJ.nil ?_
  refine SJ.seq ?_
  refine SJ.sr 3 ?_
  refine OJ.kld (d := 5) (y := .tmp 1) (cd := c_api_IP) (j := 0) (b := b1) (o := 0) a0 (pend2 := []) Ty27 rfl (At.whole _) rfl ?_
  refine OJ.call (d := 6) (g := 19) (ats := #[27]) (args := [.tmp 5]) (owed := []) F19 (addr_Valid_ok a0) (fun r2 => ?_)
  refine OW.nil ?_
  refine OJ.go 1 [(7, .bool (!r2))] ?_
  refine OJ.nil ?_
  refine SJ.cond (t := (.tmp 7)) (b := (!r2)) (bnot_iff Iff.rfl) (fun hc19 => ?_) (fun hc19 => ?_)
  · refine SJ.sr 1 ?_
    refine OJ.go 1 [(2, .int .i64 0)] ?_
    refine OJ.nil ?_
    exact SJ.ret rfl (Res.run (ys := [.int .i64 0]) (.tmp (by kernel_rfl) .nil) rfl)
  · refine SJ.skip ?_
    refine SJ.seq ?_
    refine SJ.sr 2 ?_
    refine OJ.ld (d := 8) (y := .global 0) (pend2 := fun x3 => []) Ty96 (fun _ => rfl) (fun x3 => ?_)
    refine OJ.go 1 [(9, .int .i64 0)] ?_
    refine OJ.nil ?_
    refine SJ.block (id := 0) ?_
    exact SJ.loop (fun s_ : Int => [(1, .pointer (some (pt b1 0))), (8, (c_addr_net.arr 12).val x3), (9, .int .i64 s_)]) (fun s_ : Int => [(b1, c_api_IP.enc a0)]) [1, 8, 9] rfl (fun _ _ => rfl) (fun s_ => addr_Class.L1_ok a0 b1 x3 s_)
end Go.Proofs.YtddmmgcfanpmmaaDoor.Lx
